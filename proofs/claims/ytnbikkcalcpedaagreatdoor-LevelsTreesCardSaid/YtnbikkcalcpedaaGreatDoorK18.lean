/-
 Texts of this claim, put together: Conn3, RJoins.
-/
import Derived.Test.YtnbikkcalcpedaaGreatDoorK14
import Derived.Test.YtnbikkcalcpedaaGreatDoorK08
import Derived.Test.YtnbikkcalcpedaaGreatDoorK15
set_option maxRecDepth 100000
set_option maxHeartbeats 8000000
namespace Go.Proofs.YtnbikkcalcpedaaGreatDoor
open Go.RowKit
theorem mkey : Maps.Keyed Tryz.prog 3 := Maps.int_keyed Tryz.underlying3
theorem mzero (w : World) : (zeroValue 3).run Tryz.prog w = .ok (.int .i64 0) w := by kernel_rfl
def MapI (w : World) (b n : Nat) (f : Nat → Nat) : Prop :=
 ∃ D : DataW Unit, w.ownsMap Tryz.prog 3 (plainElem Tryz.prog 3) b n D ∧ Maps.IsMap D ∧ ∀ k : Nat, k < 1000 → f k < 1000 → D.atKey (.int .i64 k) (.lit (.int .i64 0)) = .lit (.int .i64 (f k))
section
variable {w w' : World} {b n : Nat} {f : Nat → Nat}
theorem small_wf {k : Nat} (hk : k < 1000) : (Lit.int .i64 (k : Int)).wf = true := by simp [Lit.wf, IntKind.min, IntKind.max, IntKind.bits, IntKind.signed]; omega
theorem MapI.made (w : World) : MapI (w.alloc (.map #[] 0)) w.heap.size 0 (fun _ => 0) := ⟨_, World.ownsMap_made _ _ _ _, Maps.isMap_empty, fun _ _ _ => rfl⟩
theorem MapI.lt (h : MapI w b n f) : b < w.heap.size := by obtain ⟨D, h, _⟩ := h; exact h.lt
theorem MapI.kept (h : MapI w b n f) (hk : w'.heap[b]? = w.heap[b]?) : MapI w' b n f := by
 obtain ⟨D, ⟨es, cl, hb, r⟩, h2⟩ := h
 exact ⟨D, ⟨es, cl, hk.trans hb, r⟩, h2⟩
theorem MapI.ne_blk (h : MapI w b n f) {g : Nat} {t : TypeId} {cs : Array Value} (hg : Blk w g t cs) : g ≠ b := by
 rintro rfl
 obtain ⟨D, ⟨es, cl, hb, r⟩, h2⟩ := h
 unfold Blk at hg
 rw [hg] at hb; cases hb
theorem MapI.look (h : MapI w b n f) {k : Nat} (hk : k < 1000) (hf : f k < 1000) : (Instr.lookup 316 (.map (some b)) (.int .i64 (k : Int)) false).run Tryz.prog w = .ok (.int .i64 (f k : Nat)) w := by
 obtain ⟨D, h1, _, h2⟩ := h
 obtain ⟨c, hrun, hat, _⟩ := h1.lookup_int mkey Tryz.underlying316 Tryz.underlying3 (mzero w) (Maps.keyOf_int_mk (P := Tryz.prog) Tryz.underlying3 (small_wf hk))
 rw [h2 k hk hf] at hat
 simp only [DataW.lit.injEq, Lit.int.injEq, true_and] at hat
 rw [hrun, ← hat]
theorem MapI.put (hn : n < 1000) (h : MapI w b n f) {k x : Nat} (hk : k < 1000) (hx : x < 1000) :
  ∃ w', (Instr.mapUpdate 316 (.map (some b)) (.int .i64 (k : Int)) (.int .i64 (x : Int))).run Tryz.prog w = .ok () w' ∧ MapI w' b (n + 1) (fun j => if j = k then x else f j) ∧ w.grownBy w' (some b) := by
 obtain ⟨D, h1, h3, h2⟩ := h
 obtain ⟨w', hrun, ho, hg⟩ := h1.update mkey Tryz.underlying316 (by simp only [maxLen]; omega) (Maps.keyOf_int_mk (P := Tryz.prog) (k := 3) Tryz.underlying3 (small_wf hk)) (plainElem_int Tryz.underlying3 (small_wf hx))
 refine ⟨w', hrun, ⟨_, ho, h3.put _ _, ?_⟩, hg⟩
 intro j hj hf
 by_cases he : j = k
 ·subst he
  simp only [if_true]
  exact Maps.atKey_put_same h3 (by simp [WideAt.IsKeyLit]) _ _
 ·simp only [if_neg he] at hf ⊢
  rw [Maps.atKey_put_other (fun e => by injection e with _ e; omega)]
  exact h2 j hj hf
end
def DisB (vs : List Value) : Prop := ∀ (i j k : Nat) (u v : Value), vs[i]? = some u → vs[j]? = some v → u.ownBlock = some k → v.ownBlock = some k → i = j
theorem DisB.nil_ : DisB [] := fun i j k u v h => by simp at h
theorem DisB.push {vs : List Value} (h : DisB vs) : DisB (vs ++ [.slice none 0 0]) := by
 have one : ∀ {i : Nat} {u : Value} {k : Nat}, (vs ++ [Value.slice none 0 0])[i]? = some u → u.ownBlock = some k → vs[i]? = some u := by
  intro i u k hu hk
  rcases Nat.lt_trichotomy i vs.length with hlt | rfl | hgt
  ·rwa [List.getElem?_append_left hlt] at hu
  ·have : u = .slice none 0 0 := by simpa using hu.symm
   subst this; simp [Value.ownBlock] at hk
  ·rw [List.getElem?_eq_none (by simp; omega)] at hu; cases hu
 intro i j k u v hu hv hk hk'
 exact h i j k u v (one hu hk) (one hv hk') hk hk'
theorem DisB.set {vs : List Value} (h : DisB vs) {i : Nat} {v v' : Value} (hi : vs[i]? = some v) {S : Nat} (hlt : ∀ (j : Nat) (u : Value) (k : Nat), vs[j]? = some u → u.ownBlock = some k → k < S) (hv : v'.ownBlock = v.ownBlock ∨ v'.ownBlock = some S) : DisB (vs.set i v') := by
 have hil : i < vs.length := (List.getElem?_eq_some_iff.1 hi).1
 intro a b k u u' ha hb hk hk'
 by_cases ea : a = i <;> by_cases eb : b = i
 ·omega
 ·subst ea
  rw [List.getElem?_set_self hil] at ha
  rw [List.getElem?_set_ne (fun e => eb e.symm)] at hb
  injection ha with ha
  subst ha
  rcases hv with hv | hv
  ·exact h a b k v u' hi hb (hv ▸ hk) hk'
  ·rw [hv] at hk
   injection hk with hk
   have := hlt b u' k hb hk'
   omega
 ·subst eb
  rw [List.getElem?_set_self hil] at hb
  rw [List.getElem?_set_ne (fun e => ea e.symm)] at ha
  injection hb with hb
  subst hb
  rcases hv with hv | hv
  ·exact h a b k u v ha hi hk (hv ▸ hk')
  ·rw [hv] at hk'
   injection hk' with hk'
   have := hlt a u k ha hk
   omega
 ·rw [List.getElem?_set_ne (fun e => ea e.symm)] at ha
  rw [List.getElem?_set_ne (fun e => eb e.symm)] at hb
  exact h a b k u u' ha hb hk hk'
theorem OwnRows.grow {w w1 : World} {base : Nat} {A A1 A2 : Option Addr} {c c1 c2 : Nat} {vs : List Value} {xss : List (List Int)} {i g : Nat} {xs : List Int} {y : Int} (h : OwnRows w base A c vs xss) (hd : DisB vs)
  (hA : A = some ⟨g, 0, none⟩) (hi : xss[i]? = some xs) (hv : vs[i]? = some (.slice A1 xs.length c1)) (h2 : OwnI w1 base A2 c2 (xs ++ [y])) (hg : w.grownBy w1 (Value.slice A1 xs.length c1).ownBlock) :
  OwnRows (w1.setCell ⟨g, i, none⟩ (.slice A2 (xs.length + 1) c2)) base A c (vs.set i (.slice A2 (xs.length + 1) c2)) (xss.set i (xs ++ [y])) := by
 subst hA
 have hil : i < xss.length := (List.getElem?_eq_some_iff.1 hi).1
 have hl := h.len
 obtain ⟨A1', c1', hv', ho1⟩ := h.2.2 i xs hi
 rw [hv] at hv'
 injection hv' with hv'; injection hv' with e1 _ e2; subst e1 e2
 have hgb : blockOf (some ⟨g, 0, none⟩) g := ⟨_, rfl, rfl⟩
 have ho : w1.ownsRow base 25 1 (.slice (some ⟨g, 0, none⟩) xss.length c) xss.length vs := own_kept h.1 fun k hk => hg.block k (own_lt h.1 hk).2 fun e => own_ne ho1 h.1 (by decide) (blockOf_own.1 e.symm) hk rfl
 have hs := (ho.stored i (.slice A2 (xs.length + 1) c2)).1
 have hint : ∀ {A3 : Option Addr} {c3 : Nat} {zs : List Int}, OwnI w1 base A3 c3 zs → OwnI (w1.setCell ⟨g, i, none⟩ (.slice A2 (xs.length + 1) c2)) base A3 c3 zs := fun {A3 c3 zs} h3 => own_kept h3 fun k hk => Below.heap_setCell w1 ⟨g, i, none⟩ _ k fun e => own_ne h3 ho (by decide) hk hgb e
 refine ⟨by rw [List.length_set]; exact hs, ?_, fun j zs hj => ?_⟩
 ·intro u hu
  rcases List.mem_or_eq_of_mem_set hu with hu | rfl
  ·exact h.2.1 u hu
  ·rfl
 ·by_cases he : j = i
  ·subst he
   rw [List.getElem?_set_self hil] at hj
   injection hj with hj
   subst hj
   exact ⟨A2, c2, by rw [List.getElem?_set_self (by omega)]; simp, hint h2⟩
  ·rw [List.getElem?_set_ne (fun e => he e.symm)] at hj
   obtain ⟨A3, c3, hv3, ho3⟩ := h.2.2 j zs hj
   refine ⟨A3, c3, by rw [List.getElem?_set_ne (fun e => he e.symm)]; exact hv3, hint (own_kept ho3 fun k hk => hg.block k (own_lt ho3 hk).2 fun e => he (hd j i k _ _ hv3 hv (blockOf_own.2 hk) e.symm))⟩
theorem parts_any (g : Nat) (f : List Nat) (hf : Forest f) (hl : f.length = 12) (n : Nat) (hn : n ≤ 12) (w : World) (h : Blk w g 266 (fcells f)) :
  Calls Tryz.prog 220 #[.pointer (some ⟨g, 0, none⟩), .int .i64 n] w fun e w' => ∃ A c vs xss, e = .returned (.slice A xss.length c) ∧ OwnRows w' w.heap.size A c vs xss ∧ Hid (xss.length = rootsTo f n) ∧ Below w.heap.size w w' := by
 have HF := Lib.hid hf
 have HL := Lib.hid hl
 have hmm := @run_makeMap Tryz.prog
 clear hf hl
 go_enter Tryz.func220, Tryz.ntmps220
 go_wp2
 go_loopw [5, 11] (fun s i wr => ∃ (k m : Nat) (A : Option Addr) (c : Nat) (vs : List Value) (xss : List (List Int)) (p : Nat → Nat), k ≤ n ∧ i = .int .i64 k ∧ s = .slice A xss.length c ∧ OwnRows wr (w.heap.size + 1) A c vs xss ∧ Hid (DisB vs) ∧ Hid (xss.length = rootsTo f k) ∧ MapI wr w.heap.size m p ∧ m ≤ k ∧ Hid (∀ v, v < k → rt f v = v → p v = rootsTo f v) ∧ Hid (∀ xs ∈ xss, xs.length ≤ k) ∧ Below w.heap.size w wr) (fun _ i _ => n - (intOf i).toNat)
 case atStart => exact ⟨0, 0, none, 0, [], [], fun _ => 0, by omega, rfl, rfl, OwnRows.nil_ _ _, DisB.nil_, rfl, MapI.made w, by omega, fun v hv => by omega, by simp [Hid], (Below.refl _ _).alloc (Nat.le_refl _) _⟩
 case round =>
  obtain ⟨k, m, A, c, vs, xss, p, hk, rfl, rfl, hrows, HD, HX, hmap, hm, HP, HB, hbel⟩ := hrel
  by_cases hlt : k < n
  ·have hi : (k : Int) < (n : Int) := by omega
   have hg := h.below hbel h.lt
   have RC := Lib.hid (root_any g f HF.out HL.out k (by omega) wr hg)
   have hrk := (rt_le HF.out k).1
   have hroot := (rt_le HF.out k).2
   have hrr : rt f (rt f k) = rt f k := rt_root HF.out hroot
   have HRR := Lib.hid hrr
   have hmono := rootsTo_mono (f := f) (a := rt f k + 1) (b := k + 1) (by omega)
   have hsr := rootsTo_succ f (rt f k)
   rw [if_pos hrr] at hsr
   have hsk := rootsTo_succ f k
   have hsz := hbel.size
   have hrk9 : ∀ j, rootsTo f j ≤ j := fun j => by unfold rootsTo; exact Nat.le_trans (List.length_filter_le _ _) (by simp)
   have hrl := hrk9 (rt f k)
   have hml := hmap.lt
   clear hroot
   by_cases hrv : rt f k = k
   ·rw [hrv] at RC
    rw [if_pos hrv] at hsk
    have hb : ((k : Int) == (k : Int)) = true := by simp
    obtain ⟨w1, hrun, hmap1, hgr1⟩ := hmap.put (by omega) (k := k) (x := xss.length) (by omega) (by rw [HX.out]; have := hrk9 k; omega)
    have hrows1 : OwnRows w1 (w.heap.size + 1) A c vs xss := hrows.kept fun q hq => hgr1.block q (hrows.lt hq).2 fun e => by injection e with e; have := (hrows.lt hq).1; omega
    have hgl := hrows1.1
    have hbel1 : Below w.heap.size w w1 := hbel.grown hgr1 hsz (fun q hq => by injection hq with hq; omega)
    have hrowsA : OwnRows (w1.alloc (.cells #[.slice none 0 0] 25)) (w.heap.size + 1) A c vs xss := hrows1.next ((Below.refl _ _).alloc (Nat.le_refl _) _)
    have hxl : xss.length ≤ 12 := by rw [HX.out]; have := hrk9 k; omega
    have hbase : w.heap.size + 1 ≤ (w1.alloc (.cells #[.slice none 0 0] 25)).heap.size := by have := hmap1.lt; simp; omega
    go_wp2_with first
     | (go_at_call 278; (with_reducible refine (RC.out).mono ?_); rintro e w' ⟨rfl, rfl⟩)
     | (at_builtin; refine append_go rfl (.tmp 24) (.tmp 25) _ rfl (w.heap.size + 1) 25 Tryz.underlying82 info_row rfl (by omega) A c xss.length vs rfl hrowsA.1 _ [.slice none 0 0] rfl (Reads.box _ _ _) (by simp [Value.oneCell']) (by omega) hbase ?_; intro A2 c2 W hown2 hgr2 hb2 hwhere)
    have hrW : OwnRows W (w.heap.size + 1) A2 c2 (vs ++ [.slice none 0 0]) (xss ++ [[]]) := OwnRows.push hrowsA (OwnI.nil_ _ _) hown2 hgr2
    have HDW := Lib.hid HD.out.push
    have HXW : Hid ((xss ++ [[]]).length = rootsTo f (k + 1)) := by rw [Hid, List.length_append, HX.out, hsk]; rfl
    have mapW : MapI W w.heap.size (m + 1) (fun j => if j = k then xss.length else p j) := (hmap1.kept (w' := w1.alloc (.cells #[.slice none 0 0] 25)) (Below.heap_alloc _ _ _ hmap1.lt)).kept (hgr2.block _ (by have := hmap1.lt; simp; omega) fun e => by have := (hrowsA.1.lt _ e.symm).1; omega)
    have HPW : Hid (∀ v, v < k + 1 → rt f v = v → (fun j => if j = k then xss.length else p j) v = rootsTo f v) := by
     intro v hv hv2
     by_cases e : v = k
     ·subst e; simp [HX.out]
     ·simp only [if_neg e]; exact HP.out v (by omega) hv2
    have HBW : Hid (∀ xs ∈ xss ++ [[]], xs.length ≤ k) := by
     intro xs hxs
     rcases List.mem_append.1 hxs with hxs | hxs
     ·exact HB.out xs hxs
     ·rw [List.mem_singleton.1 hxs]; simp
    have belW : Below w.heap.size w W := hbel1.trans (((Below.refl _ _).alloc (by have := hmap1.lt; omega) _).trans (hb2.mono (by omega)))
    clear hrows hmap hrun hmap1 hrows1 hgr1 hrowsA hb
    obtain ⟨g2, rfl, hg2l⟩ : ∃ g2, A2 = some ⟨g2, 0, none⟩ ∧ g2 < W.heap.size := by
     obtain ⟨g2, cap2, hAg, _, hg2l⟩ := hrW.1.form (by simp)
     injection hAg with hAg _ hcg
     exact ⟨g2, hAg, hg2l⟩
    obtain ⟨xs, hxs⟩ := get_of_lt (xs := (xss ++ [[]])) (k := xss.length) (by (try simp); try omega)
    obtain ⟨A1, c1, hv1, ho1⟩ := hrW.2.2 _ xs hxs
    have hxl1 : xs.length ≤ k := HBW.out xs (List.mem_of_getElem? hxs)
    have cI : W.cell? ⟨g2, xss.length, none⟩ = some (.slice A1 xs.length c1) := ((Reads.of_own hrW.1).2 (by simp)).elim fun b hb => by
     obtain ⟨off, e, _, hc⟩ := hb
     injection e with e; injection e with e1 e2; subst e1 e2
     have := hc _ _ hv1
     rwa [Nat.zero_add] at this
    have LK1 := MapI.look (w := W.drew) (mapW.kept rfl) (k := k) (by omega) (by (simp; omega))
    have LK2 := MapI.look (w := (W.alloc (.cells #[.int .i64 k] 3)).drew) (mapW.kept (Below.heap_alloc _ _ _ mapW.lt)) (k := k) (by omega) (by (simp; omega))
    simp only [if_true] at LK1 LK2
    have hbW := belW.size
    have hnb := mapW.lt
    have hiI : (xss.length : Int) < (xss.length : Int) + 1 := by omega
    have hiI2 : xss.length < xss.length + 1 := by (try simp); try omega
    have ho1' := (OwnI.drew ho1).alloc (.cells #[.int .i64 k] 3)
    have hO1 : (W.drew.alloc (.cells #[.int .i64 k] 3)).ownsRow (w.heap.size + 1) 25 1 (.slice (some ⟨g2, 0, none⟩) (xss.length + 1) c2) (xss.length + 1) (vs ++ [.slice none 0 0]) := World.ownsRow.alloc (World.ownsRow.drew hown2) _
    have hrWa : OwnRows (W.drew.alloc (.cells #[.int .i64 k] 3)) (w.heap.size + 1) (some ⟨g2, 0, none⟩) c2 (vs ++ [.slice none 0 0]) (xss ++ [[]]) := (hrW.kept (w' := W.drew) fun _ _ => rfl).next ((Below.refl _ _).alloc (Nat.le_refl _) _)
    have cIa : (W.alloc (.cells #[.int .i64 k] 3)).drew.cell? ⟨g2, xss.length, none⟩ = some (.slice A1 xs.length c1) := (World.cell?_alloc_lt _ _ _ (by exact hg2l)).trans cI
    go_region_law (refine append_step2 rfl (.tmp 36) (.tmp 38) _ _ rfl (w.heap.size + 1) 3 3 Tryz.underlying25 Tryz.underlying25 info_int rfl (by omega) A1 c1 xs.length (ints xs) rfl (by exact ho1') (W.heap.size + 1) [.int .i64 k] rfl (by exact Reads.box W.drew (.int .i64 k) 3) (by simp [Value.oneCell']) (by omega) (by simp; omega) ?_; intro A3 c3 W3 hown3 hgr3 hb3 hwh3
                   have hrow3 : W3.ownsRow (w.heap.size + 1) 25 1 (.slice (some ⟨g2, 0, none⟩) (xss.length + 1) c2) (xss.length + 1) (vs ++ [.slice none 0 0]) := own_kept hO1 fun q hq => hgr3.block q (own_lt hO1 hq).2 fun e => own_ne ho1' hO1 (by decide) (blockOf_own.1 e.symm) hq rfl
                   have cI3 := (hrow3.cellAt xss.length (by omega)).trans hv1
                   have fI3 := hrow3.frozenAt xss.length
                   have LK3 := MapI.look (w := W3) ((mapW.kept (w' := W.drew.alloc (.cells #[.int .i64 k] 3)) (Below.heap_alloc _ _ _ mapW.lt)).kept (hgr3.block _ (by simp; omega) fun e => by have := (OwnI.lt ho1' _ e.symm).1; omega)) (k := k) (by omega) (by (simp; omega))
                   simp only [if_true] at LK3)
    all_goals (
     have hX3 : OwnI W3 (w.heap.size + 1) A3 c3 (xs ++ [(k : Int)]) := by unfold OwnI; rw [List.length_append, ints_snoc]; exact hown3
     have hg2b : w.heap.size + 1 ≤ g2 := (own_lt hrow3 ⟨_, rfl, rfl⟩).1
     have hmap3 := ((mapW.kept (w' := W.drew.alloc (.cells #[.int .i64 k] 3)) (Below.heap_alloc _ _ _ mapW.lt)).kept (hgr3.block _ (by simp; omega) fun e => by have := (OwnI.lt ho1' _ e.symm).1; omega))
     have hD3 := Lib.hid (HDW.out.set hv1 (v' := .slice A3 (xs.length + 1) c3) (S := (W.drew.alloc (.cells #[.int .i64 k] 3)).heap.size) (fun j u q hj hq => (hrWa.lt (.inr ⟨u, List.mem_of_getElem? hj, hq⟩)).2) hwh3)
     have hR3 := hrWa.grow HDW.out rfl hxs hv1 hX3 hgr3
     have hB3 : Below w.heap.size w W3 := (belW.drew.alloc hbW (.cells #[.int .i64 k] 3)).trans (hb3.mono (by omega))
     have hB4 : Hid (∀ ys ∈ (xss ++ [[]]).set (xss.length) (xs ++ [(k : Int)]), ys.length ≤ k + 1) := by
      intro ys hys
      rcases List.mem_or_eq_of_mem_set hys with hys | rfl
      ·have := HBW.out ys hys; omega
      ·simp; omega
     go_wp2
     go_roundw
     case rel =>
      exact ⟨k + 1, m + 1, some ⟨g2, 0, none⟩, c2, _, (xss ++ [[]]).set (xss.length) (xs ++ [(k : Int)]), (fun j => if j = k then xss.length else p j), by omega, by go_num, by simp, hR3, hD3, by rw [Hid, List.length_set]; exact HXW.out, hmap3.kept (Below.heap_setCell W3 ⟨g2, xss.length, none⟩ _ _ (by simp; omega)), by omega, HPW, hB4, hB3.setCell (by simp; omega) _⟩
     case measure => simp [intOf]; omega)
   ·rw [if_neg hrv] at hsk
    have hpr := HP.out (rt f k) (by omega) hrr
    have hpl : p (rt f k) < xss.length := by rw [hpr, HX.out]; omega
    have hp12 : p (rt f k) < 1000 := by rw [hpr]; omega
    have hb : (((rt f k : Nat) : Int) == (k : Int)) = false := by simp; omega
    have HXW : Hid (xss.length = rootsTo f (k + 1)) := by rw [Hid, HX.out, hsk]; rfl
    have HPW : Hid (∀ v, v < k + 1 → rt f v = v → p v = rootsTo f v) := by
     intro v hv hv2
     by_cases e : v = k
     ·subst e; exact absurd hv2 hrv
     ·exact HP.out v (by omega) hv2
    have hrW := hrows
    have HDW := HD
    have mapW := hmap
    have HBW := HB
    have belW := hbel
    obtain ⟨W, hW⟩ : ∃ W, W = wr := ⟨_, rfl⟩
    subst hW
    have hxl12 : xss.length ≤ 12 := by rw [HX.out]; have := hrk9 k; omega
    clear hrows hmap hbel hpr hrr hsr hsk hrv
    go_wp2_with (go_at_call 278; (with_reducible refine (RC.out).mono ?_); rintro e w' ⟨rfl, rfl⟩)
    obtain ⟨g2, rfl, hg2l⟩ : ∃ g2, A = some ⟨g2, 0, none⟩ ∧ g2 < W.heap.size := by
     obtain ⟨g2, cap2, hAg, _, hg2l⟩ := hrW.1.form (by omega)
     injection hAg with hAg _ hcg
     exact ⟨g2, hAg, hg2l⟩
    obtain ⟨xs, hxs⟩ := get_of_lt (xs := xss) (k := p (rt f k)) (by exact hpl)
    obtain ⟨A1, c1, hv1, ho1⟩ := hrW.2.2 _ xs hxs
    have hxl1 : xs.length ≤ k := HBW.out xs (List.mem_of_getElem? hxs)
    have cI : W.cell? ⟨g2, p (rt f k), none⟩ = some (.slice A1 xs.length c1) := ((Reads.of_own hrW.1).2 (by omega)).elim fun b hb => by
     obtain ⟨off, e, _, hc⟩ := hb
     injection e with e; injection e with e1 e2; subst e1 e2
     have := hc _ _ hv1
     rwa [Nat.zero_add] at this
    have LK1 := MapI.look (w := W.drew) (mapW.kept rfl) (k := rt f k) (by omega) (by omega)
    have LK2 := MapI.look (w := (W.alloc (.cells #[.int .i64 k] 3)).drew) (mapW.kept (Below.heap_alloc _ _ _ mapW.lt)) (k := rt f k) (by omega) (by omega)
    have hbW := belW.size
    have hnb := mapW.lt
    have hiI : ((p (rt f k) : Nat) : Int) < (xss.length : Int) := by omega
    have hiI2 : p (rt f k) < xss.length := hpl
    have ho1' := (OwnI.drew ho1).alloc (.cells #[.int .i64 k] 3)
    have hO1 : (W.drew.alloc (.cells #[.int .i64 k] 3)).ownsRow (w.heap.size + 1) 25 1 (.slice (some ⟨g2, 0, none⟩) (xss.length) c) (xss.length) vs := World.ownsRow.alloc (World.ownsRow.drew hrW.1) _
    have hrWa : OwnRows (W.drew.alloc (.cells #[.int .i64 k] 3)) (w.heap.size + 1) (some ⟨g2, 0, none⟩) c vs xss := (hrW.kept (w' := W.drew) fun _ _ => rfl).next ((Below.refl _ _).alloc (Nat.le_refl _) _)
    have cIa : (W.alloc (.cells #[.int .i64 k] 3)).drew.cell? ⟨g2, p (rt f k), none⟩ = some (.slice A1 xs.length c1) := (World.cell?_alloc_lt _ _ _ (by exact hg2l)).trans cI
    go_region_law (refine append_step2 rfl (.tmp 36) (.tmp 38) _ _ rfl (w.heap.size + 1) 3 3 Tryz.underlying25 Tryz.underlying25 info_int rfl (by omega) A1 c1 xs.length (ints xs) rfl (by exact ho1') (W.heap.size + 1) [.int .i64 k] rfl (by exact Reads.box W.drew (.int .i64 k) 3) (by simp [Value.oneCell']) (by omega) (by simp; omega) ?_; intro A3 c3 W3 hown3 hgr3 hb3 hwh3
                   have hrow3 : W3.ownsRow (w.heap.size + 1) 25 1 (.slice (some ⟨g2, 0, none⟩) (xss.length) c) (xss.length) vs := own_kept hO1 fun q hq => hgr3.block q (own_lt hO1 hq).2 fun e => own_ne ho1' hO1 (by decide) (blockOf_own.1 e.symm) hq rfl
                   have cI3 := (hrow3.cellAt (p (rt f k)) (by omega)).trans hv1
                   have fI3 := hrow3.frozenAt (p (rt f k))
                   have LK3 := MapI.look (w := W3) ((mapW.kept (w' := W.drew.alloc (.cells #[.int .i64 k] 3)) (Below.heap_alloc _ _ _ mapW.lt)).kept (hgr3.block _ (by simp; omega) fun e => by have := (OwnI.lt ho1' _ e.symm).1; omega)) (k := rt f k) (by omega) (by omega))
    all_goals (
     have hX3 : OwnI W3 (w.heap.size + 1) A3 c3 (xs ++ [(k : Int)]) := by unfold OwnI; rw [List.length_append, ints_snoc]; exact hown3
     have hg2b : w.heap.size + 1 ≤ g2 := (own_lt hrow3 ⟨_, rfl, rfl⟩).1
     have hmap3 := ((mapW.kept (w' := W.drew.alloc (.cells #[.int .i64 k] 3)) (Below.heap_alloc _ _ _ mapW.lt)).kept (hgr3.block _ (by simp; omega) fun e => by have := (OwnI.lt ho1' _ e.symm).1; omega))
     have hD3 := Lib.hid (HDW.out.set hv1 (v' := .slice A3 (xs.length + 1) c3) (S := (W.drew.alloc (.cells #[.int .i64 k] 3)).heap.size) (fun j u q hj hq => (hrWa.lt (.inr ⟨u, List.mem_of_getElem? hj, hq⟩)).2) hwh3)
     have hR3 := hrWa.grow HDW.out rfl hxs hv1 hX3 hgr3
     have hB3 : Below w.heap.size w W3 := (belW.drew.alloc hbW (.cells #[.int .i64 k] 3)).trans (hb3.mono (by omega))
     have hB4 : Hid (∀ ys ∈ xss.set (p (rt f k)) (xs ++ [(k : Int)]), ys.length ≤ k + 1) := by
      intro ys hys
      rcases List.mem_or_eq_of_mem_set hys with hys | rfl
      ·have := HBW.out ys hys; omega
      ·simp; omega
     go_wp2
     go_roundw
     case rel =>
      exact ⟨k + 1, m, some ⟨g2, 0, none⟩, c, _, xss.set (p (rt f k)) (xs ++ [(k : Int)]), p, by omega, by go_num, by simp, hR3, hD3, by rw [Hid, List.length_set]; exact HXW.out, hmap3.kept (Below.heap_setCell W3 ⟨g2, p (rt f k), none⟩ _ _ (by simp; omega)), by omega, HPW, hB4, hB3.setCell (by simp; omega) _⟩
     case measure => simp [intOf]; omega)
  ·obtain rfl : k = n := by omega
   go_wp2
   go_ret
   exact ⟨A, c, vs, xss, rfl, hrows.mono (Nat.le_succ _), HX, hbel⟩
end Go.Proofs.YtnbikkcalcpedaaGreatDoor
namespace Go.Proofs.YtnbikkcalcpedaaGreatDoor
open Go.RowKit
theorem components_ok (n : Nat) (A : Option Addr) (c : Nat) (es : List E3) (hn : es.length ≤ 1048576) (hck : checkG n es = 0) (w : World) (h : Reads w w.heap.size 3 A es.length (edgeCells es)) :
  Calls Tryz.prog 163 #[.agg #[.int .i64 n, .slice A es.length c]] w fun e w' => ∃ d m : Nat, ∃ A', e = .returned (.tuple #[.slice A' m d, .int .i64 0]) ∧ Hid (decide (m = 1) = connB n es) ∧ Below w.heap.size w w' := by
 have hG := right_of hck
 have hhi := hG.hi
 have HG := Lib.hid hG
 have GC := Lib.hid (gcheck_any n A c es hn)
 rw [hck] at GC
 have hj := Lib.hid (joined_any n A c es hn hG)
 clear hck hG
 go_enter Tryz.func163, Tryz.ntmps163
 have g0 := Blk.new w 24 #[.int .i64 n, .slice A es.length c]
 go_wp2_with fail
 refine (GC.out _ ((h.alloc (Nat.le_refl _) _).more (by simp))).mono ?_
 rintro e w1 ⟨rfl, hb1⟩
 have g1 := g0.next hb1
 have hbel1 : Below w.heap.size w w1 := ((Below.refl _ _).alloc (Nat.le_refl _) _).trans (hb1.mono (by simp))
 have c10 := g1.cell 0
 have c11 := g1.cell 1
 have hs1 := g1.lt
 go_wp2_with fail
 refine (hj.out _ ((h.below hbel1).more (by omega))).mono ?_
 rintro e w2 ⟨f, rfl, hJ, hb2⟩
 obtain ⟨a0, a1, a2, a3, a4, a5, a6, a7, a8, a9, a10, a11, rfl⟩ := list12 hJ.len
 have g2 := g1.next hb2
 have hbel2 : Below w.heap.size w w2 := hbel1.trans (hb2.mono (by omega))
 have g3 := g2.alloc (.cells #[.int .i64 (a0 : Nat), .int .i64 (a1 : Nat), .int .i64 (a2 : Nat), .int .i64 (a3 : Nat), .int .i64 (a4 : Nat), .int .i64 (a5 : Nat), .int .i64 (a6 : Nat), .int .i64 (a7 : Nat), .int .i64 (a8 : Nat), .int .i64 (a9 : Nat), .int .i64 (a10 : Nat), .int .i64 (a11 : Nat)] 266)
 have gf : Blk (w2.alloc (.cells #[.int .i64 (a0 : Nat), .int .i64 (a1 : Nat), .int .i64 (a2 : Nat), .int .i64 (a3 : Nat), .int .i64 (a4 : Nat), .int .i64 (a5 : Nat), .int .i64 (a6 : Nat), .int .i64 (a7 : Nat), .int .i64 (a8 : Nat), .int .i64 (a9 : Nat), .int .i64 (a10 : Nat), .int .i64 (a11 : Nat)] 266)) w2.heap.size 266 (fcells [a0, a1, a2, a3, a4, a5, a6, a7, a8, a9, a10, a11]) := Blk.new w2 266 #[.int .i64 (a0 : Nat), .int .i64 (a1 : Nat), .int .i64 (a2 : Nat), .int .i64 (a3 : Nat), .int .i64 (a4 : Nat), .int .i64 (a5 : Nat), .int .i64 (a6 : Nat), .int .i64 (a7 : Nat), .int .i64 (a8 : Nat), .int .i64 (a9 : Nat), .int .i64 (a10 : Nat), .int .i64 (a11 : Nat)]
 have hs2 := g2.lt
 have c20 := g3.cell 0
 have c21 := g3.cell 1
 have hbel3 := hbel2.alloc hbel2.size (.cells #[.int .i64 (a0 : Nat), .int .i64 (a1 : Nat), .int .i64 (a2 : Nat), .int .i64 (a3 : Nat), .int .i64 (a4 : Nat), .int .i64 (a5 : Nat), .int .i64 (a6 : Nat), .int .i64 (a7 : Nat), .int .i64 (a8 : Nat), .int .i64 (a9 : Nat), .int .i64 (a10 : Nat), .int .i64 (a11 : Nat)] 266)
 have PC := Lib.hid (parts_any w2.heap.size _ hJ.forest hJ.len n (by omega) _ gf)
 have HC := Lib.hid (connB_joins HG.out hJ)
 rw [show fcells [a0, a1, a2, a3, a4, a5, a6, a7, a8, a9, a10, a11] = #[.int .i64 (a0 : Nat), .int .i64 (a1 : Nat), .int .i64 (a2 : Nat), .int .i64 (a3 : Nat), .int .i64 (a4 : Nat), .int .i64 (a5 : Nat), .int .i64 (a6 : Nat), .int .i64 (a7 : Nat), .int .i64 (a8 : Nat), .int .i64 (a9 : Nat), .int .i64 (a10 : Nat), .int .i64 (a11 : Nat)] from rfl]
 clear hJ gf g3 g2 g1 g0
 go_wp2_with fail
 refine (PC.out).mono ?_
 rintro e w3 ⟨A', c', vs, xss, rfl, _, HX, hb3⟩
 obtain ⟨m, hm⟩ : ∃ m, xss.length = m := ⟨_, rfl⟩
 rw [hm] at HX ⊢
 have hbel4 : Below w.heap.size w w3 := hbel3.trans (hb3.mono (by simp; omega))
 have HM : Hid (decide (m = 1) = connB n es) := by rw [Hid, HC.out, HX.out]
 clear hm HX
 go_wp2
 refine bodyPost_ret (v := .tuple #[.slice A' m c', .int .i64 0]) (by simp [results, Tryz.results163, go_sem]) rfl ⟨c', m, A', rfl, HM, hbel4⟩
theorem components_bad (n : Int) (A : Option Addr) (c : Nat) (es : List E3) (hn : es.length ≤ 1048576) (hck : checkG n es ≠ 0) (w : World) (h : Reads w w.heap.size 3 A es.length (edgeCells es)) :
  Calls Tryz.prog 163 #[.agg #[.int .i64 n, .slice A es.length c]] w fun e w' => e = .returned (.tuple #[.slice none 0 0, .int .i64 (checkG n es)]) ∧ Below w.heap.size w w' := by
 have GC := Lib.hid (gcheck_any n A c es hn)
 obtain ⟨q, hq⟩ : ∃ q, checkG n es = q := ⟨_, rfl⟩
 rw [hq] at GC hck ⊢
 have hb : (q != 0) = true := by simpa using hck
 clear hck hq
 go_enter Tryz.func163, Tryz.ntmps163
 go_wp2_with fail
 refine (GC.out _ ((h.alloc (Nat.le_refl _) _).more (by simp))).mono ?_
 rintro e w1 ⟨rfl, hb1⟩
 have hbel1 : Below w.heap.size w w1 := ((Below.refl _ _).alloc (Nat.le_refl _) _).trans (hb1.mono (by simp))
 go_wp2
 refine bodyPost_ret (v := .tuple #[.slice none 0 0, .int .i64 q]) (by simp [results, Tryz.results163, go_sem]) rfl ⟨rfl, hbel1⟩
theorem connected_ok (n : Nat) (A : Option Addr) (c : Nat) (es : List E3) (hn : es.length ≤ 1048576) (hck : checkG n es = 0) (w : World) (h : Reads w w.heap.size 3 A es.length (edgeCells es)) :
  Calls Tryz.prog 109 #[.agg #[.int .i64 n, .slice A es.length c]] w fun e w' => e = .returned (.tuple #[.bool (connB n es), .int .i64 0]) ∧ Below w.heap.size w w' := by
 have GC := Lib.hid (components_ok n A c es hn hck)
 obtain ⟨q, hq⟩ : ∃ q, connB n es = q := ⟨_, rfl⟩
 rw [hq] at GC ⊢
 clear hck hq
 go_enter Tryz.func109, Tryz.ntmps109
 go_wp2_with fail
 refine (GC.out _ ((h.alloc (Nat.le_refl _) _).more (by simp))).mono ?_
 rintro e w1 ⟨d, m, A', rfl, HM, hb1⟩
 have hbel1 : Below w.heap.size w w1 := ((Below.refl _ _).alloc (Nat.le_refl _) _).trans (hb1.mono (by simp))
 cases q
 ·have hb : ((m : Int) == 1) = false := by have := HM.out; simp at this; simp; omega
  go_wp2
  refine bodyPost_ret (v := .tuple #[.bool false, .int .i64 0]) (by simp [results, Tryz.results109, go_sem]) rfl ⟨rfl, hbel1⟩
 ·have hb : ((m : Int) == 1) = true := by have := HM.out; simp at this; simp; omega
  go_wp2
  refine bodyPost_ret (v := .tuple #[.bool true, .int .i64 0]) (by simp [results, Tryz.results109, go_sem]) rfl ⟨rfl, hbel1⟩
theorem connected_bad (n : Int) (A : Option Addr) (c : Nat) (es : List E3) (hn : es.length ≤ 1048576) (hck : checkG n es ≠ 0) (w : World) (h : Reads w w.heap.size 3 A es.length (edgeCells es)) :
  Calls Tryz.prog 109 #[.agg #[.int .i64 n, .slice A es.length c]] w fun e w' => e = .returned (.tuple #[.bool false, .int .i64 (checkG n es)]) ∧ Below w.heap.size w w' := by
 have GC := Lib.hid (components_bad n A c es hn hck)
 obtain ⟨q, hq⟩ : ∃ q, checkG n es = q := ⟨_, rfl⟩
 rw [hq] at GC ⊢
 clear hck hq
 go_enter Tryz.func109, Tryz.ntmps109
 go_wp2_with fail
 refine (GC.out _ ((h.alloc (Nat.le_refl _) _).more (by simp))).mono ?_
 rintro e w1 ⟨rfl, hb1⟩
 have hbel1 : Below w.heap.size w w1 := ((Below.refl _ _).alloc (Nat.le_refl _) _).trans (hb1.mono (by simp))
 go_wp2
 refine bodyPost_ret (v := .tuple #[.bool false, .int .i64 q]) (by simp [results, Tryz.results109, go_sem]) rfl ⟨rfl, hbel1⟩
def marks (n : Nat) (l : List Nat) : List Bool := (List.range n).map fun u => decide (u ∈ l)
theorem marks_length (n : Nat) (l : List Nat) : (marks n l).length = n := by simp [marks]
theorem marks_get {n u : Nat} (h : u < n) (l : List Nat) : (marks n l)[u]? = some (decide (u ∈ l)) := by simp [marks, h]
theorem marks_set {n u : Nat} (h : u < n) (l : List Nat) : (marks n l).set u true = marks n (l ++ [u]) := by
 apply List.ext_getElem?
 intro i
 by_cases hi : i < n
 ·by_cases e : i = u
  ·subst e
   rw [List.getElem?_set_self (by rw [marks_length]; exact hi), marks_get hi]; simp
  ·rw [List.getElem?_set_ne (fun e' => e e'.symm), marks_get hi, marks_get hi]; simp [e]
 ·rw [List.getElem?_eq_none (by simp [marks_length]; omega), List.getElem?_eq_none (by simp [marks_length]; omega)]
def pileV (n : Nat) (A : Option Addr) (m c : Nat) (q : Int) (B : Option Addr) (k d : Nat) : Value := .agg #[.int .i64 n, .slice A m c, .int .i64 q, .slice B k d]
def pileC (n : Nat) (A : Option Addr) (m c : Nat) (q : Int) (B : Option Addr) (k d : Nat) : Array Value := #[.int .i64 n, .slice A m c, .int .i64 q, .slice B k d]
theorem rjoins_any (n : Nat) (A : Option Addr) (c : Nat) (es : List E3) (hn : es.length ≤ 10000) (hok : ∀ e ∈ es, okE n e) (q : Int) (B : Option Addr) (kB dB : Nat) (v : Nat) (g : Nat) (l : List Nat) (w : World)
  (h : Reads w w.heap.size 3 A es.length (edgeCells es)) (hm : Blk w g 4 (bools (marks n l))) :
  Calls Tryz.prog 252 #[pileV n A es.length c q B kB dB, .int .i64 v, .slice (some ⟨g, 0, none⟩) n n] w fun e w' => e = .returned (.int .i64 (jnE es l v)) ∧ Below w.heap.size w w' := by
 have HOK := Lib.hid hok
 have HVB := Lib.hid (fun k => jnE_bd (es := es.take k) (fun e he => hok e (List.mem_of_mem_take he)) l v)
 have g0 := Blk.new w 138 (pileC n A es.length c q B kB dB)
 have c1 := g0.cell 1
 have hgl := hm.lt
 simp only [pileC] at c1 g0
 clear hok
 unfold pileV
 go_enter Tryz.func252, Tryz.ntmps252
 go_wp2_with fail
 go_loopw [7, 14] (fun s i wl => ∃ (k : Nat), i = .int .i64 k ∧ s = .int .i64 (jnE (es.take k) l v) ∧ k ≤ es.length ∧ Below w.heap.size w wl) (fun _ i _ => es.length - (intOf i).toNat)
 case atStart => exact ⟨0, rfl, rfl, by omega, (Below.refl _ _).alloc (Nat.le_refl _) _⟩
 case round =>
  obtain ⟨k, rfl, rfl, hk, hbel⟩ := hrel
  clear g0 c1
  by_cases hlt : k < es.length
  ·obtain ⟨⟨x, y, m⟩, hx⟩ := get_of_lt hlt
   have hok := HOK.out _ (List.mem_of_getElem? hx)
   unfold okE at hok
   dsimp only at hok
   obtain ⟨a, rfl⟩ := Int.eq_ofNat_of_zero_le (show 0 ≤ x by omega)
   obtain ⟨b, rfl⟩ := Int.eq_ofNat_of_zero_le (show 0 ≤ y by omega)
   have hi : (k : Int) < (es.length : Int) := by omega
   obtain ⟨bE, off, hA, hbb, q1, q2, q3⟩ := (h.below hbel).edge hx
   subst hA
   dsimp only at q1 q2 q3
   have e3 := Blk.new wr 107 #[.int .i64 a, .int .i64 b, .int .i64 m]
   have p0 := e3.cell 0
   have p1 := e3.cell 1
   have p2 := e3.cell 2
   have hm2 := (hm.below hbel hgl).alloc (.cells #[.int .i64 a, .int .i64 b, .int .i64 m] 107)
   have ma := (hm2.cell a).trans (bools_get (marks_get (by omega) l))
   have mb := (hm2.cell b).trans (bools_get (marks_get (by omega) l))
   have ia : (a : Int) < (n : Int) := by omega
   have ib : (b : Int) < (n : Int) := by omega
   have hs := jnE_snoc hx l v
   unfold jnT at hs
   simp only [Int.toNat_natCast] at hs
   have hb0 := HVB.out k
   have hb2 := hbel.alloc hbel.size (.cells #[.int .i64 a, .int .i64 b, .int .i64 m] 107)
   have htl : (es.take k).length ≤ 10000 := by rw [List.length_take]; omega
   obtain ⟨S, hS⟩ : ∃ S, jnE (es.take k) l v = S := ⟨_, rfl⟩
   rw [hS] at hb0 hs ⊢
   clear hS hx
   have hw : IntKind.i64.wrap (S + m) = S + m := IntWalk.i64_in _ (by omega)
   by_cases hxy : (a : Int) = (b : Int)
   ·have n1 : ((a : Int) != (b : Int)) = false := by simp [hxy]
    rw [if_neg (fun h => h.1 hxy)] at hs
    have HS := Lib.hid hs
    clear hs hxy ma mb
    go_wp2
    go_roundw
    case rel => exact ⟨k + 1, by go_num, by rw [HS.out, Int.add_zero], by omega, hb2⟩
    case measure => simp [intOf]; omega
   ·have n1 : ((a : Int) != (b : Int)) = true := by simp at hxy ⊢; omega
    by_cases hxv : (a : Int) = (v : Int)
    ·have n2 : ((a : Int) == (v : Int)) = true := by simpa using hxv
     have n3 : ((b : Int) == (v : Int)) = false := by simp; omega
     by_cases hbl : b ∈ l
     ·rw [if_pos ⟨hxy, .inl ⟨hxv, hbl⟩⟩] at hs
      rw [decide_eq_true hbl] at mb
      have HS := Lib.hid hs
      clear hs hxy hxv hbl ma
      go_wp2
      go_roundw
      case rel => exact ⟨k + 1, by go_num, by rw [HS.out], by omega, hb2⟩
      case measure => simp [intOf]; omega
     ·rw [if_neg (fun h => h.2.elim (fun h => hbl h.2) (fun h => by omega))] at hs
      rw [decide_eq_false hbl] at mb
      have HS := Lib.hid hs
      clear hs hxy hxv hbl ma
      go_wp2
      go_roundw
      case rel => exact ⟨k + 1, by go_num, by rw [HS.out, Int.add_zero], by omega, hb2⟩
      case measure => simp [intOf]; omega
    ·have n2 : ((a : Int) == (v : Int)) = false := by simpa using hxv
     by_cases hyv : (b : Int) = (v : Int)
     ·have n3 : ((b : Int) == (v : Int)) = true := by simpa using hyv
      by_cases hal : a ∈ l
      ·rw [if_pos ⟨hxy, .inr ⟨hyv, hal⟩⟩] at hs
       rw [decide_eq_true hal] at ma
       have HS := Lib.hid hs
       clear hs hxy hxv hyv hal mb
       go_wp2
       go_roundw
       case rel => exact ⟨k + 1, by go_num, by rw [HS.out], by omega, hb2⟩
       case measure => simp [intOf]; omega
      ·rw [if_neg (fun h => h.2.elim (fun h => hxv h.1) (fun h => hal h.2))] at hs
       rw [decide_eq_false hal] at ma
       have HS := Lib.hid hs
       clear hs hxy hxv hyv hal mb
       go_wp2
       go_roundw
       case rel => exact ⟨k + 1, by go_num, by rw [HS.out, Int.add_zero], by omega, hb2⟩
       case measure => simp [intOf]; omega
     ·have n3 : ((b : Int) == (v : Int)) = false := by simpa using hyv
      rw [if_neg (fun h => h.2.elim (fun h => hxv h.1) (fun h => hyv h.1))] at hs
      have HS := Lib.hid hs
      clear hs hxy hxv hyv ma mb
      go_wp2
      go_roundw
      case rel => exact ⟨k + 1, by go_num, by rw [HS.out, Int.add_zero], by omega, hb2⟩
      case measure => simp [intOf]; omega
  ·obtain rfl : k = es.length := by omega
   rw [List.take_length]
   go_wp2
   go_ret
   exact ⟨rfl, hbel⟩
theorem rvalence_any (n : Nat) (A : Option Addr) (c : Nat) (es : List E3) (hn : es.length ≤ 10000) (hz : checkG n es = 0) (q : Int) (B : Option Addr) (kB dB : Nat) (v : Nat) (hv : v < n) (w : World) (h : Reads w w.heap.size 3 A es.length (edgeCells es)) :
  Calls Tryz.prog 101 #[pileV n A es.length c q B kB dB, .int .i64 v] w fun e w' => e = .returned (.int .i64 (valE es v)) ∧ Below w.heap.size w w' := by
 have GV := Lib.hid (gvalence_ok n A c es hn hz v hv)
 have g0 := Blk.new w 138 (pileC n A es.length c q B kB dB)
 have c0 := g0.cell 0
 have c1 := g0.cell 1
 simp only [pileC] at c0 c1
 have hB : Below w.heap.size w (w.alloc (.cells (pileC n A es.length c q B kB dB) 138)) := (Below.refl _ _).alloc (Nat.le_refl _) _
 clear hz g0
 unfold pileV
 simp only [pileC] at hB
 go_enter Tryz.func101, Tryz.ntmps101
 go_wp2_with fail
 refine (GV.out _ ((h.alloc (Nat.le_refl _) _).more (by simp))).mono ?_
 rintro e w1 ⟨rfl, hb1⟩
 go_wp2
 go_ret
 exact ⟨rfl, hB.trans (hb1.mono (by simp))⟩
end Go.Proofs.YtnbikkcalcpedaaGreatDoor
