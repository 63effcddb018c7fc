/-
  Texts of this claim, put together: Conn3, FewT.
-/
import Derived.Test.YtnbikkcalcpedaaGreatDoorK18
import Derived.Test.YtnbikkcalcpedaaGreatDoorK10
/-! Package connect: the parts of a forest, and connectedness. -/
namespace Go.Proofs.YtnbikkcalcpedaaGreatDoor
open Go.RowKit

theorem mkey : Maps.Keyed Tryz.prog 3 := Maps.int_keyed Tryz.underlying3
theorem mzero (w : World) : (zeroValue 3).run Tryz.prog w = .ok (.int .i64 0) w := by kernel_rfl
/-- Block b is a map from ints to ints of at most n entries, in which k has f k. -/
def MapI (w : World) (b n : Nat) (f : Nat → Nat) : Prop :=
  ∃ D : DataW Unit, w.ownsMap Tryz.prog 3 (plainElem Tryz.prog 3) b n D ∧ Maps.IsMap D ∧ ∀ k : Nat, k < 1000 → f k < 1000 → D.atKey (.int .i64 k) (.lit (.int .i64 0)) = .lit (.int .i64 (f k))
section
variable {w w' : World} {b n : Nat} {f : Nat → Nat}
theorem small_wf {k : Nat} (hk : k < 1000) : (Lit.int .i64 (k : Int)).wf = true := by simp [Lit.wf, IntKind.min, IntKind.max, IntKind.bits, IntKind.signed]; omega
theorem MapI.made (w : World) : MapI (w.alloc (.map #[] 0)) w.heap.size 0 (fun _ => 0) := ⟨_, World.ownsMap_made _ _ _ _, Maps.isMap_empty, fun _ _ _ => rfl⟩
theorem MapI.lt (h : MapI w b n f) : b < w.heap.size := by obtain ⟨D, h, _⟩ := h; exact h.lt
theorem MapI.kept (h : MapI w b n f) (hk : w'.heap[b]? = w.heap[b]?) : MapI w' b n f := by
  obtain ⟨D, ⟨es, cl, hb, r⟩, h2⟩ := h
  exact ⟨D, ⟨es, cl, hk.trans hb, r⟩, h2⟩
theorem MapI.look (h : MapI w b n f) {k : Nat} (hk : k < 1000) (hf : f k < 1000) : (Instr.lookup 316 (.map (some b)) (.int .i64 (k : Int)) false).run Tryz.prog w = .ok (.int .i64 (f k : Nat)) w := by
  obtain ⟨D, h1, _, h2⟩ := h
  obtain ⟨c, hrun, hat, _⟩ := h1.lookup_int mkey Tryz.underlying316 Tryz.underlying3 (mzero w) (Maps.keyOf_int_mk (P := Tryz.prog) Tryz.underlying3 (small_wf hk))
  rw [h2 k hk hf] at hat
  simp only [DataW.lit.injEq, Lit.int.injEq, true_and] at hat
  rw [hrun, ← hat]
theorem MapI.put (hn : n < 1000) (h : MapI w b n f) {k x : Nat} (hk : k < 1000) (hx : x < 1000) :
    ∃ w', (Instr.mapUpdate 316 (.map (some b)) (.int .i64 (k : Int)) (.int .i64 (x : Int))).run Tryz.prog w = .ok () w' ∧ MapI w' b (n + 1) (fun j => if j = k then x else f j) ∧ w.grownBy w' (some b) := by
  obtain ⟨D, h1, h3, h2⟩ := h
  obtain ⟨w', hrun, ho, hg⟩ := h1.update mkey Tryz.underlying316 (by simp only [maxLen]; omega) (Maps.keyOf_int_mk (P := Tryz.prog) (k := 3) Tryz.underlying3 (small_wf hk)) (plainElem_int Tryz.underlying3 (small_wf hx))
  refine ⟨w', hrun, ⟨_, ho, h3.put _ _, ?_⟩, hg⟩
  intro j hj hf
  by_cases he : j = k
  · subst he
    simp only [if_true]
    exact Maps.atKey_put_same h3 (by simp [WideAt.IsKeyLit]) _ _
  · simp only [if_neg he] at hf ⊢
    rw [Maps.atKey_put_other (fun e => by injection e with _ e; omega)]
    exact h2 j hj hf
end

/-- No two rows share a block. -/
def DisB (vs : List Value) : Prop := ∀ (i j k : Nat) (u v : Value), vs[i]? = some u → vs[j]? = some v → u.ownBlock = some k → v.ownBlock = some k → i = j
theorem DisB.nil_ : DisB [] := fun i j k u v h => by simp at h
theorem DisB.push {vs : List Value} (h : DisB vs) : DisB (vs ++ [.slice none 0 0]) := by
  have one : ∀ {i : Nat} {u : Value} {k : Nat}, (vs ++ [Value.slice none 0 0])[i]? = some u → u.ownBlock = some k → vs[i]? = some u := by
    intro i u k hu hk
    rcases Nat.lt_trichotomy i vs.length with hlt | rfl | hgt
    · rwa [List.getElem?_append_left hlt] at hu
    · have : u = .slice none 0 0 := by simpa using hu.symm
      subst this; simp [Value.ownBlock] at hk
    · rw [List.getElem?_eq_none (by simp; omega)] at hu; cases hu
  intro i j k u v hu hv hk hk'
  exact h i j k u v (one hu hk) (one hv hk') hk hk'
theorem DisB.set {vs : List Value} (h : DisB vs) {i : Nat} {v v' : Value} (hi : vs[i]? = some v) {S : Nat} (hlt : ∀ (j : Nat) (u : Value) (k : Nat), vs[j]? = some u → u.ownBlock = some k → k < S) (hv : v'.ownBlock = v.ownBlock ∨ v'.ownBlock = some S) : DisB (vs.set i v') := by
  have hil : i < vs.length := (List.getElem?_eq_some_iff.1 hi).1
  intro a b k u u' ha hb hk hk'
  by_cases ea : a = i <;> by_cases eb : b = i
  · omega
  · subst ea
    rw [List.getElem?_set_self hil] at ha
    rw [List.getElem?_set_ne (fun e => eb e.symm)] at hb
    injection ha with ha
    subst ha
    rcases hv with hv | hv
    · exact h a b k v u' hi hb (hv ▸ hk) hk'
    · rw [hv] at hk
      injection hk with hk
      have := hlt b u' k hb hk'
      omega
  · subst eb
    rw [List.getElem?_set_self hil] at hb
    rw [List.getElem?_set_ne (fun e => ea e.symm)] at ha
    injection hb with hb
    subst hb
    rcases hv with hv | hv
    · exact h a b k u v ha hi hk (hv ▸ hk')
    · rw [hv] at hk'
      injection hk' with hk'
      have := hlt a u k ha hk
      omega
  · rw [List.getElem?_set_ne (fun e => ea e.symm)] at ha
    rw [List.getElem?_set_ne (fun e => eb e.symm)] at hb
    exact h a b k u u' ha hb hk hk'
/-- One number more at the end of a row, the slice stored back. -/
theorem OwnRows.grow {w w1 : World} {base : Nat} {A A1 A2 : Option Addr} {c c1 c2 : Nat} {vs : List Value} {xss : List (List Int)} {i g : Nat} {xs : List Int} {y : Int} (h : OwnRows w base A c vs xss) (hd : DisB vs)
    (hA : A = some ⟨g, 0, none⟩) (hi : xss[i]? = some xs) (hv : vs[i]? = some (.slice A1 xs.length c1)) (h2 : OwnI w1 base A2 c2 (xs ++ [y])) (hg : w.grownBy w1 (Value.slice A1 xs.length c1).ownBlock) :
    OwnRows (w1.setCell ⟨g, i, none⟩ (.slice A2 (xs.length + 1) c2)) base A c (vs.set i (.slice A2 (xs.length + 1) c2)) (xss.set i (xs ++ [y])) := by
  subst hA
  have hil : i < xss.length := (List.getElem?_eq_some_iff.1 hi).1
  have hl := h.len
  obtain ⟨A1', c1', hv', ho1⟩ := h.2.2 i xs hi
  rw [hv] at hv'
  injection hv' with hv'; injection hv' with e1 _ e2; subst e1 e2
  have hgb : blockOf (some ⟨g, 0, none⟩) g := ⟨_, rfl, rfl⟩
  have ho : w1.ownsRow base 25 1 (.slice (some ⟨g, 0, none⟩) xss.length c) xss.length vs := own_kept h.1 fun k hk => hg.block k (own_lt h.1 hk).2 fun e => own_ne ho1 h.1 (by decide) (blockOf_own.1 e.symm) hk rfl
  have hs := (ho.stored i (.slice A2 (xs.length + 1) c2)).1
  have hint : ∀ {A3 : Option Addr} {c3 : Nat} {zs : List Int}, OwnI w1 base A3 c3 zs → OwnI (w1.setCell ⟨g, i, none⟩ (.slice A2 (xs.length + 1) c2)) base A3 c3 zs := fun {A3 c3 zs} h3 => own_kept h3 fun k hk => Below.heap_setCell w1 ⟨g, i, none⟩ _ k fun e => own_ne h3 ho (by decide) hk hgb e
  refine ⟨by rw [List.length_set]; exact hs, ?_, fun j zs hj => ?_⟩
  · intro u hu
    rcases List.mem_or_eq_of_mem_set hu with hu | rfl
    · exact h.2.1 u hu
    · rfl
  · by_cases he : j = i
    · subst he
      rw [List.getElem?_set_self hil] at hj
      injection hj with hj
      subst hj
      exact ⟨A2, c2, by rw [List.getElem?_set_self (by omega)]; simp, hint h2⟩
    · rw [List.getElem?_set_ne (fun e => he e.symm)] at hj
      obtain ⟨A3, c3, hv3, ho3⟩ := h.2.2 j zs hj
      refine ⟨A3, c3, by rw [List.getElem?_set_ne (fun e => he e.symm)]; exact hv3, hint (own_kept ho3 fun k hk => hg.block k (own_lt ho3 hk).2 fun e => he (hd j i k _ _ hv3 hv (blockOf_own.2 hk) e.symm))⟩

set_option maxRecDepth 100000 in
set_option maxHeartbeats 4000000 in
theorem parts_any (g : Nat) (f : List Nat) (hf : Forest f) (hl : f.length = 12) (n : Nat) (hn : n ≤ 12) (w : World) (h : Blk w g 266 (fcells f)) :
    Calls Tryz.prog 220 #[.pointer (some ⟨g, 0, none⟩), .int .i64 n] w fun e w' => ∃ A c vs xss, e = .returned (.slice A xss.length c) ∧ OwnRows w' w.heap.size A c vs xss ∧ Hid (xss.length = rootsTo f n) ∧ Below w.heap.size w w' := by
  have HF := Lib.hid hf
  have HL := Lib.hid hl
  have hmm := @run_makeMap Tryz.prog
  clear hf hl
  go_enter Tryz.func220, Tryz.ntmps220
  go_wp2
  go_loopw [5, 11] (fun s i wr => ∃ (k m : Nat) (A : Option Addr) (c : Nat) (vs : List Value) (xss : List (List Int)) (p : Nat → Nat), k ≤ n ∧ i = .int .i64 k ∧ s = .slice A xss.length c ∧ OwnRows wr (w.heap.size + 1) A c vs xss ∧ Hid (DisB vs) ∧ Hid (xss.length = rootsTo f k) ∧ MapI wr w.heap.size m p ∧ m ≤ k ∧ Hid (∀ v, v < k → rt f v = v → p v = rootsTo f v) ∧ Hid (∀ xs ∈ xss, xs.length ≤ k) ∧ Below w.heap.size w wr) (fun _ i _ => n - (intOf i).toNat)
  case atStart => exact ⟨0, 0, none, 0, [], [], fun _ => 0, by omega, rfl, rfl, OwnRows.nil_ _ _, DisB.nil_, rfl, MapI.made w, by omega, fun v hv => by omega, by simp [Hid], (Below.refl _ _).alloc (Nat.le_refl _) _⟩
  case round =>
    obtain ⟨k, m, A, c, vs, xss, p, hk, rfl, rfl, hrows, HD, HX, hmap, hm, HP, HB, hbel⟩ := hrel
    by_cases hlt : k < n
    · have hi : (k : Int) < (n : Int) := by omega
      have hg := h.below hbel h.lt
      have RC := Lib.hid (root_any g f HF.out HL.out k (by omega) wr hg)
      have hrk := (rt_le HF.out k).1
      have hroot := (rt_le HF.out k).2
      have hrr : rt f (rt f k) = rt f k := rt_root HF.out hroot
      have HRR := Lib.hid hrr
      have hmono := rootsTo_mono (f := f) (a := rt f k + 1) (b := k + 1) (by omega)
      have hsr := rootsTo_succ f (rt f k)
      rw [if_pos hrr] at hsr
      have hsk := rootsTo_succ f k
      have hsz := hbel.size
      have hrk9 : ∀ j, rootsTo f j ≤ j := fun j => by unfold rootsTo; exact Nat.le_trans (List.length_filter_le _ _) (by simp)
      have hrl := hrk9 (rt f k)
      have hml := hmap.lt
      clear hroot
      by_cases hrv : rt f k = k
      · rw [hrv] at RC
        rw [if_pos hrv] at hsk
        have hb : ((k : Int) == (k : Int)) = true := by simp
        obtain ⟨w1, hrun, hmap1, hgr1⟩ := hmap.put (by omega) (k := k) (x := xss.length) (by omega) (by rw [HX.out]; have := hrk9 k; omega)
        have hrows1 : OwnRows w1 (w.heap.size + 1) A c vs xss := hrows.kept fun q hq => hgr1.block q (hrows.lt hq).2 fun e => by injection e with e; have := (hrows.lt hq).1; omega
        have hgl := hrows1.1
        have hbel1 : Below w.heap.size w w1 := hbel.grown hgr1 hsz (fun q hq => by injection hq with hq; omega)
        have hrowsA : OwnRows (w1.alloc (.cells #[.slice none 0 0] 25)) (w.heap.size + 1) A c vs xss := hrows1.next ((Below.refl _ _).alloc (Nat.le_refl _) _)
        have hxl : xss.length ≤ 12 := by rw [HX.out]; have := hrk9 k; omega
        have hbase : w.heap.size + 1 ≤ (w1.alloc (.cells #[.slice none 0 0] 25)).heap.size := by have := hmap1.lt; simp; omega
        go_wp2_with first
          | (go_at_call 278; (with_reducible refine (RC.out).mono ?_); rintro e w' ⟨rfl, rfl⟩)
          | (at_builtin; refine append_go rfl (.tmp 24) (.tmp 25) _ rfl (w.heap.size + 1) 25 Tryz.underlying82 info_row rfl (by omega) A c xss.length vs rfl hrowsA.1 _ [.slice none 0 0] rfl (Reads.box _ _ _) (by simp [Value.oneCell']) (by omega) hbase ?_; intro A2 c2 W hown2 hgr2 hb2 hwhere)
        have hrW : OwnRows W (w.heap.size + 1) A2 c2 (vs ++ [.slice none 0 0]) (xss ++ [[]]) := OwnRows.push hrowsA (OwnI.nil_ _ _) hown2 hgr2
        have HDW := Lib.hid HD.out.push
        have HXW : Hid ((xss ++ [[]]).length = rootsTo f (k + 1)) := by rw [Hid, List.length_append, HX.out, hsk]; rfl
        have mapW : MapI W w.heap.size (m + 1) (fun j => if j = k then xss.length else p j) := (hmap1.kept (w' := w1.alloc (.cells #[.slice none 0 0] 25)) (Below.heap_alloc _ _ _ hmap1.lt)).kept (hgr2.block _ (by have := hmap1.lt; simp; omega) fun e => by have := (hrowsA.1.lt _ e.symm).1; omega)
        have HPW : Hid (∀ v, v < k + 1 → rt f v = v → (fun j => if j = k then xss.length else p j) v = rootsTo f v) := by
          intro v hv hv2
          by_cases e : v = k
          · subst e; simp [HX.out]
          · simp only [if_neg e]; exact HP.out v (by omega) hv2
        have HBW : Hid (∀ xs ∈ xss ++ [[]], xs.length ≤ k) := by
          intro xs hxs
          rcases List.mem_append.1 hxs with hxs | hxs
          · exact HB.out xs hxs
          · rw [List.mem_singleton.1 hxs]; simp
        have belW : Below w.heap.size w W := hbel1.trans (((Below.refl _ _).alloc (by have := hmap1.lt; omega) _).trans (hb2.mono (by omega)))
        clear hrows hmap hrun hmap1 hrows1 hgr1 hrowsA hb
        obtain ⟨g2, rfl, hg2l⟩ : ∃ g2, A2 = some ⟨g2, 0, none⟩ ∧ g2 < W.heap.size := by
          obtain ⟨g2, cap2, hAg, _, hg2l⟩ := hrW.1.form (by simp)
          injection hAg with hAg _ hcg
          exact ⟨g2, hAg, hg2l⟩
        obtain ⟨xs, hxs⟩ := get_of_lt (xs := (xss ++ [[]])) (k := xss.length) (by (try simp); try omega)
        obtain ⟨A1, c1, hv1, ho1⟩ := hrW.2.2 _ xs hxs
        have hxl1 : xs.length ≤ k := HBW.out xs (List.mem_of_getElem? hxs)
        have cI : W.cell? ⟨g2, xss.length, none⟩ = some (.slice A1 xs.length c1) := ((Reads.of_own hrW.1).2 (by simp)).elim fun b hb => by
          obtain ⟨off, e, _, hc⟩ := hb
          injection e with e; injection e with e1 e2; subst e1 e2
          have := hc _ _ hv1
          rwa [Nat.zero_add] at this
        have LK1 := MapI.look (w := W.drew) (mapW.kept rfl) (k := k) (by omega) (by (simp; omega))
        have LK2 := MapI.look (w := (W.alloc (.cells #[.int .i64 k] 3)).drew) (mapW.kept (Below.heap_alloc _ _ _ mapW.lt)) (k := k) (by omega) (by (simp; omega))
        simp only [if_true] at LK1 LK2
        have hbW := belW.size
        have hnb := mapW.lt
        have hiI : (xss.length : Int) < (xss.length : Int) + 1 := by omega
        have hiI2 : xss.length < xss.length + 1 := by (try simp); try omega
        have ho1' := (OwnI.drew ho1).alloc (.cells #[.int .i64 k] 3)
        have hO1 : (W.drew.alloc (.cells #[.int .i64 k] 3)).ownsRow (w.heap.size + 1) 25 1 (.slice (some ⟨g2, 0, none⟩) (xss.length + 1) c2) (xss.length + 1) (vs ++ [.slice none 0 0]) := World.ownsRow.alloc (World.ownsRow.drew hown2) _
        have hrWa : OwnRows (W.drew.alloc (.cells #[.int .i64 k] 3)) (w.heap.size + 1) (some ⟨g2, 0, none⟩) c2 (vs ++ [.slice none 0 0]) (xss ++ [[]]) := (hrW.kept (w' := W.drew) fun _ _ => rfl).next ((Below.refl _ _).alloc (Nat.le_refl _) _)
        have cIa : (W.alloc (.cells #[.int .i64 k] 3)).drew.cell? ⟨g2, xss.length, none⟩ = some (.slice A1 xs.length c1) := (World.cell?_alloc_lt _ _ _ (by exact hg2l)).trans cI
        go_region_law (refine append_step2 rfl (.tmp 36) (.tmp 38) _ _ rfl (w.heap.size + 1) 3 3 Tryz.underlying25 Tryz.underlying25 info_int rfl (by omega) A1 c1 xs.length (ints xs) rfl (by exact ho1') (W.heap.size + 1) [.int .i64 k] rfl (by exact Reads.box W.drew (.int .i64 k) 3) (by simp [Value.oneCell']) (by omega) (by simp; omega) ?_; intro A3 c3 W3 hown3 hgr3 hb3 hwh3
                       have hrow3 : W3.ownsRow (w.heap.size + 1) 25 1 (.slice (some ⟨g2, 0, none⟩) (xss.length + 1) c2) (xss.length + 1) (vs ++ [.slice none 0 0]) := own_kept hO1 fun q hq => hgr3.block q (own_lt hO1 hq).2 fun e => own_ne ho1' hO1 (by decide) (blockOf_own.1 e.symm) hq rfl
                       have cI3 := (hrow3.cellAt xss.length (by omega)).trans hv1
                       have fI3 := hrow3.frozenAt xss.length
                       have LK3 := MapI.look (w := W3) ((mapW.kept (w' := W.drew.alloc (.cells #[.int .i64 k] 3)) (Below.heap_alloc _ _ _ mapW.lt)).kept (hgr3.block _ (by simp; omega) fun e => by have := (OwnI.lt ho1' _ e.symm).1; omega)) (k := k) (by omega) (by (simp; omega))
                       simp only [if_true] at LK3)
        all_goals (
          have hX3 : OwnI W3 (w.heap.size + 1) A3 c3 (xs ++ [(k : Int)]) := by unfold OwnI; rw [List.length_append, ints_snoc]; exact hown3
          have hg2b : w.heap.size + 1 ≤ g2 := (own_lt hrow3 ⟨_, rfl, rfl⟩).1
          have hmap3 := ((mapW.kept (w' := W.drew.alloc (.cells #[.int .i64 k] 3)) (Below.heap_alloc _ _ _ mapW.lt)).kept (hgr3.block _ (by simp; omega) fun e => by have := (OwnI.lt ho1' _ e.symm).1; omega))
          have hD3 := Lib.hid (HDW.out.set hv1 (v' := .slice A3 (xs.length + 1) c3) (S := (W.drew.alloc (.cells #[.int .i64 k] 3)).heap.size) (fun j u q hj hq => (hrWa.lt (.inr ⟨u, List.mem_of_getElem? hj, hq⟩)).2) hwh3)
          have hR3 := hrWa.grow HDW.out rfl hxs hv1 hX3 hgr3
          have hB3 : Below w.heap.size w W3 := (belW.drew.alloc hbW (.cells #[.int .i64 k] 3)).trans (hb3.mono (by omega))
          have hB4 : Hid (∀ ys ∈ (xss ++ [[]]).set (xss.length) (xs ++ [(k : Int)]), ys.length ≤ k + 1) := by
            intro ys hys
            rcases List.mem_or_eq_of_mem_set hys with hys | rfl
            · have := HBW.out ys hys; omega
            · simp; omega
          go_wp2
          go_roundw
          case rel =>
            exact ⟨k + 1, m + 1, some ⟨g2, 0, none⟩, c2, _, (xss ++ [[]]).set (xss.length) (xs ++ [(k : Int)]), (fun j => if j = k then xss.length else p j), by omega, by go_num, by simp, hR3, hD3, by rw [Hid, List.length_set]; exact HXW.out, hmap3.kept (Below.heap_setCell W3 ⟨g2, xss.length, none⟩ _ _ (by simp; omega)), by omega, HPW, hB4, hB3.setCell (by simp; omega) _⟩
          case measure => simp [intOf]; omega)
      · rw [if_neg hrv] at hsk
        have hpr := HP.out (rt f k) (by omega) hrr
        have hpl : p (rt f k) < xss.length := by rw [hpr, HX.out]; omega
        have hp12 : p (rt f k) < 1000 := by rw [hpr]; omega
        have hb : (((rt f k : Nat) : Int) == (k : Int)) = false := by simp; omega
        have HXW : Hid (xss.length = rootsTo f (k + 1)) := by rw [Hid, HX.out, hsk]; rfl
        have HPW : Hid (∀ v, v < k + 1 → rt f v = v → p v = rootsTo f v) := by
          intro v hv hv2
          by_cases e : v = k
          · subst e; exact absurd hv2 hrv
          · exact HP.out v (by omega) hv2
        have hrW := hrows
        have HDW := HD
        have mapW := hmap
        have HBW := HB
        have belW := hbel
        obtain ⟨W, hW⟩ : ∃ W, W = wr := ⟨_, rfl⟩
        subst hW
        have hxl12 : xss.length ≤ 12 := by rw [HX.out]; have := hrk9 k; omega
        clear hrows hmap hbel hpr hrr hsr hsk hrv
        go_wp2_with (go_at_call 278; (with_reducible refine (RC.out).mono ?_); rintro e w' ⟨rfl, rfl⟩)
        obtain ⟨g2, rfl, hg2l⟩ : ∃ g2, A = some ⟨g2, 0, none⟩ ∧ g2 < W.heap.size := by
          obtain ⟨g2, cap2, hAg, _, hg2l⟩ := hrW.1.form (by omega)
          injection hAg with hAg _ hcg
          exact ⟨g2, hAg, hg2l⟩
        obtain ⟨xs, hxs⟩ := get_of_lt (xs := xss) (k := p (rt f k)) (by exact hpl)
        obtain ⟨A1, c1, hv1, ho1⟩ := hrW.2.2 _ xs hxs
        have hxl1 : xs.length ≤ k := HBW.out xs (List.mem_of_getElem? hxs)
        have cI : W.cell? ⟨g2, p (rt f k), none⟩ = some (.slice A1 xs.length c1) := ((Reads.of_own hrW.1).2 (by omega)).elim fun b hb => by
          obtain ⟨off, e, _, hc⟩ := hb
          injection e with e; injection e with e1 e2; subst e1 e2
          have := hc _ _ hv1
          rwa [Nat.zero_add] at this
        have LK1 := MapI.look (w := W.drew) (mapW.kept rfl) (k := rt f k) (by omega) (by omega)
        have LK2 := MapI.look (w := (W.alloc (.cells #[.int .i64 k] 3)).drew) (mapW.kept (Below.heap_alloc _ _ _ mapW.lt)) (k := rt f k) (by omega) (by omega)
        have hbW := belW.size
        have hnb := mapW.lt
        have hiI : ((p (rt f k) : Nat) : Int) < (xss.length : Int) := by omega
        have hiI2 : p (rt f k) < xss.length := hpl
        have ho1' := (OwnI.drew ho1).alloc (.cells #[.int .i64 k] 3)
        have hO1 : (W.drew.alloc (.cells #[.int .i64 k] 3)).ownsRow (w.heap.size + 1) 25 1 (.slice (some ⟨g2, 0, none⟩) (xss.length) c) (xss.length) vs := World.ownsRow.alloc (World.ownsRow.drew hrW.1) _
        have hrWa : OwnRows (W.drew.alloc (.cells #[.int .i64 k] 3)) (w.heap.size + 1) (some ⟨g2, 0, none⟩) c vs xss := (hrW.kept (w' := W.drew) fun _ _ => rfl).next ((Below.refl _ _).alloc (Nat.le_refl _) _)
        have cIa : (W.alloc (.cells #[.int .i64 k] 3)).drew.cell? ⟨g2, p (rt f k), none⟩ = some (.slice A1 xs.length c1) := (World.cell?_alloc_lt _ _ _ (by exact hg2l)).trans cI
        go_region_law (refine append_step2 rfl (.tmp 36) (.tmp 38) _ _ rfl (w.heap.size + 1) 3 3 Tryz.underlying25 Tryz.underlying25 info_int rfl (by omega) A1 c1 xs.length (ints xs) rfl (by exact ho1') (W.heap.size + 1) [.int .i64 k] rfl (by exact Reads.box W.drew (.int .i64 k) 3) (by simp [Value.oneCell']) (by omega) (by simp; omega) ?_; intro A3 c3 W3 hown3 hgr3 hb3 hwh3
                       have hrow3 : W3.ownsRow (w.heap.size + 1) 25 1 (.slice (some ⟨g2, 0, none⟩) (xss.length) c) (xss.length) vs := own_kept hO1 fun q hq => hgr3.block q (own_lt hO1 hq).2 fun e => own_ne ho1' hO1 (by decide) (blockOf_own.1 e.symm) hq rfl
                       have cI3 := (hrow3.cellAt (p (rt f k)) (by omega)).trans hv1
                       have fI3 := hrow3.frozenAt (p (rt f k))
                       have LK3 := MapI.look (w := W3) ((mapW.kept (w' := W.drew.alloc (.cells #[.int .i64 k] 3)) (Below.heap_alloc _ _ _ mapW.lt)).kept (hgr3.block _ (by simp; omega) fun e => by have := (OwnI.lt ho1' _ e.symm).1; omega)) (k := rt f k) (by omega) (by omega))
        all_goals (
          have hX3 : OwnI W3 (w.heap.size + 1) A3 c3 (xs ++ [(k : Int)]) := by unfold OwnI; rw [List.length_append, ints_snoc]; exact hown3
          have hg2b : w.heap.size + 1 ≤ g2 := (own_lt hrow3 ⟨_, rfl, rfl⟩).1
          have hmap3 := ((mapW.kept (w' := W.drew.alloc (.cells #[.int .i64 k] 3)) (Below.heap_alloc _ _ _ mapW.lt)).kept (hgr3.block _ (by simp; omega) fun e => by have := (OwnI.lt ho1' _ e.symm).1; omega))
          have hD3 := Lib.hid (HDW.out.set hv1 (v' := .slice A3 (xs.length + 1) c3) (S := (W.drew.alloc (.cells #[.int .i64 k] 3)).heap.size) (fun j u q hj hq => (hrWa.lt (.inr ⟨u, List.mem_of_getElem? hj, hq⟩)).2) hwh3)
          have hR3 := hrWa.grow HDW.out rfl hxs hv1 hX3 hgr3
          have hB3 : Below w.heap.size w W3 := (belW.drew.alloc hbW (.cells #[.int .i64 k] 3)).trans (hb3.mono (by omega))
          have hB4 : Hid (∀ ys ∈ xss.set (p (rt f k)) (xs ++ [(k : Int)]), ys.length ≤ k + 1) := by
            intro ys hys
            rcases List.mem_or_eq_of_mem_set hys with hys | rfl
            · have := HBW.out ys hys; omega
            · simp; omega
          go_wp2
          go_roundw
          case rel =>
            exact ⟨k + 1, m, some ⟨g2, 0, none⟩, c, _, xss.set (p (rt f k)) (xs ++ [(k : Int)]), p, by omega, by go_num, by simp, hR3, hD3, by rw [Hid, List.length_set]; exact HXW.out, hmap3.kept (Below.heap_setCell W3 ⟨g2, p (rt f k), none⟩ _ _ (by simp; omega)), by omega, HPW, hB4, hB3.setCell (by simp; omega) _⟩
          case measure => simp [intOf]; omega)
    · obtain rfl : k = n := by omega
      go_wp2
      go_ret
      exact ⟨A, c, vs, xss, rfl, hrows.mono (Nat.le_succ _), HX, hbel⟩
end Go.Proofs.YtnbikkcalcpedaaGreatDoor

/-! Package connect: connectedness. -/
namespace Go.Proofs.YtnbikkcalcpedaaGreatDoor
open Go.RowKit

set_option maxRecDepth 100000 in
set_option maxHeartbeats 2000000 in
theorem components_ok (n : Nat) (A : Option Addr) (c : Nat) (es : List E3) (hn : es.length ≤ 1048576) (hck : checkG n es = 0) (w : World) (h : Reads w w.heap.size 3 A es.length (edgeCells es)) :
    Calls Tryz.prog 163 #[.agg #[.int .i64 n, .slice A es.length c]] w fun e w' => ∃ d m : Nat, ∃ A', e = .returned (.tuple #[.slice A' m d, .int .i64 0]) ∧ Hid (decide (m = 1) = connB n es) ∧ Below w.heap.size w w' := by
  have hG := right_of hck
  have hhi := hG.hi
  have HG := Lib.hid hG
  have GC := Lib.hid (gcheck_any n A c es hn)
  rw [hck] at GC
  have hj := Lib.hid (joined_any n A c es hn hG)
  clear hck hG
  go_enter Tryz.func163, Tryz.ntmps163
  have g0 := Blk.new w 24 #[.int .i64 n, .slice A es.length c]
  go_wp2_with fail
  refine (GC.out _ ((h.alloc (Nat.le_refl _) _).more (by simp))).mono ?_
  rintro e w1 ⟨rfl, hb1⟩
  have g1 := g0.next hb1
  have hbel1 : Below w.heap.size w w1 := ((Below.refl _ _).alloc (Nat.le_refl _) _).trans (hb1.mono (by simp))
  have c10 := g1.cell 0
  have c11 := g1.cell 1
  have hs1 := g1.lt
  go_wp2_with fail
  refine (hj.out _ ((h.below hbel1).more (by omega))).mono ?_
  rintro e w2 ⟨f, rfl, hJ, hb2⟩
  obtain ⟨a0, a1, a2, a3, a4, a5, a6, a7, a8, a9, a10, a11, rfl⟩ := list12 hJ.len
  have g2 := g1.next hb2
  have hbel2 : Below w.heap.size w w2 := hbel1.trans (hb2.mono (by omega))
  have g3 := g2.alloc (.cells #[.int .i64 (a0 : Nat), .int .i64 (a1 : Nat), .int .i64 (a2 : Nat), .int .i64 (a3 : Nat), .int .i64 (a4 : Nat), .int .i64 (a5 : Nat), .int .i64 (a6 : Nat), .int .i64 (a7 : Nat), .int .i64 (a8 : Nat), .int .i64 (a9 : Nat), .int .i64 (a10 : Nat), .int .i64 (a11 : Nat)] 266)
  have gf : Blk (w2.alloc (.cells #[.int .i64 (a0 : Nat), .int .i64 (a1 : Nat), .int .i64 (a2 : Nat), .int .i64 (a3 : Nat), .int .i64 (a4 : Nat), .int .i64 (a5 : Nat), .int .i64 (a6 : Nat), .int .i64 (a7 : Nat), .int .i64 (a8 : Nat), .int .i64 (a9 : Nat), .int .i64 (a10 : Nat), .int .i64 (a11 : Nat)] 266)) w2.heap.size 266 (fcells [a0, a1, a2, a3, a4, a5, a6, a7, a8, a9, a10, a11]) := Blk.new w2 266 #[.int .i64 (a0 : Nat), .int .i64 (a1 : Nat), .int .i64 (a2 : Nat), .int .i64 (a3 : Nat), .int .i64 (a4 : Nat), .int .i64 (a5 : Nat), .int .i64 (a6 : Nat), .int .i64 (a7 : Nat), .int .i64 (a8 : Nat), .int .i64 (a9 : Nat), .int .i64 (a10 : Nat), .int .i64 (a11 : Nat)]
  have hs2 := g2.lt
  have c20 := g3.cell 0
  have c21 := g3.cell 1
  have hbel3 := hbel2.alloc hbel2.size (.cells #[.int .i64 (a0 : Nat), .int .i64 (a1 : Nat), .int .i64 (a2 : Nat), .int .i64 (a3 : Nat), .int .i64 (a4 : Nat), .int .i64 (a5 : Nat), .int .i64 (a6 : Nat), .int .i64 (a7 : Nat), .int .i64 (a8 : Nat), .int .i64 (a9 : Nat), .int .i64 (a10 : Nat), .int .i64 (a11 : Nat)] 266)
  have PC := Lib.hid (parts_any w2.heap.size _ hJ.forest hJ.len n (by omega) _ gf)
  have HC := Lib.hid (connB_joins HG.out hJ)
  rw [show fcells [a0, a1, a2, a3, a4, a5, a6, a7, a8, a9, a10, a11] = #[.int .i64 (a0 : Nat), .int .i64 (a1 : Nat), .int .i64 (a2 : Nat), .int .i64 (a3 : Nat), .int .i64 (a4 : Nat), .int .i64 (a5 : Nat), .int .i64 (a6 : Nat), .int .i64 (a7 : Nat), .int .i64 (a8 : Nat), .int .i64 (a9 : Nat), .int .i64 (a10 : Nat), .int .i64 (a11 : Nat)] from rfl]
  clear hJ gf g3 g2 g1 g0
  go_wp2_with fail
  refine (PC.out).mono ?_
  rintro e w3 ⟨A', c', vs, xss, rfl, _, HX, hb3⟩
  obtain ⟨m, hm⟩ : ∃ m, xss.length = m := ⟨_, rfl⟩
  rw [hm] at HX ⊢
  have hbel4 : Below w.heap.size w w3 := hbel3.trans (hb3.mono (by simp; omega))
  have HM : Hid (decide (m = 1) = connB n es) := by rw [Hid, HC.out, HX.out]
  clear hm HX
  go_wp2
  refine bodyPost_ret (v := .tuple #[.slice A' m c', .int .i64 0]) (by simp [results, Tryz.results163, go_sem]) rfl ⟨c', m, A', rfl, HM, hbel4⟩
set_option maxRecDepth 100000 in
set_option maxHeartbeats 2000000 in
theorem components_bad (n : Int) (A : Option Addr) (c : Nat) (es : List E3) (hn : es.length ≤ 1048576) (hck : checkG n es ≠ 0) (w : World) (h : Reads w w.heap.size 3 A es.length (edgeCells es)) :
    Calls Tryz.prog 163 #[.agg #[.int .i64 n, .slice A es.length c]] w fun e w' => e = .returned (.tuple #[.slice none 0 0, .int .i64 (checkG n es)]) ∧ Below w.heap.size w w' := by
  have GC := Lib.hid (gcheck_any n A c es hn)
  obtain ⟨q, hq⟩ : ∃ q, checkG n es = q := ⟨_, rfl⟩
  rw [hq] at GC hck ⊢
  have hb : (q != 0) = true := by simpa using hck
  clear hck hq
  go_enter Tryz.func163, Tryz.ntmps163
  go_wp2_with fail
  refine (GC.out _ ((h.alloc (Nat.le_refl _) _).more (by simp))).mono ?_
  rintro e w1 ⟨rfl, hb1⟩
  have hbel1 : Below w.heap.size w w1 := ((Below.refl _ _).alloc (Nat.le_refl _) _).trans (hb1.mono (by simp))
  go_wp2
  refine bodyPost_ret (v := .tuple #[.slice none 0 0, .int .i64 q]) (by simp [results, Tryz.results163, go_sem]) rfl ⟨rfl, hbel1⟩
set_option maxRecDepth 100000 in
set_option maxHeartbeats 2000000 in
theorem connected_ok (n : Nat) (A : Option Addr) (c : Nat) (es : List E3) (hn : es.length ≤ 1048576) (hck : checkG n es = 0) (w : World) (h : Reads w w.heap.size 3 A es.length (edgeCells es)) :
    Calls Tryz.prog 109 #[.agg #[.int .i64 n, .slice A es.length c]] w fun e w' => e = .returned (.tuple #[.bool (connB n es), .int .i64 0]) ∧ Below w.heap.size w w' := by
  have GC := Lib.hid (components_ok n A c es hn hck)
  obtain ⟨q, hq⟩ : ∃ q, connB n es = q := ⟨_, rfl⟩
  rw [hq] at GC ⊢
  clear hck hq
  go_enter Tryz.func109, Tryz.ntmps109
  go_wp2_with fail
  refine (GC.out _ ((h.alloc (Nat.le_refl _) _).more (by simp))).mono ?_
  rintro e w1 ⟨d, m, A', rfl, HM, hb1⟩
  have hbel1 : Below w.heap.size w w1 := ((Below.refl _ _).alloc (Nat.le_refl _) _).trans (hb1.mono (by simp))
  cases q
  · have hb : ((m : Int) == 1) = false := by have := HM.out; simp at this; simp; omega
    go_wp2
    refine bodyPost_ret (v := .tuple #[.bool false, .int .i64 0]) (by simp [results, Tryz.results109, go_sem]) rfl ⟨rfl, hbel1⟩
  · have hb : ((m : Int) == 1) = true := by have := HM.out; simp at this; simp; omega
    go_wp2
    refine bodyPost_ret (v := .tuple #[.bool true, .int .i64 0]) (by simp [results, Tryz.results109, go_sem]) rfl ⟨rfl, hbel1⟩
set_option maxRecDepth 100000 in
set_option maxHeartbeats 2000000 in
theorem connected_bad (n : Int) (A : Option Addr) (c : Nat) (es : List E3) (hn : es.length ≤ 1048576) (hck : checkG n es ≠ 0) (w : World) (h : Reads w w.heap.size 3 A es.length (edgeCells es)) :
    Calls Tryz.prog 109 #[.agg #[.int .i64 n, .slice A es.length c]] w fun e w' => e = .returned (.tuple #[.bool false, .int .i64 (checkG n es)]) ∧ Below w.heap.size w w' := by
  have GC := Lib.hid (components_bad n A c es hn hck)
  obtain ⟨q, hq⟩ : ∃ q, checkG n es = q := ⟨_, rfl⟩
  rw [hq] at GC ⊢
  clear hck hq
  go_enter Tryz.func109, Tryz.ntmps109
  go_wp2_with fail
  refine (GC.out _ ((h.alloc (Nat.le_refl _) _).more (by simp))).mono ?_
  rintro e w1 ⟨rfl, hb1⟩
  have hbel1 : Below w.heap.size w w1 := ((Below.refl _ _).alloc (Nat.le_refl _) _).trans (hb1.mono (by simp))
  go_wp2
  refine bodyPost_ret (v := .tuple #[.bool false, .int .i64 q]) (by simp [results, Tryz.results109, go_sem]) rfl ⟨rfl, hbel1⟩
end Go.Proofs.YtnbikkcalcpedaaGreatDoor

/-! ref08.FewTrees, ref13.FewTrees. -/
namespace Go.Proofs.YtnbikkcalcpedaaGreatDoor
open Go.RowKit

set_option maxHeartbeats 1000000 in
theorem rfewtrees_any (n : Int) (A : Option Addr) (c : Nat) (es : List E3) (w : World) (h : Reads w w.heap.size 3 A es.length (edgeCells es)) :
    Calls Tryz.prog 27 #[.agg #[.int .i64 n, .slice A es.length c]] w fun e w' => e = .returned (.bool (smallB n es 5 8)) ∧ Below w.heap.size w w' := by
  have SC := Lib.hid (rsmall_any n A c es 5 8)
  go_enter Tryz.func27, Tryz.ntmps27
  go_wp2_with fail
  refine (SC.out _ ((h.alloc (Nat.le_refl _) _).more (by simp))).mono ?_
  rintro e w1 ⟨rfl, hb1⟩
  have hbel1 : Below w.heap.size w w1 := ((Below.refl _ _).alloc (Nat.le_refl _) _).trans (hb1.mono (by simp))
  go_wp2
  go_ret
  exact ⟨rfl, hbel1⟩
def few13 (n : Int) (es : List E3) (m : Nat) : Bool := smallB n es 5 8 && decide (m ≤ 30)
theorem few13_parts {n : Int} {es : List E3} {m : Nat} (h : few13 n es m = true) : es.length ≤ 40 ∧ m ≤ 30 ∧ (checkG n es = 0 → n ≤ 5 ∧ sizeE es ≤ 8) := by
  unfold few13 at h
  rw [Bool.and_eq_true] at h
  obtain ⟨h1, h2⟩ := h
  unfold smallB at h1
  by_cases h3 : 40 < es.length
  · rw [if_pos h3] at h1; cases h1
  · refine ⟨by omega, of_decide_eq_true h2, fun h4 => ?_⟩
    rw [if_neg h3, if_neg (fun hc => hc h4), Bool.and_eq_true] at h1
    have := of_decide_eq_true h1.1
    have := of_decide_eq_true h1.2
    omega
end Go.Proofs.YtnbikkcalcpedaaGreatDoor

