/-
  Texts of this claim, put together: LitF, RSettled, SupP, RRecs, RBan, RRVer, DivP, RCutset, ActW, CfgF, Sup, RRecs2.
-/
import Derived.Test.YtnbikkcalcpedaaGreatDoorK29
import Derived.Test.YtnbikkcalcpedaaGreatDoorK10
import Derived.Test.YtnbikkcalcpedaaGreatDoorK18
import Derived.Deep.RegionHeld3
import Derived.Deep.CutBlock
import Derived.Deep.RegionLaw
import Derived.Test.YtnbikkcalcpedaaGreatDoorK30
import Derived.Test.YtnbikkcalcpedaaGreatDoorK26
import Derived.Stop.RegionWithIn
import Derived.Sort.CutIn
import Derived.Test.YtnbikkcalcpedaaGreatDoorK22
import Derived.Test.YtnbikkcalcpedaaGreatDoorK20
import Derived.Deep.QuietTactic
import Derived.BigQuiet
import Derived.Deep.CutRange
import Derived.Deep.DrawnRows
import Derived.Test.YtnbikkcalcpedaaGreatDoorK27
import Derived.Test.YtnbikkcalcpedaaGreatDoorK21
namespace Go.Proofs.YtnbikkcalcpedaaGreatDoor
open Go.RowKit
theorem Blk.newL {w : World} {g : Nat} {t : TypeId} {cs : Array Value} (hg : g = w.heap.size) : Blk (w.alloc (.cells cs t)) g t cs := by subst hg; exact Blk.new w t cs
theorem own_made {wx : World} {n g base : Nat} (hb : Blk wx g 3 (ints (List.replicate n 0)).toArray) (hg : base ≤ g) (hn : n ≤ 12) : OwnI wx base (some ⟨g, 0, none⟩) n (List.replicate n 0) := by
  have := OwnI.of_blk (l := List.replicate n 0) hb hg (by simp only [List.length_replicate, maxLen]; omega)
  rw [List.length_replicate] at this
  exact this
theorem fire_leaf {wx : World} {n base bp gB gT cr : Nat} {Ar : Option Addr} {lv : Value} {E : List (Nat × Nat)}
    (hp : Blk wx bp 242 #[.slice Ar E.length cr, lv, .slice (some ⟨gB, 0, none⟩) n n, .slice (some ⟨gT, 0, none⟩) n n, .slice none 0 0, .slice none 0 0, .slice none 0 0, .slice none 0 0])
    (hE : Reads wx base 2 Ar E.length (pair2 E)) (hB : Blk wx gB 4 (bools (List.replicate n false))) (hT : Blk wx gT 3 (ints (List.replicate n 0)).toArray) (h1 : base ≤ bp) (h2 : base ≤ gB) (h3 : base ≤ gT) (hn : n ≤ 12) :
    ∃ a, FireW wx base bp E n lv a (fire0 n) [] := by
  refine ⟨⟨Ar, cr, gB, gT, none, 0, none, 0, none, 0, none, 0⟩, ?_⟩
  have hb : bntL n [] = List.replicate n false := by
    apply List.ext_getElem (by simp [bntL])
    intro i h1 h2
    simp [bntL]
  have nb : ∀ A : Option Addr, Dj A none := fun A k _ h => by obtain ⟨a, h, _⟩ := h; cases h
  have nb' : ∀ A : Option Addr, Dj none A := fun A k h _ => by obtain ⟨a, h, _⟩ := h; cases h
  exact { blk := hp, ends := hE, burnt := by show Blk wx gB _ (bools (bntL n [])); rw [hb]; exact hB, hb := h1, hgB := h2, times := own_made hT h3 hn, tlen := by simp [fire0], steps := OwnI.nil_ _ _, order := OwnI.nil_ _ _, tree := OwnI.nil_ _ _, next := OwnI.nil_ _ _,
          tS := nb _, tO := nb _, tD := nb _, tH := nb _, sO := nb _, sD := nb _, sH := nb _, oD := nb _, oH := nb _, dH := nb _ }
theorem lit_leaf {w wx : World} {base bp gB gT n cr : Nat} {Ar : Option Addr} {lv : Value} {E : List (Nat × Nat)}
    (hp : Blk wx bp 242 #[.slice Ar E.length cr, lv, .slice (some ⟨gB, 0, none⟩) n n, .slice (some ⟨gT, 0, none⟩) n n, .slice none 0 0, .slice none 0 0, .slice none 0 0, .slice none 0 0])
    (hE : Reads wx base 2 Ar E.length (pair2 E)) (hB : Blk wx gB 4 (bools (List.replicate n false))) (hT : Blk wx gT 3 (ints (List.replicate n 0)).toArray) (h1 : base ≤ bp) (h2 : base ≤ gB) (h3 : base ≤ gT) (hn : n ≤ 12) (hb : Below w.heap.size w wx) (hs : base ≤ wx.heap.size) :
    ∃ bp' a, Value.pointer (some ⟨bp, 0, none⟩) = Value.pointer (some ⟨bp', 0, none⟩) ∧ Hid (FireW wx base bp' E n lv a (fire0 n) []) ∧ Hid (Below w.heap.size w wx) ∧ Hid (base ≤ wx.heap.size) := by
  obtain ⟨a, ha⟩ := fire_leaf hp hE hB hT h1 h2 h3 hn
  exact ⟨bp, a, rfl, ha, hb, hs⟩
set_option maxRecDepth 100000 in
set_option maxHeartbeats 8000000 in
theorem lit_any (n q F : Nat) (y : Value) (lit : Nat → Nat → Int → Bool) (A : Option Addr) (c : Nat) (es : List E3) (hn : n ≤ 12) (hq : q < n) (hlen : es.length ≤ 10000) (hz : checkG n es = 0) (hm : (endsL es).length ≤ 60) (hE : BdP n (endsL es)) (w : World) (h : Reads w w.heap.size 3 A es.length (edgeCells es))
    (eg : ∀ args w, (callFunc F args).run Tryz.prog w = .ok (.enter F args) w) (hL : ∀ W x e t, Below w.heap.size w W → x < n → e < (endsL es).length → Calls Tryz.prog F #[y, .int .i64 (x : Int), .int .i64 (e : Int), .int .i64 t] W fun r w' => r = .returned (.bool (lit x e t)) ∧ W = w') :
    Calls Tryz.prog 256 #[.agg #[.int .i64 n, .slice A es.length c], .int .i64 q, .func (.func F) #[y] #[]] w fun e w' => ∃ b, e = .returned (.pointer (some ⟨b, 0, none⟩)) ∧ Hid (∃ a T base, FireW w' base b (endsL es) n (.func (.func F) #[y] #[]) a { runF (endsL es) lit (endsL es).length (fire1 n q) with tree := T } [] ∧ T.Perm (runF (endsL es) lit (endsL es).length (fire1 n q)).tree ∧ T.Pairwise (· ≤ ·) ∧ w.heap.size ≤ base ∧ base ≤ w'.heap.size) ∧ Below w.heap.size w w' := by
  have hG := right_of hz
  have hmk := make_ints n (by omega)
  have hmb := make_bools n (by omega)
  have EC : Hid (∀ W, Below w.heap.size w W → Calls Tryz.prog 158 #[.agg #[.int .i64 n, .slice A es.length c]] W fun e w' => ∃ Ar cr, e = .returned (.tuple #[.slice Ar (endsL es).length cr, .int .i64 0]) ∧ OwnQ w' W.heap.size Ar cr (endsL es) ∧ Below W.heap.size W w') := fun W hB => ends_ok n A c es hlen hz n hG.ok W ((h.below hB).more hB.size)
  have BC := Lib.hid (fun (W : World) (base b : Nat) (a : FireA) (hB : Below w.heap.size w W) (hba : w.heap.size ≤ base) (hF : FireW W base b (endsL es) n (.func (.func F) #[y] #[]) a (fire0 n) []) (hs : base ≤ W.heap.size) => fburn_any base b n q F y lit (endsL es) a hn hq hE hm W hF hs eg (fun W' x e t hW' h1 h2 => hL W' x e t (hB.trans (hW'.mono hba)) h1 h2))
  have g0 := Blk.new w 24 #[.int .i64 n, .slice A es.length c]
  have hB0 : Below w.heap.size w (w.alloc (.cells #[.int .i64 n, .slice A es.length c] 24)) := (Below.refl _ _).alloc (Nat.le_refl _) _
  obtain ⟨E, hEE⟩ : ∃ E, endsL es = E := ⟨_, rfl⟩
  rw [hEE] at EC BC hm ⊢
  have c0 := g0.cell 0
  have c1 := g0.cell 1
  clear h hz hE hL hG hEE eg
  go_enter Tryz.func256, Tryz.ntmps256
  go_wp2_with fail
  refine (EC.out _ hB0).mono ?_
  rintro e w1 ⟨Ar, cr, rfl, o1, hb1⟩
  have hB1 := hB0.trans (hb1.mono hB0.size)
  have g1 := g0.next hb1
  have k0 := g1.cell 0
  have R1 := Lib.hid (Reads.of_own o1)
  have HB1 := Lib.hid hB1
  have hs1 := hB1.size
  have hz1 : w.heap.size < w1.heap.size := g1.lt
  clear c0 c1 o1
  go_upto_region 2 with fail
  go_cut [9] from 18 to 24 (fun p wx => ∃ bp a, p = .pointer (some ⟨bp, 0, none⟩) ∧ Hid (FireW wx w1.heap.size bp E n (.func (.func F) #[y] #[]) a (fire0 n) []) ∧ Hid (Below w.heap.size w wx) ∧ Hid (w1.heap.size ≤ wx.heap.size))
  case first =>
    go_region_held3 (fun W => W.cell? ⟨w.heap.size, 0, none⟩ = some (.int .i64 n)) (first | exact (g1.alloc _).cell 0 | exact ((g1.alloc _).alloc _).cell 0 | exact (((g1.alloc _).alloc _).alloc _).cell 0 | exact (Blk.drew (((g1.alloc _).alloc _).alloc _)).cell 0 | exact (Blk.drew ((g1.alloc _).alloc _)).cell 0 | exact (Blk.drew (g1.alloc _)).cell 0 | go_keep) (fail)
    all_goals
      go_wp2
      go_meet
      refine lit_leaf (Blk.newL (by first | rfl | simp)) ?_ ?_ ?_ ?_ ?_ ?_ hn ?_ ?_
      · exact (((R1.out.alloc (Nat.le_refl _) _).alloc (by simp) _).alloc (by simp; omega) _)
      · first
          | (refine ((Blk.newL ?_).alloc _); simp; done)
          | (refine (((Blk.newL ?_).alloc _).alloc _); simp; done)
      · first
          | (refine ((Blk.newL ?_).alloc _); simp; done)
          | (refine (((Blk.newL ?_).alloc _).alloc _); simp; done)
      · first | omega | (simp; done) | (simp; omega)
      · first | omega | (simp; done) | (simp; omega)
      · first | omega | (simp; done) | (simp; omega)
      · first | exact Below.drew (((HB1.out.alloc hs1 _).alloc (by simp; omega) _).alloc (by simp; omega) _) | exact (((HB1.out.alloc hs1 _).alloc (by simp; omega) _).alloc (by simp; omega) _)
      · first | omega | (simp; done) | (simp; omega) | (simp [World.drew]; done) | (simp [World.drew]; omega)
  case rest =>
    obtain ⟨bp, a, rfl, F1, B1, Z1⟩ := hcut
    clear g1 k0
    go_wp2_with fail
    refine (BC.out _ _ bp a B1.out hs1 F1.out Z1.out).mono ?_
    rintro e w2 ⟨rfl, HI⟩
    have HR : Hid (∃ a T base, FireW w2 base bp E n (.func (.func F) #[y] #[]) a { runF E lit E.length (fire1 n q) with tree := T } [] ∧ T.Perm (runF E lit E.length (fire1 n q)).tree ∧ T.Pairwise (· ≤ ·) ∧ w.heap.size ≤ base ∧ base ≤ w2.heap.size) := by
      obtain ⟨a', T, f, p, so, hbb⟩ := HI.out
      exact ⟨a', T, _, f, p, so, hs1, Nat.le_trans Z1.out hbb.size⟩
    have HB : Hid (Below w.heap.size w w2) := by
      obtain ⟨a', T, f, p, so, hbb⟩ := HI.out
      exact B1.out.trans (hbb.mono hs1)
    go_wp2
    go_ret
    exact ⟨bp, rfl, HR, HB.out⟩
end Go.Proofs.YtnbikkcalcpedaaGreatDoor
namespace Go.Proofs.YtnbikkcalcpedaaGreatDoor
open Go.RowKit
theorem conf_of {n q : Nat} {es : List E3} {d : List Int} (hx : rootErr n es q = 0) (hd : d.length = n) (hlo : ∀ x ∈ d, -1048576 ≤ x) (hhi : ∀ x ∈ d, x ≤ 1048576) (h0 : ∀ v, v < n → v ≠ q → 0 ≤ d.getD v 0) : confErr n es q d = 0 := by
  obtain ⟨_, hG, _, hq⟩ := root_zero hx
  have h1 := hG.lo
  have h2 := hG.hi
  unfold confErr
  rw [if_neg (by omega)]
  have hdv : divErr d n = 0 := by
    unfold divErr
    rw [if_neg (by omega), if_neg (by omega), if_pos]
    rw [List.all_eq_true]
    intro x hx
    exact chipB_true.2 ⟨hlo x hx, hhi x hx⟩
  rw [if_neg (by omega)]
  have hdb : debtTo d q d.length = false := by
    unfold debtTo
    rw [List.any_eq_false]
    intro v hv
    have hv := List.mem_range.1 hv
    by_cases hq : v = q
    · subst hq; simp
    · have := h0 v (by omega) hq
      rw [Bool.and_eq_true]
      rintro ⟨_, h⟩
      have := of_decide_eq_true h
      omega
  rw [hdb]
  rfl
end Go.Proofs.YtnbikkcalcpedaaGreatDoor
namespace Go.Proofs.YtnbikkcalcpedaaGreatDoor
open Go.RowKit
def calmB (n : Nat) (es : List E3) (q : Nat) (c : List Int) : Bool := (superE n es q c).1 && decide ((superE n es q c).2 = 0)
def enumF (n q : Nat) (P : List Int → Bool) : Nat → List Int → List (List Int)
  | 0, c => [c]
  | m + 1, c => if n - (m + 1) = q then enumF n q P m c else ((List.range' 0 601).takeWhile fun j : Nat => P (c.set (n - (m + 1)) (j : Int))).flatMap fun j : Nat => enumF n q P m (c.set (n - (m + 1)) (j : Int))
theorem enumF_sink {n q : Nat} {P : List Int → Bool} {m v : Nat} {c : List Int} (hv : v + (m + 1) = n) (hq : v = q) : enumF n q P (m + 1) c = enumF n q P m c := by
  rw [enumF, if_pos (by omega)]
end Go.Proofs.YtnbikkcalcpedaaGreatDoor
namespace Go.Proofs.YtnbikkcalcpedaaGreatDoor
open Go.RowKit Go.Shelf
attribute [local go_sem] Oper.semAt_some
structure RF (K : Nat → Prop) (l : Nat) (J : List (List Int) → (Nat → Prop) → World → Prop) (W : World) (pre : List (List Int)) (C : Nat → Prop) (ds : List Deferred) (B : Nat) (w : World) : Prop where
  sz : W.heap.size < B
  szw : B ≤ w.heap.size
  kp : ∀ k, K k → k < W.heap.size ∧ w.heap[k]? = W.heap[k]?
  yb : Blk w W.heap.size 256 #[.func (.yield l) #[] #[]]
  j : J pre C w
  cl : ∀ k, C k → k < w.heap.size ∧ ¬ K k ∧ k ≠ W.heap.size
  mks : MarksAt ds w
  md : ∀ D, ({ target := .collected D, args := #[] } : Deferred) ∈ ds → W.heap.size < D ∧ D < B ∧ ¬ C D
section
variable {K : Nat → Prop} {l : Nat} {J : List (List Int) → (Nat → Prop) → World → Prop} {W : World} {pre pre' : List (List Int)} {C O C' : Nat → Prop} {ds : List Deferred} {B B' : Nat} {w w' : World}
theorem RF.stays (h : RF K l J W pre C ds B w) (hJ : Bears W.heap.size (fun _ => False) J) (hB : B ≤ B') (hst : Stays B' (fun _ => False) C w w') : RF K l J W pre C ds B w' := by
  have hsz := h.sz
  have hszw := h.szw
  refine ⟨h.sz, Nat.le_trans h.szw hst.size, fun k hk => ?_, h.yb.stays hst (.inr ⟨by omega, id⟩), ?_, ?_, ?_, h.md⟩
  · obtain ⟨h1, h2⟩ := h.kp k hk
    exact ⟨h1, (hst.block k (by omega) (.inr ⟨by omega, id⟩)).trans h2⟩
  · exact hJ _ _ _ _ h.j (hst.mono fun k _ hk => hk.imp id fun hk => ⟨by omega, hk.2⟩)
  · intro k hk
    obtain ⟨h1, h2⟩ := h.cl k hk
    exact ⟨Nat.lt_of_lt_of_le h1 hst.size, h2⟩
  · refine h.mks.keep fun D hD => ?_
    have := h.md D hD
    exact hst.block D (by omega) (.inr ⟨by omega, id⟩)
theorem RF.raise (h : RF K l J W pre C ds B w) (hB : B ≤ B') (hw : B' ≤ w.heap.size) : RF K l J W pre C ds B' w :=
  { h with sz := Nat.lt_of_lt_of_le h.sz hB, szw := hw, md := fun D hD => ⟨(h.md D hD).1, Nat.lt_of_lt_of_le (h.md D hD).2.1 hB, (h.md D hD).2.2⟩ }
theorem RF.round (h : RF K l J W pre C ds B w) (ho : Only (fun k => C k ∨ O k) w w') (hg : Grows C O C' w w') (hO : ∀ k, O k → B ≤ k ∧ k < w.heap.size) (hj : J pre' C' w') : RF K l J W pre' C' ds B w' := by
  have hsz := h.sz
  have hszw := h.szw
  have hnot : ∀ k, k < B → ¬ C k → ¬ (C k ∨ O k) := fun k hk hn hco => hco.elim hn fun hok => by have := (hO k hok).1; omega
  refine ⟨h.sz, Nat.le_trans h.szw ho.size, fun k hk => ?_, h.yb.only ho (hnot _ (by omega) fun hc => (h.cl W.heap.size hc).2.2 rfl), hj, ?_, ?_, ?_⟩
  · obtain ⟨h1, h2⟩ := h.kp k hk
    exact ⟨h1, (ho.block k (by omega) (hnot k (by omega) fun hc => (h.cl k hc).2.1 hk)).trans h2⟩
  · intro k hk
    rcases hg k hk with hc | hc | hc
    · obtain ⟨q1, q2⟩ := h.cl k hc
      exact ⟨Nat.lt_of_lt_of_le q1 ho.size, q2⟩
    · have := hO k hc
      exact ⟨Nat.lt_of_lt_of_le this.2 ho.size, (fun e => by have := (h.kp k e).1; omega), by omega⟩
    · exact ⟨hc.2, (fun e => by have := (h.kp k e).1; omega), by omega⟩
  · refine h.mks.keep fun D hD => ?_
    have := h.md D hD
    exact ho.block D (by omega) (hnot D (by omega) this.2.2)
  · intro D hD
    have := h.md D hD
    refine ⟨this.1, this.2.1, fun hc => ?_⟩
    rcases hg D hc with q | q | q
    · exact this.2.2 q
    · have := (hO D q).1; omega
    · omega
end
def KR (bp bv bt : Nat) (es : List E3) (A C T : Option Addr) (k : Nat) : Prop := k = bp ∨ k = bv ∨ k = bt ∨ (es.length ≠ 0 ∧ blockOf A k) ∨ blockOf C k ∨ blockOf T k
structure RecW (w : World) (n q v bp bv bt : Nat) (es : List E3) (A : Option Addr) (cA : Nat) (C : Option Addr) (cC : Nat) (T : Option Addr) (cT : Nat) (cs top : List Int) : Prop where
  p : Blk w bp 138 #[.int .i64 n, .slice A es.length cA, .int .i64 q, .slice C n cC]
  v : Blk w bv 3 #[.int .i64 v]
  t : Blk w bt 53 #[.slice T n cT]
  e : Reads w w.heap.size 3 A es.length (edgeCells es)
  c : Reads w w.heap.size 1 C n (ints cs)
  r : Reads w w.heap.size 1 T n (ints top)
section
variable {w w' : World} {n q v bp bv bt : Nat} {es : List E3} {A C T : Option Addr} {cA cC cT : Nat} {cs top : List Int}
theorem RecW.kept (h : RecW w n q v bp bv bt es A cA C cC T cT cs top) (hs : w.heap.size ≤ w'.heap.size) (hk : ∀ k, KR bp bv bt es A C T k → w'.heap[k]? = w.heap[k]?) : RecW w' n q v bp bv bt es A cA C cC T cT cs top := by
  refine ⟨(hk _ (.inl rfl)).trans h.p, (hk _ (.inr (.inl rfl))).trans h.v, (hk _ (.inr (.inr (.inl rfl)))).trans h.t, ⟨h.e.1, fun hn => ?_⟩, ⟨h.c.1, fun hn => ?_⟩, ⟨h.r.1, fun hn => ?_⟩⟩
  · obtain ⟨b, off, hA, hb, hc⟩ := h.e.2 hn
    exact ⟨b, off, hA, by omega, fun j u hu => (World.cell?_of_block (w := w) (hk b (.inr (.inr (.inr (.inl ⟨by omega, _, hA, rfl⟩)))))).trans (hc j u hu)⟩
  · obtain ⟨b, off, hA, hb, hc⟩ := h.c.2 hn
    exact ⟨b, off, hA, by omega, fun j u hu => (World.cell?_of_block (w := w) (hk b (.inr (.inr (.inr (.inr (.inl ⟨_, hA, rfl⟩))))))).trans (hc j u hu)⟩
  · obtain ⟨b, off, hA, hb, hc⟩ := h.r.2 hn
    exact ⟨b, off, hA, by omega, fun j u hu => (World.cell?_of_block (w := w) (hk b (.inr (.inr (.inr (.inr (.inr ⟨_, hA, rfl⟩))))))).trans (hc j u hu)⟩
theorem RecW.lt (h : RecW w n q v bp bv bt es A cA C cC T cT cs top) (hn : 0 < n) {k : Nat} (hk : KR bp bv bt es A C T k) : k < w.heap.size := by
  rcases hk with rfl | rfl | rfl | ⟨he, ad, hA, hk⟩ | ⟨ad, hA, hk⟩ | ⟨ad, hA, hk⟩
  · exact h.p.lt
  · exact h.v.lt
  · exact h.t.lt
  · obtain ⟨b, off, e, hb, _⟩ := h.e.2 (by omega)
    rw [e] at hA; injection hA with hA; subst hA; subst hk; exact hb
  · obtain ⟨b, off, e, hb, _⟩ := h.c.2 hn
    rw [e] at hA; injection hA with hA; subst hA; subst hk; exact hb
  · obtain ⟨b, off, e, hb, _⟩ := h.r.2 hn
    rw [e] at hA; injection hA with hA; subst hA; subst hk; exact hb
theorem RecW.next (h : RecW w n q v bp bv bt es A cA C cC T cT cs top) (hn : 0 < n) (hb : Below w.heap.size w w') : RecW w' n q v bp bv bt es A cA C cC T cT cs top := h.kept hb.size fun k hk => hb.block k (h.lt hn hk)
end
set_option maxHeartbeats 1000000 in
theorem frecs_any (n m c : Nat) (A : Option Addr) (q : Int) (B : Option Addr) (k d : Nat) (v : Int) (T : Option Addr) (kT cT : Nat) (w : World) :
    Calls Tryz.prog 149 #[.agg #[.int .i64 n, .slice A m c, .int .i64 q, .slice B k d], .int .i64 v, .slice T kT cT] w fun e w' => e = .returned (.func (.func 208) #[] #[.pointer (some ⟨w.heap.size, 0, none⟩), .pointer (some ⟨w.heap.size + 1, 0, none⟩), .pointer (some ⟨w.heap.size + 1 + 1, 0, none⟩)]) ∧
      ((w.alloc (.cells #[.int .i64 n, .slice A m c, .int .i64 q, .slice B k d] 138)).alloc (.cells #[.int .i64 v] 3)).alloc (.cells #[.slice T kT cT] 53) = w' := by
  have hmf : ∀ (fn : Fn) (first cap : Array Value) (w : World), (Instr.makeFunc fn first cap).run Tryz.prog w = .ok (.func fn first cap) w := fun _ _ _ _ => rfl
  go_enter Tryz.func149, Tryz.ntmps149
  go_wp2
  go_ret
  exact ⟨rfl, rfl⟩
end Go.Proofs.YtnbikkcalcpedaaGreatDoor
namespace Go.Proofs.YtnbikkcalcpedaaGreatDoor
open Go.RowKit
theorem joinsN_bd {N : Int} {es : List E3} (hok : ∀ e ∈ es, okE N e) (v : Nat) (l : List Nat) : 0 ≤ joinsN es v l ∧ joinsN es v l ≤ 50 * l.length := by
  induction l with
  | nil => simp [joinsN]
  | cons u l ih =>
    have := btw_bd hok v u
    rw [joinsN_cons, List.length_cons]; omega
set_option maxRecDepth 100000 in
set_option maxHeartbeats 4000000 in
theorem rban_any (n : Nat) (hn12 : n ≤ 12) (A : Option Addr) (c : Nat) (es : List E3) (hn : es.length ≤ 1048576) (hG : RightG n es) (q : Nat) (B : Option Addr) (d : Nat) (cs : List Int) (hcl : cs.length = n) (D : Option Addr) (f : Nat) (S : List Nat) (m : Nat) (hm : S.length = m) (hS : LOk n S) (w : World)
    (h : Reads w w.heap.size 3 A es.length (edgeCells es)) (h' : Reads w w.heap.size 1 B cs.length (ints cs)) (h'' : Reads w w.heap.size 1 D m (ints (natsI S))) :
    Calls Tryz.prog 198 #[.agg #[.int .i64 n, .slice A es.length c], .int .i64 q, .slice B cs.length d, .slice D m f] w fun e w' => e = .returned (.bool (banB es cs q S)) ∧ Below w.heap.size w w' := by
  subst hm
  have g0 := Blk.new w 24 #[.int .i64 n, .slice A es.length c]
  have hb0 : Below w.heap.size w (w.alloc (.cells #[.int .i64 n, .slice A es.length c] 24)) := (Below.refl _ _).alloc (Nat.le_refl _) _
  have hSl : S.length ≤ 12 := by have := nodup_len hS; omega
  have JC := Lib.hid (fun (v : Nat) w h h'' => jns_any n A c es hn n hG.ok v D f S (by omega) w h h'')
  have BC := Lib.hid (fun (v : Nat) w h => between_any n A c es hn v v w h)
  have HCL := Lib.hid hcl
  have HS := Lib.hid hS.2
  have HJB := Lib.hid (fun v : Nat => joinsN_bd hG.ok v S)
  have HBB := Lib.hid (fun v : Nat => btw_bd hG.ok v v)
  have hnl : (natsI S).length = S.length := natsI_length S
  have HK := holds_any D f (natsI S) (by omega) q _ (by rw [hnl]; exact (h''.below hb0).more hb0.size)
  rw [hnl] at HK
  have hmem : ((q : Int) ∈ natsI S) ↔ q ∈ S := natsI_mem
  clear hG hnl
  by_cases h0 : S = []
  · subst h0
    have hl : banB es cs q [] = false := rfl
    rw [hl]
    clear hl HK hS hmem hcl JC BC HJB HBB HS
    go_enter Tryz.func198, Tryz.ntmps198
    go_wp2
    go_ret
    exact ⟨rfl, hb0⟩
  · have hpos : 0 < S.length := List.length_pos_iff.2 h0
    have hi : (0 : Int) < (S.length : Int) := by omega
    have hd0 : decide ((0 : Int) < (S.length : Int)) = true := decide_eq_true hi
    have hz : ((S.length : Int) == 0) = false := by simp; exact h0
    by_cases hq : q ∈ S
    · have hl : banB es cs q S = false := by unfold banB; rw [decide_eq_true hq]; simp
      rw [decide_eq_true (hmem.2 hq)] at HK
      rw [hl]
      have HK := Lib.hid HK
      clear hl hS hmem hcl JC BC HJB HBB HS hq h0
      go_enter Tryz.func198, Tryz.ntmps198
      go_wp2_with fail
      refine (HK.out).mono ?_
      rintro e w2 ⟨rfl, rfl⟩
      go_wp2
      go_ret
      exact ⟨rfl, hb0⟩
    · have hl : banB es cs q S = (S.drop 0).all (banT es cs S) := by unfold banB; rw [decide_eq_false hq, decide_eq_false h0]; rfl
      rw [decide_eq_false (fun x => hq (hmem.1 x))] at HK
      have HK := Lib.hid HK
      obtain ⟨r, hr⟩ : ∃ r, banB es cs q S = r := ⟨_, rfl⟩
      rw [hr] at hl ⊢
      have HL0 := Lib.hid hl
      have HT : Hid (∀ v, banT es cs S v = !decide (joinsN es v S - btw es v v ≤ cs.getD v 0)) := fun _ => rfl
      obtain ⟨T, hT⟩ : ∃ T, banT es cs S = T := ⟨_, rfl⟩
      rw [hT] at HL0 HT
      clear hl hS hmem hcl hq h0 hr hT
      go_enter Tryz.func198, Tryz.ntmps198
      go_wp2_with fail
      refine (HK.out).mono ?_
      rintro e w2 ⟨rfl, rfl⟩
      go_wp2
      go_loopw [9] (fun i wr => ∃ (k : Nat), k ≤ S.length ∧ i = .int .i64 k ∧ Hid (r = (S.drop k).all T) ∧ Below w.heap.size w wr ∧ Blk wr w.heap.size 24 #[.int .i64 n, .slice A es.length c]) (fun i _ => S.length - (intOf i).toNat)
      case atStart => exact ⟨0, by omega, rfl, HL0.out, hb0, g0⟩
      case round =>
        obtain ⟨k, hk, rfl, HX, hbel, g1⟩ := hrel
        clear hb0 g0 HL0 HK
        have hsz := hbel.size
        have c0 := g1.cell 0
        have c1 := g1.cell 1
        have hgl := g1.lt
        by_cases hlt : k < S.length
        · obtain ⟨v, hv⟩ := get_of_lt hlt
          have hvn : v < n := HS.out v (List.mem_of_getElem? hv)
          obtain ⟨y, hy⟩ := get_of_lt (xs := cs) (k := v) (by have := HCL.out; omega)
          obtain ⟨b, off, rfl, hb, hcell⟩ := (h''.below hbel).at_ (ints_at (natsI_at hv))
          obtain ⟨bc, offc, rfl, hbc, hcy⟩ := (h'.below hbel).at_ (ints_at hy)
          have hki : (k : Int) < (S.length : Int) := by omega
          have hvi : (v : Int) < (cs.length : Int) := by have := HCL.out; omega
          have hma : r = (T v && (S.drop (k + 1)).all T) := by
            rw [HX.out]
            obtain ⟨l1, e1⟩ := List.getElem?_eq_some_iff.1 hv
            rw [List.drop_eq_getElem_cons l1, e1, List.all_cons]
          rw [HT.out, getD_at hy] at hma
          have JV := Lib.hid (JC.out v)
          have BV := Lib.hid (BC.out v)
          have hjb := HJB.out v
          have hbb := HBB.out v
          have RG := Lib.hid ((h.below hbel).more hsz)
          have RT := Lib.hid ((h''.below hbel).more hsz)
          obtain ⟨z, hz2⟩ : ∃ z, joinsN es v S = z := ⟨_, rfl⟩
          obtain ⟨u, hu2⟩ : ∃ u, btw es v v = u := ⟨_, rfl⟩
          rw [hz2] at JV hjb hma
          rw [hu2] at BV hbb hma
          have hz0 : 0 ≤ z := hjb.1
          have hz1 : z ≤ 600 := by omega
          have hu0 : 0 ≤ u := hbb.1
          have hu1 : u ≤ 50 := hbb.2
          have hw : IntKind.i64.wrap (z - u) = z - u := IntWalk.i64_in _ (by omega)
          clear hv hy hz2 hu2 hjb hbb
          by_cases hyz : z - u ≤ y
          · rw [decide_eq_true hyz, Bool.not_true, Bool.false_and] at hma
            have HMA := Lib.hid hma
            have hge : decide (z - u ≤ y) = true := decide_eq_true hyz
            clear hma
            go_wp2
            go_region_held3 (fun W => W.cell? ⟨w.heap.size, 0, none⟩ = some (.int .i64 n) ∧ W.cell? ⟨w.heap.size, 1, none⟩ = some (.slice A es.length c) ∧ W.cell? ⟨bc, offc + v, none⟩ = some (.int .i64 y)) (go_keep)
              (first
                | (go_at_call 255; first
                    | (refine (JV.out _ (by exact RG.out) (by exact RT.out)).mono ?_; rintro e w5 ⟨rfl, hb5⟩
                       have hb5' : Below wr.heap.size wr w5 := (Below.refl _ _).drew.trans hb5
                       have k0 := (g1.next hb5').cell 0
                       have k1 := (g1.next hb5').cell 1
                       have k3 := (hb5'.cell (p := ⟨bc, offc + v, none⟩) (by show bc < wr.heap.size; omega)).trans hcy)
                    | (refine (JV.out _ (by exact (RG.out.below hb6').more hb6'.size) (by exact (RT.out.below hb6').more hb6'.size)).mono ?_; rintro e w7 ⟨rfl, hb7⟩
                       have hb7' : Below wr.heap.size wr w7 := hb6'.trans (hb7.mono hb6'.size)
                       have k0 := (g1.next hb7').cell 0
                       have k1 := (g1.next hb7').cell 1
                       have k3 := (hb7'.cell (p := ⟨bc, offc + v, none⟩) (by show bc < wr.heap.size; omega)).trans hcy))
                | (go_at_call 104; first
                    | (refine (BV.out _ (by exact (RG.out.below hb5').more hb5'.size)).mono ?_; rintro e w8 ⟨rfl, hb8⟩
                       have hb8' : Below wr.heap.size wr w8 := hb5'.trans (hb8.mono hb5'.size)
                       have k0 := (g1.next hb8').cell 0
                       have k1 := (g1.next hb8').cell 1
                       have k3 := (hb8'.cell (p := ⟨bc, offc + v, none⟩) (by show bc < wr.heap.size; omega)).trans hcy)
                    | (refine (BV.out _ (by exact RG.out)).mono ?_; rintro e w6 ⟨rfl, hb6⟩
                       have hb6' : Below wr.heap.size wr w6 := (Below.refl _ _).drew.trans hb6
                       have k0 := (g1.next hb6').cell 0
                       have k1 := (g1.next hb6').cell 1
                       have k3 := (hb6'.cell (p := ⟨bc, offc + v, none⟩) (by show bc < wr.heap.size; omega)).trans hcy)))
            all_goals (
              go_wp2
              go_ret
              first
                | exact ⟨ret_bool HMA.out.symm, hbel.trans (hb8'.mono hsz)⟩
                | exact ⟨ret_bool HMA.out.symm, hbel.trans (hb7'.mono hsz)⟩)
          · rw [decide_eq_false hyz, Bool.not_false, Bool.true_and] at hma
            have HMA := Lib.hid hma
            have hge : decide (z - u ≤ y) = false := decide_eq_false hyz
            clear hma
            go_wp2
            go_region_held3 (fun W => W.cell? ⟨w.heap.size, 0, none⟩ = some (.int .i64 n) ∧ W.cell? ⟨w.heap.size, 1, none⟩ = some (.slice A es.length c) ∧ W.cell? ⟨bc, offc + v, none⟩ = some (.int .i64 y)) (go_keep)
              (first
                | (go_at_call 255; first
                    | (refine (JV.out _ (by exact RG.out) (by exact RT.out)).mono ?_; rintro e w5 ⟨rfl, hb5⟩
                       have hb5' : Below wr.heap.size wr w5 := (Below.refl _ _).drew.trans hb5
                       have k0 := (g1.next hb5').cell 0
                       have k1 := (g1.next hb5').cell 1
                       have k3 := (hb5'.cell (p := ⟨bc, offc + v, none⟩) (by show bc < wr.heap.size; omega)).trans hcy)
                    | (refine (JV.out _ (by exact (RG.out.below hb6').more hb6'.size) (by exact (RT.out.below hb6').more hb6'.size)).mono ?_; rintro e w7 ⟨rfl, hb7⟩
                       have hb7' : Below wr.heap.size wr w7 := hb6'.trans (hb7.mono hb6'.size)
                       have k0 := (g1.next hb7').cell 0
                       have k1 := (g1.next hb7').cell 1
                       have k3 := (hb7'.cell (p := ⟨bc, offc + v, none⟩) (by show bc < wr.heap.size; omega)).trans hcy))
                | (go_at_call 104; first
                    | (refine (BV.out _ (by exact (RG.out.below hb5').more hb5'.size)).mono ?_; rintro e w8 ⟨rfl, hb8⟩
                       have hb8' : Below wr.heap.size wr w8 := hb5'.trans (hb8.mono hb5'.size)
                       have k0 := (g1.next hb8').cell 0
                       have k1 := (g1.next hb8').cell 1
                       have k3 := (hb8'.cell (p := ⟨bc, offc + v, none⟩) (by show bc < wr.heap.size; omega)).trans hcy)
                    | (refine (BV.out _ (by exact RG.out)).mono ?_; rintro e w6 ⟨rfl, hb6⟩
                       have hb6' : Below wr.heap.size wr w6 := (Below.refl _ _).drew.trans hb6
                       have k0 := (g1.next hb6').cell 0
                       have k1 := (g1.next hb6').cell 1
                       have k3 := (hb6'.cell (p := ⟨bc, offc + v, none⟩) (by show bc < wr.heap.size; omega)).trans hcy)))
            all_goals (
              go_wp2
              go_roundw
              first
                | (case rel => exact ⟨k + 1, by omega, by go_num, HMA.out, hbel.trans (hb8'.mono hsz), g1.next hb8'⟩)
                | (case rel => exact ⟨k + 1, by omega, by go_num, HMA.out, hbel.trans (hb7'.mono hsz), g1.next hb7'⟩)
              case measure => simp [intOf]; omega)
        · obtain rfl : k = S.length := by omega
          have hend : r = true := by rw [HX.out, List.drop_length]; rfl
          have HE := Lib.hid hend
          clear hend HX
          go_wp2
          go_ret
          exact ⟨ret_bool HE.out.symm, hbel⟩
end Go.Proofs.YtnbikkcalcpedaaGreatDoor
namespace Go.Proofs.YtnbikkcalcpedaaGreatDoor
open Go.RowKit
def prvFrom (es : List E3) (cs : List Int) : List Nat → List Nat → Bool
  | _, [] => true
  | s, x :: r => catchB es cs s x && prvFrom es cs (s ++ [x]) r
def prvL (es : List E3) (cs : List Int) (l : List Nat) : Bool := prvFrom es cs (l.take 1) (l.drop 1)
def rverB (n : Int) (es : List E3) (q : Int) (cs xs : List Int) : Bool := if verErr n es q cs xs = 0 then decide (xs.getD 0 0 = q) && stabTo es cs q.toNat n.toNat && prvL es cs (xs.map Int.toNat) else false
end Go.Proofs.YtnbikkcalcpedaaGreatDoor
namespace Go.Proofs.YtnbikkcalcpedaaGreatDoor
theorem endsL_cons (e : E3) (es : List E3) : endsL (e :: es) = List.replicate e.2.2.toNat (e.1.toNat, e.2.1.toNat) ++ endsL es := by simp [endsL]
section
variable {E : List (Nat × Nat)} {k : Nat}
end
end Go.Proofs.YtnbikkcalcpedaaGreatDoor
namespace Go.Proofs.YtnbikkcalcpedaaGreatDoor
open Go.RowKit
end Go.Proofs.YtnbikkcalcpedaaGreatDoor
namespace Go.Proofs.YtnbikkcalcpedaaGreatDoor
open Go.RowKit
end Go.Proofs.YtnbikkcalcpedaaGreatDoor
namespace Go.Proofs.YtnbikkcalcpedaaGreatDoor
open Go.RowKit
def cfgErr (n : Int) (es : List E3) (q : Int) (cs : List Int) : Int := if (superE n es q cs).2 ≠ 0 then (superE n es q cs).2 else if (superE n es q cs).1 = true then 0 else 15
def grownErr (n : Int) (es : List E3) (q : Int) (xs : List Int) : Int := if treeErr n es xs ≠ 0 then treeErr n es xs else if q < 0 ∨ n ≤ q then 2 else 0
def FireOut (w w' : World) (b n : Nat) (E : List (Nat × Nat)) (s : FireS) : Prop := ∃ lv a base, FireW w' base b E n lv a { s with tree := ascN E.length s.tree } [] ∧ w.heap.size ≤ base ∧ base ≤ w'.heap.size
theorem asc_of {m : Nat} {T l : List Nat} (hn : l.Nodup) (hl : ∀ e ∈ l, e < m) (hp : T.Perm l) (hs : T.Pairwise (· ≤ ·)) : T = ascN m l := by
  refine setN_ext ⟨?_, fun e he => hl e (hp.mem_iff.1 he)⟩ (asc_set m l) fun x => ⟨fun h => mem_asc.2 ⟨hl x (hp.mem_iff.1 h), hp.mem_iff.1 h⟩, fun h => hp.mem_iff.2 (mem_asc.1 h).2⟩
  have hd := hp.nodup_iff.2 hn
  exact (hd.and hs).imp fun h => by omega
theorem cfg_zero {n : Int} {es : List E3} {q : Int} {cs : List Int} (h : cfgErr n es q cs = 0) : burnErr n es q cs = 0 ∧ restL n.toNat (burntL es cs n.toNat q.toNat) = [] ∧ (superE n es q cs) = (true, 0) := by
  unfold cfgErr superE at h
  unfold superE
  by_cases h1 : burnErr n es q cs = 0
  · rw [if_pos h1] at h ⊢
    dsimp only at h
    rw [if_neg (by simp)] at h
    by_cases h2 : restL n.toNat (burntL es cs n.toNat q.toNat) = []
    · exact ⟨h1, h2, by rw [decide_eq_true h2]⟩
    · rw [decide_eq_false h2] at h; simp at h
  · rw [if_neg h1] at h
    dsimp only at h
    rw [if_pos h1] at h
    exact absurd h h1
end Go.Proofs.YtnbikkcalcpedaaGreatDoor
namespace Go.Proofs.YtnbikkcalcpedaaGreatDoor
open Go.RowKit Go.Shelf
set_option maxRecDepth 100000 in
set_option maxHeartbeats 2000000 in
theorem sfirst_ok (n : Nat) (A : Option Addr) (c : Nat) (es : List E3) (hlen : es.length ≤ 10000) (q : Nat) (hx : rootErr n es q = 0) (w : World) (h : Reads w w.heap.size 3 A es.length (edgeCells es)) :
    Calls Tryz.prog 202 #[.agg #[.int .i64 n, .slice A es.length c], .int .i64 q] w fun e w' => ∃ Am cm, e = .returned (.tuple #[.slice Am n cm, .int .i64 0]) ∧ OwnI w' w.heap.size Am cm (maxL n es q) ∧ Below w.heap.size w w' := by
  have MX := Lib.hid (maximal_ok n A c es hlen q hx)
  have g0 := Blk.new w 24 #[.int .i64 n, .slice A es.length c]
  have c0 := g0.cell 0
  have c1 := g0.cell 1
  clear hx
  go_enter Tryz.func202, Tryz.ntmps202
  go_wp2_with fail
  refine (MX.out _ ((h.alloc (Nat.le_refl _) _).more (by simp))).mono ?_
  rintro e w1 ⟨Am, cm, rfl, o1, hb1⟩
  have hB1 : Below w.heap.size w w1 := ((Below.refl _ _).alloc (Nat.le_refl _) _).trans (hb1.mono (by simp))
  go_wp2
  go_ret2
  exact ⟨Am, cm, rfl, o1.mono (by simp), hB1⟩
end Go.Proofs.YtnbikkcalcpedaaGreatDoor
namespace Go.Proofs.YtnbikkcalcpedaaGreatDoor
open Go.RowKit Go.Shelf
attribute [local go_sem] Oper.semAt_some
structure RFix (n q : Nat) (es : List E3) (top : List Int) : Prop where
  hlen : es.length ≤ 10000
  hz : checkG n es = 0
  hq : q < n
  htl : top.length = n
  htb : ∀ x ∈ top, 0 ≤ x ∧ x ≤ 1048576
def recP (n : Nat) (es : List E3) (q : Nat) (c : List Int) : Bool := recB n es c q
set_option maxRecDepth 100000 in
set_option maxHeartbeats 4000000 in
theorem recs_iter0 (n q : Nat) (es : List E3) (top : List Int) (hF : RFix n q es top) (cs : List Int) (hcs : cs.length = n) (hcb : ∀ x ∈ cs, -1048576 ≤ x ∧ x ≤ 1048577) (bp bv bt : Nat) (A : Option Addr) (cA : Nat) (C : Option Addr) (cC : Nat) (T : Option Addr) (cT : Nat) (W0 : World)
    (hW : RecW W0 n q n bp bv bt es A cA C cC T cT cs top) :
    Iter Tryz.prog 208 #[.pointer (some ⟨bp, 0, none⟩), .pointer (some ⟨bv, 0, none⟩), .pointer (some ⟨bt, 0, none⟩)] ArgD (KR bp bv bt es A C T) (fun _ => False) (enumR (recP n es q) top n 0 cs) W0 := by
  intro l J Jx C0 W hL hC hJ hJx hY h0
  have hn0 : 0 < n := by have := hF.hq; omega
  have hn12 : n ≤ 12 := by have := (right_of hF.hz).hi; omega
  have hRW : RecW W n q n bp bv bt es A cA C cC T cT cs top := hW.kept hL.size fun k hk => hL.block k (hW.lt hn0 hk) hk
  obtain ⟨Wy, hWy⟩ : ∃ Wy, W.alloc (.cells #[.func (.yield l) #[] #[]] 256) = Wy := ⟨_, rfl⟩
  have hby : Below W.heap.size W Wy := by rw [← hWy]; exact (Below.refl _ _).alloc (Nat.le_refl _) _
  have y5 : Blk Wy W.heap.size 256 #[.func (.yield l) #[] #[]] := by rw [← hWy]; exact Blk.new _ _ _
  have hsy : Wy.heap.size = W.heap.size + 1 := by rw [← hWy]; simp
  have hRy := hRW.next hn0 hby
  have RC := Lib.hid (recurs_any n A cA es q hF.hq C cC cs ⟨hF.hlen, hF.hz, hcs, hcb⟩ Wy hRy.e hRy.c)
  have CL := Lib.hid (fun (W : World) (h : Reads W W.heap.size 1 C n (ints cs)) => by have := dclone_any C cC cs (by omega) W (by rw [hcs]; exact h); rw [hcs] at this; exact this)
  have HRY := Lib.hid hRy
  have HJ := Lib.hid hJ
  have HY := Lib.hid hY
  have HC := Lib.hid hC
  have HLEN := Lib.hid hcs
  have hJy := hJ _ _ _ _ h0 (Stays.of_new hby)
  have HJy := Lib.hid hJy
  have e1 := hRy.p.cell 0
  have e2 := hRy.p.cell 1
  have e3 := hRy.p.cell 2
  have e4 := hRy.p.cell 3
  have HEN : Hid (enumR (recP n es q) top n 0 cs = if recB n es cs q then [cs] else []) := rfl
  obtain ⟨xs, hxs⟩ : ∃ xs, enumR (recP n es q) top n 0 cs = xs := ⟨_, rfl⟩
  rw [hxs] at HEN HY ⊢
  obtain ⟨b, hb⟩ : ∃ b, recB n es cs q = b := ⟨_, rfl⟩
  rw [hb] at HEN RC
  clear hb hxs hJ hY hC hcs hRy hRW hW hF hL h0 hJx hJy hcb
  refine (callsIn_wide (n := 3)).1 ?_
  refine callsIn_of_wp_marks Tryz.func208 rfl trivial ?_
  simp only [Tryz.ntmps208, List.size_toArray, List.length_cons, List.length_nil, Nat.reduceAdd, Nat.reduceSub, Array.replicate_succ, Array.replicate_zero, List.push_toArray, List.append_toArray, List.nil_append, List.cons_append]
  gi_wp2_with fail
  refine ⟨trivial, ?_⟩
  refine (inW RC.out).mono ?_
  rintro e w1 ⟨rfl, hb1⟩
  have hB1 := hby.trans (hb1.mono (by omega))
  have hR1 := HRY.out.next hn0 hb1
  have J1 := Lib.hid (HJ.out _ _ _ _ HJy.out (Stays.of_new hb1))
  have y1 := y5.next hb1
  have hs1 := hb1.size
  have e5 := y1.cell 0
  have e1 := hR1.p.cell 0
  have e3 := hR1.p.cell 2
  have e4 := hR1.p.cell 3
  have e6 := hR1.v.cell 0
  have HR1 := Lib.hid hR1
  clear hby y5 hWy hR1
  cases b
  · have HEN2 : Hid (xs = []) := HEN.out
    gi_wp2
    exact ⟨_, results_none rfl _ _ _, ⟨⟨_, rfl⟩, C0, .inl (by rw [HEN2.out]; exact J1.out)⟩⟩
  · have HEN2 : Hid (xs = [cs]) := HEN.out
    have HPR : Hid ([] ++ [cs] <+: xs) := by rw [HEN2.out]; exact List.prefix_refl _
    have HA2 : Hid (∀ (A' : Option Addr) (c' : Nat), (#[.slice A' n c'] : Array Value) = #[.slice A' cs.length c']) := fun A' c' => by rw [HLEN.out]
    gi_wp2_with fail
    refine wpIn_nopanic ?_
    gi_region_with (first
      | (refine ⟨trivial, ?_⟩; gi_at_call 47; refine (inW (CL.out w1.drew HR1.out.c)).mono ?_; rintro e w2 ⟨A', c', rfl, hown, hbel⟩
         have ho1 : Only (fun _ => False) w1 w2 := ((Only.refl _ w1).drew).trans (Only.of_new hbel)
         have cy : w2.cell? ⟨W.heap.size, 0, none⟩ = some (.func (.yield l) #[] #[]) := (hbel.cell (p := ⟨W.heap.size, 0, none⟩) y1.lt).trans e5
         have hs2 := ho1.size
         have hOw : Hid (∀ k, blockOf A' k → w1.heap.size ≤ k ∧ k < w2.heap.size) := fun k hk => hown.lt k (blockOf_own.2 hk)
         obtain ⟨fn, tmps, assign, body, hy, hR⟩ := HY.out [] cs C0 w2 #[.slice A' n c'] (blockOf A') HPR.out (HJ.out _ _ _ _ J1.out (Stays.of_only ho1 (fun _ _ h => h.elim))) (by omega) (fun k hk => by have := (HC.out k hk).1; omega) (fun k hk => ⟨fun h => by have := (HC.out k h).1; have := (hOw.out k hk).1; omega, (hOw.out k hk).2, by have := (hOw.out k hk).1; omega⟩) ⟨A', c', HA2.out A' c', hown.mono (Nat.zero_le _), fun k hk => hk⟩)
      | (refine (roundIn_wide hR).mono ?_; rintro e w3 ⟨C2, b2, ho2, hg2, rfl, hj2, hx2⟩))
    all_goals (
      refine nopanic_normal ?_
      have EN : Hid (∃ C', J xs C' w3 ∨ ∃ pre, pre <+: xs ∧ Jx pre C' w3) := by
        rw [HEN2.out]
        cases b2
        · exact ⟨C2, .inr ⟨_, List.prefix_refl _, hx2 rfl⟩⟩
        · exact ⟨C2, .inl (hj2 rfl)⟩
      clear hj2 hx2 hR hy ho2 hg2
      gi_wp2
      exact ⟨_, results_none rfl _ _ _, ⟨⟨_, rfl⟩, EN.out⟩⟩)
end Go.Proofs.YtnbikkcalcpedaaGreatDoor
