/-
  Texts of this claim, put together: RRecs, RSettled.
-/
import Derived.Test.YtplgbapbgcipdaaGreatK23
import Derived.Test.YtplgbapbgcipdaaGreatK22
import Derived.Test.YtplgbapbgcipdaaGreatK07
import Derived.Test.YtplgbapbgcipdaaGreatK08
import Derived.Stop.RegionWithIn
import Derived.Sort.CutIn
import Derived.Test.YtplgbapbgcipdaaGreatK20
/-! Package recurrent: the iterator recurrents, which ranges over itself. -/
namespace Go.Proofs.YtplgbapbgcipdaaGreat
open Go.RowKit Go.Shelf
attribute [local go_sem] Oper.semAt_some

/-- What holds between two rounds; K: what is leant on. -/
structure RF (K : Nat → Prop) (l : Nat) (J : List (List Int) → (Nat → Prop) → World → Prop) (W : World) (pre : List (List Int)) (C : Nat → Prop) (ds : List Deferred) (B : Nat) (w : World) : Prop where
  sz : W.heap.size < B
  szw : B ≤ w.heap.size
  kp : ∀ k, K k → k < W.heap.size ∧ w.heap[k]? = W.heap[k]?
  yb : Blk w W.heap.size 51 #[.func (.yield l) #[] #[]]
  j : J pre C w
  cl : ∀ k, C k → k < w.heap.size ∧ ¬ K k ∧ k ≠ W.heap.size
  mks : MarksAt ds w
  md : ∀ D, ({ target := .collected D, args := #[] } : Deferred) ∈ ds → W.heap.size < D ∧ D < B ∧ ¬ C D

section
variable {K : Nat → Prop} {l : Nat} {J : List (List Int) → (Nat → Prop) → World → Prop} {W : World} {pre pre' : List (List Int)} {C O C' : Nat → Prop} {ds : List Deferred} {B B' : Nat} {w w' : World}
theorem RF.stays (h : RF K l J W pre C ds B w) (hJ : Bears W.heap.size (fun _ => False) J) (hB : B ≤ B') (hst : Stays B' (fun _ => False) C w w') : RF K l J W pre C ds B w' := by
  have hsz := h.sz
  have hszw := h.szw
  refine ⟨h.sz, Nat.le_trans h.szw hst.size, fun k hk => ?_, h.yb.stays hst (.inr ⟨by omega, id⟩), ?_, ?_, ?_, h.md⟩
  · obtain ⟨h1, h2⟩ := h.kp k hk
    exact ⟨h1, (hst.block k (by omega) (.inr ⟨by omega, id⟩)).trans h2⟩
  · exact hJ _ _ _ _ h.j (hst.mono fun k _ hk => hk.imp id fun hk => ⟨by omega, hk.2⟩)
  · intro k hk
    obtain ⟨h1, h2⟩ := h.cl k hk
    exact ⟨Nat.lt_of_lt_of_le h1 hst.size, h2⟩
  · refine h.mks.keep fun D hD => ?_
    have := h.md D hD
    exact hst.block D (by omega) (.inr ⟨by omega, id⟩)
theorem RF.raise (h : RF K l J W pre C ds B w) (hB : B ≤ B') (hw : B' ≤ w.heap.size) : RF K l J W pre C ds B' w :=
  { h with sz := Nat.lt_of_lt_of_le h.sz hB, szw := hw, md := fun D hD => ⟨(h.md D hD).1, Nat.lt_of_lt_of_le (h.md D hD).2.1 hB, (h.md D hD).2.2⟩ }
theorem RF.round (h : RF K l J W pre C ds B w) (ho : Only (fun k => C k ∨ O k) w w') (hg : Grows C O C' w w') (hO : ∀ k, O k → B ≤ k ∧ k < w.heap.size) (hj : J pre' C' w') : RF K l J W pre' C' ds B w' := by
  have hsz := h.sz
  have hszw := h.szw
  have hnot : ∀ k, k < B → ¬ C k → ¬ (C k ∨ O k) := fun k hk hn hco => hco.elim hn fun hok => by have := (hO k hok).1; omega
  refine ⟨h.sz, Nat.le_trans h.szw ho.size, fun k hk => ?_, h.yb.only ho (hnot _ (by omega) fun hc => (h.cl W.heap.size hc).2.2 rfl), hj, ?_, ?_, ?_⟩
  · obtain ⟨h1, h2⟩ := h.kp k hk
    exact ⟨h1, (ho.block k (by omega) (hnot k (by omega) fun hc => (h.cl k hc).2.1 hk)).trans h2⟩
  · intro k hk
    rcases hg k hk with hc | hc | hc
    · obtain ⟨q1, q2⟩ := h.cl k hc
      exact ⟨Nat.lt_of_lt_of_le q1 ho.size, q2⟩
    · have := hO k hc
      exact ⟨Nat.lt_of_lt_of_le this.2 ho.size, (fun e => by have := (h.kp k e).1; omega), by omega⟩
    · exact ⟨hc.2, (fun e => by have := (h.kp k e).1; omega), by omega⟩
  · refine h.mks.keep fun D hD => ?_
    have := h.md D hD
    exact ho.block D (by omega) (hnot D (by omega) this.2.2)
  · intro D hD
    have := h.md D hD
    refine ⟨this.1, this.2.1, fun hc => ?_⟩
    rcases hg D hc with q | q | q
    · exact this.2.2 q
    · have := (hO D q).1; omega
    · omega
end

/-- What the iterator leans on. -/
def KR (bp bv bt : Nat) (es : List E3) (A C T : Option Addr) (k : Nat) : Prop := k = bp ∨ k = bv ∨ k = bt ∨ (es.length ≠ 0 ∧ blockOf A k) ∨ blockOf C k ∨ blockOf T k
structure RecW (w : World) (n q v bp bv bt : Nat) (es : List E3) (A : Option Addr) (cA : Nat) (C : Option Addr) (cC : Nat) (T : Option Addr) (cT : Nat) (cs top : List Int) : Prop where
  p : Blk w bp 80 #[.int .i64 n, .slice A es.length cA, .int .i64 q, .slice C n cC]
  v : Blk w bv 3 #[.int .i64 v]
  t : Blk w bt 26 #[.slice T n cT]
  e : Reads w w.heap.size 3 A es.length (edgeCells es)
  c : Reads w w.heap.size 1 C n (ints cs)
  r : Reads w w.heap.size 1 T n (ints top)
section
variable {w w' : World} {n q v bp bv bt : Nat} {es : List E3} {A C T : Option Addr} {cA cC cT : Nat} {cs top : List Int}
theorem RecW.kept (h : RecW w n q v bp bv bt es A cA C cC T cT cs top) (hs : w.heap.size ≤ w'.heap.size) (hk : ∀ k, KR bp bv bt es A C T k → w'.heap[k]? = w.heap[k]?) : RecW w' n q v bp bv bt es A cA C cC T cT cs top := by
  refine ⟨(hk _ (.inl rfl)).trans h.p, (hk _ (.inr (.inl rfl))).trans h.v, (hk _ (.inr (.inr (.inl rfl)))).trans h.t, ⟨h.e.1, fun hn => ?_⟩, ⟨h.c.1, fun hn => ?_⟩, ⟨h.r.1, fun hn => ?_⟩⟩
  · obtain ⟨b, off, hA, hb, hc⟩ := h.e.2 hn
    exact ⟨b, off, hA, by omega, fun j u hu => (World.cell?_of_block (w := w) (hk b (.inr (.inr (.inr (.inl ⟨by omega, _, hA, rfl⟩)))))).trans (hc j u hu)⟩
  · obtain ⟨b, off, hA, hb, hc⟩ := h.c.2 hn
    exact ⟨b, off, hA, by omega, fun j u hu => (World.cell?_of_block (w := w) (hk b (.inr (.inr (.inr (.inr (.inl ⟨_, hA, rfl⟩))))))).trans (hc j u hu)⟩
  · obtain ⟨b, off, hA, hb, hc⟩ := h.r.2 hn
    exact ⟨b, off, hA, by omega, fun j u hu => (World.cell?_of_block (w := w) (hk b (.inr (.inr (.inr (.inr (.inr ⟨_, hA, rfl⟩))))))).trans (hc j u hu)⟩
theorem RecW.lt (h : RecW w n q v bp bv bt es A cA C cC T cT cs top) (hn : 0 < n) {k : Nat} (hk : KR bp bv bt es A C T k) : k < w.heap.size := by
  rcases hk with rfl | rfl | rfl | ⟨he, ad, hA, hk⟩ | ⟨ad, hA, hk⟩ | ⟨ad, hA, hk⟩
  · exact h.p.lt
  · exact h.v.lt
  · exact h.t.lt
  · obtain ⟨b, off, e, hb, _⟩ := h.e.2 (by omega)
    rw [e] at hA; injection hA with hA; subst hA; subst hk; exact hb
  · obtain ⟨b, off, e, hb, _⟩ := h.c.2 hn
    rw [e] at hA; injection hA with hA; subst hA; subst hk; exact hb
  · obtain ⟨b, off, e, hb, _⟩ := h.r.2 hn
    rw [e] at hA; injection hA with hA; subst hA; subst hk; exact hb
theorem RecW.next (h : RecW w n q v bp bv bt es A cA C cC T cT cs top) (hn : 0 < n) (hb : Below w.heap.size w w') : RecW w' n q v bp bv bt es A cA C cC T cT cs top := h.kept hb.size fun k hk => hb.block k (h.lt hn hk)
end

set_option maxHeartbeats 1000000 in
theorem frecs_any (n m c : Nat) (A : Option Addr) (q : Int) (B : Option Addr) (k d : Nat) (v : Int) (T : Option Addr) (kT cT : Nat) (w : World) :
    Calls Tryz.prog 48 #[.agg #[.int .i64 n, .slice A m c, .int .i64 q, .slice B k d], .int .i64 v, .slice T kT cT] w fun e w' => e = .returned (.func (.func 80) #[] #[.pointer (some ⟨w.heap.size, 0, none⟩), .pointer (some ⟨w.heap.size + 1, 0, none⟩), .pointer (some ⟨w.heap.size + 1 + 1, 0, none⟩)]) ∧
      ((w.alloc (.cells #[.int .i64 n, .slice A m c, .int .i64 q, .slice B k d] 80)).alloc (.cells #[.int .i64 v] 3)).alloc (.cells #[.slice T kT cT] 26) = w' := by
  have hmf : ∀ (fn : Fn) (first cap : Array Value) (w : World), (Instr.makeFunc fn first cap).run Tryz.prog w = .ok (.func fn first cap) w := fun _ _ _ _ => rfl
  go_enter Tryz.func48, Tryz.ntmps48
  go_wp2
  go_ret
  exact ⟨rfl, rfl⟩
end Go.Proofs.YtplgbapbgcipdaaGreat

/-! Package recurrent: settled. -/
namespace Go.Proofs.YtplgbapbgcipdaaGreat
open Go.RowKit

set_option maxHeartbeats 1000000 in
theorem dmax_any (A : Option Addr) (c : Nat) (xs : List Int) (hn : xs.length ≤ 1048576) (h0 : 0 < xs.length) (w : World) (h : Reads w w.heap.size 1 A xs.length (ints xs)) :
    Calls Tryz.prog 69 #[.slice A xs.length c] w fun e w' => ∃ x, x ∈ xs ∧ (∀ y ∈ xs, y ≤ x) ∧ e = .returned (.int .i64 x) ∧ w = w' := by
  obtain ⟨x0, hx0⟩ := get_of_lt h0
  obtain ⟨b, off, rfl, hb, hc0⟩ := h.at_ (ints_at hx0)
  rw [Nat.add_zero] at hc0
  have h00 : (0 : Int) < (xs.length : Int) := by omega
  have hne : ¬ (xs.length : Int) < 1 := by omega
  have hm0 : Hid (x0 ∈ xs) := List.mem_of_getElem? hx0
  have hm1 : Hid (∀ j y, j < 1 → xs[j]? = some y → y ≤ x0) := fun j y hj hy => by
    obtain rfl : j = 0 := by omega
    rw [hx0] at hy; injection hy with hy; omega
  clear hx0
  go_enter Tryz.func69, Tryz.ntmps69
  go_wp2
  go_loopw [3, 4] (fun m i wr => ∃ (k : Nat) (x : Int), 1 ≤ k ∧ k ≤ xs.length ∧ i = .int .i64 k ∧ m = .int .i64 x ∧ Hid (x ∈ xs) ∧ Hid (∀ j y, j < k → xs[j]? = some y → y ≤ x) ∧ w = wr) (fun _ i _ => xs.length - (intOf i).toNat)
  case atStart => exact ⟨1, x0, by omega, by omega, rfl, rfl, hm0.out, hm1, rfl⟩
  case round =>
    obtain ⟨k, x, hk1, hk, rfl, rfl, HM, HA, rfl⟩ := hrel
    by_cases hlt : k < xs.length
    · obtain ⟨y, hy⟩ := get_of_lt hlt
      obtain ⟨b', off', hA, _, hcy⟩ := h.at_ (ints_at hy)
      injection hA with hA; injection hA with q1 q2; subst q1 q2
      have hi : (k : Int) < (xs.length : Int) := by omega
      have HY : Hid (y ∈ xs) := List.mem_of_getElem? hy
      have HMM : Hid ((if x < y then y else x) ∈ xs) := by
        rw [Hid]
        split
        · exact HY.out
        · exact HM.out
      have HAA : Hid (∀ j z, j < k + 1 → xs[j]? = some z → z ≤ if x < y then y else x) := fun j z hj hz => by
        by_cases e : j = k
        · subst e
          rw [hy] at hz; injection hz with hz
          split <;> omega
        · have := HA.out j z (by omega) hz
          split <;> omega
      clear hy h
      go_wp2
      go_roundw
      case rel => exact ⟨k + 1, (if x < y then y else x), by omega, by omega, by go_num, rfl, HMM.out, HAA, trivial⟩
      case measure => simp [intOf]; omega
    · obtain rfl : k = xs.length := by omega
      go_wp2
      go_ret
      exact ⟨x, HM.out, fun y hy => by
        obtain ⟨j, hj⟩ := List.getElem?_of_mem hy
        exact HA.out j y (List.getElem?_eq_some_iff.1 hj).1 hj, rfl, rfl⟩

/-- What settled returns. -/
def setOut (q : Nat) (r : Option (List Int × List Int)) : List Int × List Int × Int := ((stabOut q r).1.set q 0, (stabOut q r).2.1, (stabOut q r).2.2)
def SetE (n : Nat) (es : List E3) (q : Nat) (d ds ss : List Int) (e : Int) : Prop := if ∀ x ∈ d, x ≤ 1048576 then ∃ r, StabR es n q d r ∧ (ds, ss, e) = setOut q r else ds = [] ∧ ss = [] ∧ e = 11
theorem SetE.unique {n q : Nat} {es : List E3} {d ds ss ds' ss' : List Int} {e e' : Int} (hok : ∀ x ∈ es, okE n x) (hd : d.length = n) (h : SetE n es q d ds ss e) (h' : SetE n es q d ds' ss' e') : ds = ds' ∧ ss = ss' ∧ e = e' := by
  unfold SetE at h h'
  split at h
  · rename_i hx
    rw [if_pos hx] at h'
    obtain ⟨r, h1, h2⟩ := h
    obtain ⟨r', h3, h4⟩ := h'
    obtain rfl := StabR.unique (fun a b => (tt_bd hok a b).1) hd h1 h3
    rw [← h4] at h2
    injection h2 with e1 e2
    injection e2 with e2 e3
    exact ⟨e1, e2, e3⟩
  · rename_i hx
    rw [if_neg hx] at h'
    exact ⟨h.1.trans h'.1.symm, h.2.1.trans h'.2.1.symm, h.2.2.trans h'.2.2.symm⟩
theorem stabOut_len {n q : Nat} {es : List E3} {d : List Int} (hd : d.length = n) {r : Option (List Int × List Int)} (h : StabR es n q d r) : ((stabOut q r).2.2 = 0 ∧ (stabOut q r).1.length = n ∧ (stabOut q r).2.1.length = n) ∨ ((stabOut q r).2.2 ≠ 0 ∧ stabOut q r = ([], [], (stabOut q r).2.2)) := by
  rcases r with _ | ⟨x, s⟩
  · exact .inr ⟨by simp [stabOut], rfl⟩
  · obtain ⟨l, h1, h2, h3, h4, h5⟩ := h
    unfold stabOut
    dsimp only
    split
    · exact .inr ⟨by simp, rfl⟩
    · exact .inl ⟨rfl, by rw [h4]; exact runD_length hd, by rw [h5]; exact cntD_length⟩
theorem conf_of {n q : Nat} {es : List E3} {d : List Int} (hx : rootErr n es q = 0) (hd : d.length = n) (hlo : ∀ x ∈ d, -1048576 ≤ x) (hhi : ∀ x ∈ d, x ≤ 1048576) (h0 : ∀ v, v < n → v ≠ q → 0 ≤ d.getD v 0) : confErr n es q d = 0 := by
  obtain ⟨_, hG, _, hq⟩ := root_zero hx
  have h1 := hG.lo
  have h2 := hG.hi
  unfold confErr
  rw [if_neg (by omega)]
  have hdv : divErr d n = 0 := by
    unfold divErr
    rw [if_neg (by omega), if_neg (by omega), if_pos]
    rw [List.all_eq_true]
    intro x hx
    exact chipB_true.2 ⟨hlo x hx, hhi x hx⟩
  rw [if_neg (by omega)]
  have hdb : debtTo d q d.length = false := by
    unfold debtTo
    rw [List.any_eq_false]
    intro v hv
    have hv := List.mem_range.1 hv
    by_cases hq : v = q
    · subst hq; simp
    · have := h0 v (by omega) hq
      rw [Bool.and_eq_true]
      rintro ⟨_, h⟩
      have := of_decide_eq_true h
      omega
  rw [hdb]
  rfl

set_option maxRecDepth 100000 in
set_option maxHeartbeats 8000000 in
theorem rsettled_any (n : Nat) (A : Option Addr) (c : Nat) (es : List E3) (hlen : es.length ≤ 10000) (q : Nat) (hx : rootErr n es q = 0) (B : Option Addr) (cB : Nat) (d : List Int) (hd : d.length = n) (hlo : ∀ x ∈ d, -1048576 ≤ x) (h0 : ∀ v, v < n → v ≠ q → 0 ≤ d.getD v 0) (w : World)
    (h : Reads w w.heap.size 3 A es.length (edgeCells es)) (h' : Reads w w.heap.size 1 B n (ints d)) :
    Calls Tryz.prog 37 #[.agg #[.int .i64 n, .slice A es.length c], .int .i64 q, .slice B n cB] w fun e w' => ∃ ds ss er A1 c1 A2 c2, SetE n es q d ds ss er ∧ e = .returned (.tuple #[.slice A1 ds.length c1, .slice A2 ss.length c2, .int .i64 er]) ∧
      OwnI w' w.heap.size A1 c1 ds ∧ Reads w' w'.heap.size 1 A2 ss.length (ints ss) ∧ Below w.heap.size w w' := by
  obtain ⟨_, hG, _, hq⟩ := root_zero hx
  have hn12 : n ≤ 12 := by have := hG.hi; omega
  have MX := Lib.hid (fun (W : World) (hr : Reads W W.heap.size 1 B n (ints d)) => by have := dmax_any B cB d (by omega) (by omega) W (by rw [hd]; exact hr); rw [hd] at this; exact this)
  have ST := Lib.hid (fun (hhi : ∀ x ∈ d, x ≤ 1048576) (W : World) (hB : Below w.heap.size w W) => by have := stab_ok n A c es hlen q B cB d (conf_of hx hd hlo hhi h0) W ((h.below hB).more hB.size) (by rw [hd]; exact (h'.below hB).more hB.size); rw [hd] at this; exact this)
  have DC := Lib.hid (fun (A' : Option Addr) (c' : Nat) (ys : List Int) (hl : ys.length ≤ 12) (W : World) (hr : Reads W W.heap.size 1 A' ys.length (ints ys)) => dclone_any A' c' ys (by omega) W hr)
  have HD := Lib.hid hd
  have g0 := Blk.new w 24 #[.int .i64 n, .slice A es.length c]
  have B0 : Below w.heap.size w (w.alloc (.cells #[.int .i64 n, .slice A es.length c] 24)) := (Below.refl _ _).alloc (Nat.le_refl _) _
  have c0 := g0.cell 0
  have c1 := g0.cell 1
  have hqi : (q : Int) < (n : Int) := by omega
  clear hx hG hd hlo h0
  go_enter Tryz.func37, Tryz.ntmps37
  go_wp2_with fail
  refine (MX.out _ ((h'.below B0).more B0.size)).mono ?_
  rintro e w1 ⟨x, hxm, hxa, rfl, rfl⟩
  have HXA := Lib.hid hxa
  have HXM := Lib.hid hxm
  clear hxa hxm
  by_cases hbig : 1048576 < x
  · have HS : Hid (SetE n es q d [] [] 11) := by
      unfold Hid SetE
      rw [if_neg (fun hh => by have := hh x HXM.out; omega)]
      exact ⟨rfl, rfl, rfl⟩
    go_wp2
    go_ret3
    exact ⟨[], [], 11, none, 0, none, 0, HS.out, rfl, OwnI.nil_ _ _, Reads.nil_, B0⟩
  · have hall : ∀ y ∈ d, y ≤ 1048576 := fun y hy => by have := HXA.out y hy; omega
    have ST2 := Lib.hid (ST.out hall _ B0)
    have HALL := Lib.hid hall
    clear hall
    go_wp2_with fail
    refine (ST2.out).mono ?_
    rintro e w2 ⟨r, A1, c1, A2, c2, hr, rfl, r1, r2, hb2⟩
    have hB2 := B0.trans (hb2.mono B0.size)
    have HS : Hid (SetE n es q d (setOut q r).1 (setOut q r).2.1 (setOut q r).2.2) := by
      unfold Hid SetE
      rw [if_pos HALL.out]
      exact ⟨r, hr, rfl⟩
    rcases stabOut_len HD.out hr with ⟨e1, e2, e3⟩ | ⟨e1, e2⟩
    · obtain ⟨o1, ho1⟩ : ∃ o1, (stabOut q r).1 = o1 := ⟨_, rfl⟩
      obtain ⟨o2, ho2⟩ : ∃ o2, (stabOut q r).2.1 = o2 := ⟨_, rfl⟩
      have HSO : Hid (setOut q r = (o1.set q 0, o2, 0)) := by unfold Hid setOut; rw [ho1, ho2, e1]
      rw [HSO.out] at HS
      rw [ho1] at r1 e2 ⊢
      rw [ho2] at r2 e3 ⊢
      rw [e1]
      have DC2 := Lib.hid (DC.out A1 c1 o1 (by omega) w2 r1)
      have HE2 := Lib.hid e2
      clear e1 e2 e3 ho1 ho2 hr
      go_wp2_with fail
      refine (DC2.out).mono ?_
      rintro e w3 ⟨A3, c3, rfl, o3, hb3⟩
      obtain ⟨g3, hA3, hg3, hf3, hc3⟩ := o3.block (by rw [HE2.out]; omega)
      subst hA3
      obtain ⟨z, hz⟩ := get_of_lt (xs := o1) (k := q) (by rw [HE2.out]; omega)
      have k0 := hc3 q z hz
      have f0 := hf3 q
      have O4 := o3.put q 0
      have b24 := hb3.setCell (p := ⟨g3, q, none⟩) hg3 (.int .i64 0)
      have R4 := (r2.below b24).more b24.size
      have B4 := ((hB2.trans (hb3.mono hB2.size)).setCell (p := ⟨g3, q, none⟩) (by show w.heap.size ≤ g3; have := hB2.size; omega) (.int .i64 0))
      have hq2 : (q : Int) < (o1.length : Int) := by have := HE2.out; omega
      have HO4 := Lib.hid O4
      have HR4 := Lib.hid R4
      clear hz hf3 hc3 O4 R4
      go_wp2
      go_ret3
      exact ⟨_, _, _, some ⟨g3, 0, none⟩, c3, A2, c2, HS.out, by rw [List.length_set]; rfl, HO4.out.mono hB2.size, HR4.out, B4⟩
    · obtain ⟨ev, hev⟩ : ∃ ev, (stabOut q r).2.2 = ev := ⟨_, rfl⟩
      rw [hev] at e1 e2
      have HSO : Hid (setOut q r = ([], [], ev)) := by unfold Hid setOut; rw [e2]; rfl
      rw [HSO.out] at HS
      rw [e2]
      have hne : (ev != 0) = true := by simpa using e1
      clear e1 e2 hev r1 r2 hr
      go_wp2
      go_ret3
      exact ⟨[], [], ev, none, 0, none, 0, HS.out, rfl, OwnI.nil_ _ _, Reads.nil_, hB2⟩
end Go.Proofs.YtplgbapbgcipdaaGreat

