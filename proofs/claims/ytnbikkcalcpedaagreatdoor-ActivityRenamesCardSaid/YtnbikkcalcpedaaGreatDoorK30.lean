/-
  Texts of this claim, put together: RRecs, RRVer, ActW, CfgF, Sup, RRecs2, DualP.
-/
import Derived.Test.YtnbikkcalcpedaaGreatDoorK29
import Derived.Test.YtnbikkcalcpedaaGreatDoorK10
import Derived.Test.YtnbikkcalcpedaaGreatDoorK11
import Derived.Stop.RegionWithIn
import Derived.Sort.CutIn
import Derived.Test.YtnbikkcalcpedaaGreatDoorK23
import Derived.Test.YtnbikkcalcpedaaGreatDoorK21
import Derived.Test.YtnbikkcalcpedaaGreatDoorK27
import Derived.Test.YtnbikkcalcpedaaGreatDoorK28
import Derived.Test.YtnbikkcalcpedaaGreatDoorK22
import Derived.Test.YtnbikkcalcpedaaGreatDoorK17
/-! Package recurrent: the iterator recurrents, which ranges over itself. -/
namespace Go.Proofs.YtnbikkcalcpedaaGreatDoor
open Go.RowKit Go.Shelf
attribute [local go_sem] Oper.semAt_some

/-- What holds between two rounds; K: what is leant on. -/
structure RF (K : Nat → Prop) (l : Nat) (J : List (List Int) → (Nat → Prop) → World → Prop) (W : World) (pre : List (List Int)) (C : Nat → Prop) (ds : List Deferred) (B : Nat) (w : World) : Prop where
  sz : W.heap.size < B
  szw : B ≤ w.heap.size
  kp : ∀ k, K k → k < W.heap.size ∧ w.heap[k]? = W.heap[k]?
  yb : Blk w W.heap.size 256 #[.func (.yield l) #[] #[]]
  j : J pre C w
  cl : ∀ k, C k → k < w.heap.size ∧ ¬ K k ∧ k ≠ W.heap.size
  mks : MarksAt ds w
  md : ∀ D, ({ target := .collected D, args := #[] } : Deferred) ∈ ds → W.heap.size < D ∧ D < B ∧ ¬ C D

section
variable {K : Nat → Prop} {l : Nat} {J : List (List Int) → (Nat → Prop) → World → Prop} {W : World} {pre pre' : List (List Int)} {C O C' : Nat → Prop} {ds : List Deferred} {B B' : Nat} {w w' : World}
theorem RF.round (h : RF K l J W pre C ds B w) (ho : Only (fun k => C k ∨ O k) w w') (hg : Grows C O C' w w') (hO : ∀ k, O k → B ≤ k ∧ k < w.heap.size) (hj : J pre' C' w') : RF K l J W pre' C' ds B w' := by
  have hsz := h.sz
  have hszw := h.szw
  have hnot : ∀ k, k < B → ¬ C k → ¬ (C k ∨ O k) := fun k hk hn hco => hco.elim hn fun hok => by have := (hO k hok).1; omega
  refine ⟨h.sz, Nat.le_trans h.szw ho.size, fun k hk => ?_, h.yb.only ho (hnot _ (by omega) fun hc => (h.cl W.heap.size hc).2.2 rfl), hj, ?_, ?_, ?_⟩
  · obtain ⟨h1, h2⟩ := h.kp k hk
    exact ⟨h1, (ho.block k (by omega) (hnot k (by omega) fun hc => (h.cl k hc).2.1 hk)).trans h2⟩
  · intro k hk
    rcases hg k hk with hc | hc | hc
    · obtain ⟨q1, q2⟩ := h.cl k hc
      exact ⟨Nat.lt_of_lt_of_le q1 ho.size, q2⟩
    · have := hO k hc
      exact ⟨Nat.lt_of_lt_of_le this.2 ho.size, (fun e => by have := (h.kp k e).1; omega), by omega⟩
    · exact ⟨hc.2, (fun e => by have := (h.kp k e).1; omega), by omega⟩
  · refine h.mks.keep fun D hD => ?_
    have := h.md D hD
    exact ho.block D (by omega) (hnot D (by omega) this.2.2)
  · intro D hD
    have := h.md D hD
    refine ⟨this.1, this.2.1, fun hc => ?_⟩
    rcases hg D hc with q | q | q
    · exact this.2.2 q
    · have := (hO D q).1; omega
    · omega
end

/-- What the iterator leans on. -/
def KR (bp bv bt : Nat) (es : List E3) (A C T : Option Addr) (k : Nat) : Prop := k = bp ∨ k = bv ∨ k = bt ∨ (es.length ≠ 0 ∧ blockOf A k) ∨ blockOf C k ∨ blockOf T k
structure RecW (w : World) (n q v bp bv bt : Nat) (es : List E3) (A : Option Addr) (cA : Nat) (C : Option Addr) (cC : Nat) (T : Option Addr) (cT : Nat) (cs top : List Int) : Prop where
  p : Blk w bp 138 #[.int .i64 n, .slice A es.length cA, .int .i64 q, .slice C n cC]
  v : Blk w bv 3 #[.int .i64 v]
  t : Blk w bt 53 #[.slice T n cT]
  e : Reads w w.heap.size 3 A es.length (edgeCells es)
  c : Reads w w.heap.size 1 C n (ints cs)
  r : Reads w w.heap.size 1 T n (ints top)
section
variable {w w' : World} {n q v bp bv bt : Nat} {es : List E3} {A C T : Option Addr} {cA cC cT : Nat} {cs top : List Int}
theorem RecW.kept (h : RecW w n q v bp bv bt es A cA C cC T cT cs top) (hs : w.heap.size ≤ w'.heap.size) (hk : ∀ k, KR bp bv bt es A C T k → w'.heap[k]? = w.heap[k]?) : RecW w' n q v bp bv bt es A cA C cC T cT cs top := by
  refine ⟨(hk _ (.inl rfl)).trans h.p, (hk _ (.inr (.inl rfl))).trans h.v, (hk _ (.inr (.inr (.inl rfl)))).trans h.t, ⟨h.e.1, fun hn => ?_⟩, ⟨h.c.1, fun hn => ?_⟩, ⟨h.r.1, fun hn => ?_⟩⟩
  · obtain ⟨b, off, hA, hb, hc⟩ := h.e.2 hn
    exact ⟨b, off, hA, by omega, fun j u hu => (World.cell?_of_block (w := w) (hk b (.inr (.inr (.inr (.inl ⟨by omega, _, hA, rfl⟩)))))).trans (hc j u hu)⟩
  · obtain ⟨b, off, hA, hb, hc⟩ := h.c.2 hn
    exact ⟨b, off, hA, by omega, fun j u hu => (World.cell?_of_block (w := w) (hk b (.inr (.inr (.inr (.inr (.inl ⟨_, hA, rfl⟩))))))).trans (hc j u hu)⟩
  · obtain ⟨b, off, hA, hb, hc⟩ := h.r.2 hn
    exact ⟨b, off, hA, by omega, fun j u hu => (World.cell?_of_block (w := w) (hk b (.inr (.inr (.inr (.inr (.inr ⟨_, hA, rfl⟩))))))).trans (hc j u hu)⟩
theorem RecW.lt (h : RecW w n q v bp bv bt es A cA C cC T cT cs top) (hn : 0 < n) {k : Nat} (hk : KR bp bv bt es A C T k) : k < w.heap.size := by
  rcases hk with rfl | rfl | rfl | ⟨he, ad, hA, hk⟩ | ⟨ad, hA, hk⟩ | ⟨ad, hA, hk⟩
  · exact h.p.lt
  · exact h.v.lt
  · exact h.t.lt
  · obtain ⟨b, off, e, hb, _⟩ := h.e.2 (by omega)
    rw [e] at hA; injection hA with hA; subst hA; subst hk; exact hb
  · obtain ⟨b, off, e, hb, _⟩ := h.c.2 hn
    rw [e] at hA; injection hA with hA; subst hA; subst hk; exact hb
  · obtain ⟨b, off, e, hb, _⟩ := h.r.2 hn
    rw [e] at hA; injection hA with hA; subst hA; subst hk; exact hb
theorem RecW.next (h : RecW w n q v bp bv bt es A cA C cC T cT cs top) (hn : 0 < n) (hb : Below w.heap.size w w') : RecW w' n q v bp bv bt es A cA C cC T cT cs top := h.kept hb.size fun k hk => hb.block k (h.lt hn hk)
end

end Go.Proofs.YtnbikkcalcpedaaGreatDoor

/-! recurrent.Verify. -/
namespace Go.Proofs.YtnbikkcalcpedaaGreatDoor
open Go.RowKit

end Go.Proofs.YtnbikkcalcpedaaGreatDoor

/-! Package activity: outside, active. -/
namespace Go.Proofs.YtnbikkcalcpedaaGreatDoor
open Go.RowKit

/-- The single edges below k that are not in a list. -/
def restTo (xs : List Int) (k : Nat) : List Int := nI ((List.range k).filter fun i => decide ((i : Int) ∉ xs))
theorem restTo_succ {xs : List Int} {k : Nat} : restTo xs (k + 1) = if (k : Int) ∈ xs then restTo xs k else restTo xs k ++ [(k : Int)] := by
  unfold restTo
  rw [List.range_succ, List.filter_append]
  by_cases h : (k : Int) ∈ xs
  · simp [h, nI]
  · simp [h, nI]
theorem restTo_len {xs : List Int} {k : Nat} : (restTo xs k).length ≤ k := by
  unfold restTo
  rw [nI_length]
  exact Nat.le_trans (List.length_filter_le _ _) (by simp)
set_option maxRecDepth 100000 in
set_option maxHeartbeats 2000000 in
theorem outside_any (n : Nat) (A : Option Addr) (c : Nat) (es : List E3) (hn : es.length ≤ 10000) (hz : checkG n es = 0) (hel : (endsL es).length ≤ 1000000) (B : Option Addr) (d : Nat) (xs : List Int) (hm : xs.length ≤ 1048576) (w : World) (h : Reads w w.heap.size 3 A es.length (edgeCells es)) (h' : Reads w w.heap.size 1 B xs.length (ints xs)) :
    Calls Tryz.prog 73 #[.agg #[.int .i64 n, .slice A es.length c], .slice B xs.length d] w fun e w' => ∃ A' c', e = .returned (.tuple #[.slice A' (restTo xs (endsL es).length).length c', .int .i64 0]) ∧ OwnI w' w.heap.size A' c' (restTo xs (endsL es).length) ∧ Below w.heap.size w w' := by
  have SZ := Lib.hid (fun (W : World) (hB : Below w.heap.size w W) => size_ok n A c es hn hz W ((h.below hB).more hB.size))
  have HH := Lib.hid (fun (v : Int) (W : World) (hB : Below w.heap.size w W) => contains_any B d xs hm v W ((h'.below hB).more hB.size))
  obtain ⟨m, hmm⟩ : ∃ m, (endsL es).length = m := ⟨_, rfl⟩
  rw [hmm] at SZ hel ⊢
  obtain ⟨N, hN⟩ : ∃ N, xs.length = N := ⟨_, rfl⟩
  rw [hN] at HH ⊢
  have g0 := Blk.new w 24 #[.int .i64 n, .slice A es.length c]
  have hB0 : Below w.heap.size w (w.alloc (.cells #[.int .i64 n, .slice A es.length c] 24)) := (Below.refl _ _).alloc (Nat.le_refl _) _
  have c0 := g0.cell 0
  have c1 := g0.cell 1
  clear hz hmm hN h h' hm
  go_enter Tryz.func73, Tryz.ntmps73
  go_wp2_with fail
  refine (SZ.out _ hB0).mono ?_
  rintro e w1 ⟨rfl, hb1⟩
  have hB1 := Lib.hid (hB0.trans (hb1.mono hB0.size))
  have hs1 := hB1.out.size
  clear c0 c1 g0 hB0 hb1
  go_wp2_with fail
  go_loopw [8, 19] (fun o i wr => ∃ (k : Nat) (A' : Option Addr) (c' : Nat), k ≤ m ∧ i = .int .i64 k ∧ o = .slice A' (restTo xs k).length c' ∧ Hid (OwnI wr w.heap.size A' c' (restTo xs k)) ∧ Hid (Below w.heap.size w wr)) (fun _ i _ => m - (intOf i).toNat)
  case atStart => exact ⟨0, none, 0, by omega, rfl, rfl, OwnI.nil_ _ _, hB1.out⟩
  case round =>
    obtain ⟨k, A', c', hk, rfl, rfl, HO, HB⟩ := hrel
    have hsz := HB.out.size
    by_cases hlt : k < m
    · have hi : (k : Int) < (m : Int) := by omega
      have hl := restTo_len (xs := xs) (k := k)
      have hsc := restTo_succ (xs := xs) (k := k)
      have PC := Lib.hid (HH.out (k : Int) wr HB.out)
      obtain ⟨S, hS⟩ : ∃ S, restTo xs k = S := ⟨_, rfl⟩
      rw [hS] at HO hl hsc ⊢
      obtain ⟨sl, hsl⟩ : ∃ sl, S.length = sl := ⟨_, rfl⟩
      have HSL := Lib.hid hsl
      rw [hsl] at hl ⊢
      by_cases hx : (k : Int) ∈ xs
      · rw [if_pos hx] at hsc
        rw [decide_eq_true hx] at PC
        have HSC := Lib.hid hsc
        clear hsc hS hx hsl
        go_wp2_with fail
        refine (PC.out).mono ?_
        rintro e w2 ⟨rfl, rfl⟩
        go_wp2
        go_roundw
        case rel => exact ⟨k + 1, A', c', by omega, by go_num, by rw [HSC.out, HSL.out], by rw [HSC.out]; exact HO.out, HB.out⟩
        case measure => simp [intOf]; omega
      · rw [if_neg hx] at hsc
        rw [decide_eq_false hx] at PC
        have HSC := Lib.hid hsc
        have OX : wr.ownsRow w.heap.size 3 1 (.slice A' sl c') sl (ints S) := by have := HO.out; unfold OwnI at this; rw [hsl] at this; exact this
        clear hsc hS hx hsl
        go_wp2_with fail
        refine (PC.out).mono ?_
        rintro e w2 ⟨rfl, rfl⟩
        go_wp2_with (first | (at_builtin; refine append_go rfl (.tmp 26) (.tmp 28) _ rfl w.heap.size 3 Tryz.underlying25 info_int rfl (by omega) A' c' sl (ints S) rfl (World.ownsRow.alloc OX _) _ [.int .i64 (k : Int)] rfl (Reads.box _ _ _) (by simp [Value.oneCell']) (by omega) (by simp; omega) ?_; intro A6 c6 w6 hown6 hg6 hb6 hw6) | fail)
        have B6 : Below w.heap.size w w6 := (HB.out.alloc hsz _).trans hb6
        have O6 : OwnI w6 w.heap.size A6 c6 (S ++ [(k : Int)]) := by unfold OwnI; rw [List.length_append, ints_snoc, HSL.out]; exact hown6
        go_roundw
        case rel => exact ⟨k + 1, A6, c6, by omega, by go_num, by rw [HSC.out, List.length_append, HSL.out]; rfl, by rw [HSC.out]; exact O6, B6⟩
        case measure => simp [intOf]; omega
    · obtain rfl : k = m := by omega
      have hf : ¬ (k : Int) < (k : Int) := by omega
      go_wp2
      go_ret2
      exact ⟨A', c', rfl, HO.out, HB.out⟩
/-- Those of a list that are the first ones of a list that belongs to them. -/
def actL (p : Int → List Int) (L : List Int) : List Int := L.filter fun e => decide ((p e).head? = some e)
theorem actL_snoc {p : Int → List Int} {L : List Int} {e : Int} : actL p (L ++ [e]) = if (p e).head? = some e then actL p L ++ [e] else actL p L := by
  unfold actL
  rw [List.filter_append]
  by_cases h : (p e).head? = some e <;> simp [h]
set_option maxRecDepth 100000 in
set_option maxHeartbeats 4000000 in
theorem active_any (F : Nat) (eg : ∀ args w, (callFunc F args).run Tryz.prog w = .ok (.enter F args) w) (n : Int) (A : Option Addr) (c : Nat) (es : List E3) (B : Option Addr) (N d : Nat) (p : Int → List Int) (C : Option Addr) (f : Nat) (L : List Int) (hL : L.length ≤ 1000000) (w : World) (h : Reads w w.heap.size 1 C L.length (ints L))
    (hc : ∀ e ∈ L, ∀ (W : World), Below w.heap.size w W → Calls Tryz.prog F #[.agg #[.int .i64 n, .slice A es.length c], .slice B N d, .int .i64 e] W fun r w' => ∃ A' c', r = .returned (.tuple #[.slice A' (p e).length c', .int .i64 0]) ∧ OwnI w' W.heap.size A' c' (p e) ∧ Below W.heap.size W w') :
    Calls Tryz.prog 71 #[.agg #[.int .i64 n, .slice A es.length c], .slice B N d, .slice C L.length f, .func (.func F) #[] #[]] w fun r w' => ∃ A' c', r = .returned (.tuple #[.slice A' (actL p L).length c', .int .i64 0]) ∧ OwnI w' w.heap.size A' c' (actL p L) ∧ Below w.heap.size w w' := by
  have HC := Lib.hid hc
  have g0 := Blk.new w 24 #[.int .i64 n, .slice A es.length c]
  have hB0 : Below w.heap.size w (w.alloc (.cells #[.int .i64 n, .slice A es.length c] 24)) := (Below.refl _ _).alloc (Nat.le_refl _) _
  obtain ⟨w0, hw0⟩ : ∃ w0, w.alloc (.cells #[.int .i64 n, .slice A es.length c] 24) = w0 := ⟨_, rfl⟩
  have hs0 : w0.heap.size = w.heap.size + 1 := by rw [← hw0]; simp
  rw [hw0] at g0 hB0
  obtain ⟨m, hmm⟩ : ∃ m, L.length = m := ⟨_, rfl⟩
  rw [hmm] at hL ⊢
  have HM := Lib.hid hmm
  have HR := Lib.hid h
  clear hc h hmm
  go_enter Tryz.func71, Tryz.ntmps71
  go_wp2_with fail
  go_loopw [10, 17] (fun o i wr => ∃ (k : Nat) (A' : Option Addr) (c' : Nat), k ≤ m ∧ i = .int .i64 k ∧ o = .slice A' (actL p (L.take k)).length c' ∧ Hid (OwnI wr w0.heap.size A' c' (actL p (L.take k))) ∧ Hid (Below w0.heap.size w0 wr)) (fun _ i _ => m - (intOf i).toNat)
  case atStart => exact ⟨0, none, 0, by omega, rfl, rfl, OwnI.nil_ _ _, Below.refl _ _⟩
  case round =>
    obtain ⟨k, A', c', hk, rfl, rfl, HO, HB⟩ := hrel
    obtain ⟨wo, hwo⟩ : ∃ wo : World, wo = wr := ⟨wr, rfl⟩
    subst hwo
    have hsz := HB.out.size
    have HBw := Lib.hid (hB0.trans (HB.out.mono hB0.size))
    have hszw := HBw.out.size
    have gk := g0.next HB.out
    have k0 := gk.cell 0
    have k1 := gk.cell 1
    by_cases hlt : k < m
    · have hi : (k : Int) < (m : Int) := by omega
      obtain ⟨x, hx⟩ := get_of_lt (xs := L) (k := k) (by rw [HM.out]; exact hlt)
      have PC := Lib.hid (HC.out x (List.mem_of_getElem? hx) wo HBw.out)
      have hR := HR.out
      rw [HM.out] at hR
      obtain ⟨b, off, hC, hbl, cx⟩ := (hR.below HBw.out).at_ (ints_at hx)
      subst hC
      have hl : (actL p (L.take k)).length ≤ k := Nat.le_trans (List.length_filter_le _ _) (by simp; omega)
      have hsc := actL_snoc (p := p) (L := L.take k) (e := x)
      rw [← take_snoc hx] at hsc
      obtain ⟨S, hS⟩ : ∃ S, actL p (L.take k) = S := ⟨_, rfl⟩
      rw [hS] at HO hl hsc ⊢
      obtain ⟨sl, hsl⟩ : ∃ sl, S.length = sl := ⟨_, rfl⟩
      have HSL := Lib.hid hsl
      rw [hsl] at hl ⊢
      obtain ⟨ps, hps⟩ : ∃ ps, p x = ps := ⟨_, rfl⟩
      rw [hps] at PC hsc
      have OX : wo.ownsRow w0.heap.size 3 1 (.slice A' sl c') sl (ints S) := by have := HO.out; unfold OwnI at this; rw [hsl] at this; exact this
      have HSC := Lib.hid hsc
      clear hsc hS hx hsl hps hR
      go_wp2_with fail
      refine (PC.out).mono ?_
      rintro r w2 ⟨A2, c2, rfl, o2, hb2⟩
      have HB2 := HB.out.trans (hb2.mono hsz)
      have hsz2 := HB2.size
      have OX2 : w2.ownsRow w0.heap.size 3 1 (.slice A' sl c') sl (ints S) := own_kept OX fun j hj => hb2.block j (own_lt OX hj).2
      rcases ps with _ | ⟨y, ps⟩
      · have HSC' : Hid (actL p (L.take (k + 1)) = S) := by have := HSC.out; rw [if_neg (by simp)] at this; exact this
        have h00 : ¬ (0 : Int) < (([] : List Int).length : Int) := by simp
        clear k0 k1 cx o2
        go_wp2
        go_roundw
        case rel => exact ⟨k + 1, A', c', by omega, by go_num, by rw [HSC'.out, HSL.out], by rw [HSC'.out]; unfold Hid OwnI; rw [HSL.out]; exact OX2, HB2⟩
        case measure => simp [intOf]; omega
      · obtain ⟨g2, rfl, _, _, _⟩ := o2.block (by simp)
        obtain ⟨b2, off2, hA2, _, cy⟩ := o2.reads.at_ (ints_at (xs := y :: ps) (k := 0) rfl)
        cases hA2
        have cy0 : w2.cell? ⟨g2, 0, none⟩ = some (.int .i64 y) := cy
        obtain ⟨pl, hpl2⟩ : ∃ pl, (y :: ps).length = pl := ⟨_, rfl⟩
        have hp0 : (0 : Int) < (pl : Int) := by rw [← hpl2]; simp
        have hp1 : decide ((0 : Int) < (pl : Int)) = true := decide_eq_true hp0
        have hp2 : 0 < pl := by omega
        rw [hpl2]
        clear k0 k1 cx o2 cy hpl2
        by_cases hyx : y = x
        · have HSC' : Hid (actL p (L.take (k + 1)) = S ++ [x]) := by have := HSC.out; rw [if_pos (by rw [hyx]; rfl)] at this; exact this
          have hb : (y == x) = true := by simpa using hyx
          subst hyx
          go_wp2_with (first | (at_builtin; refine append_go rfl (.tmp 42) (.tmp 44) _ rfl w0.heap.size 3 Tryz.underlying25 info_int rfl (by omega) A' c' sl (ints S) rfl (World.ownsRow.alloc OX2 _) _ [.int .i64 y] rfl (Reads.box _ _ _) (by simp [Value.oneCell']) (by omega) (by simp; omega) ?_; intro A6 c6 w6 hown6 hg6 hb6 hw6) | fail)
          have B6 : Below w0.heap.size w0 w6 := (HB2.alloc hsz2 _).trans hb6
          have O6 : OwnI w6 w0.heap.size A6 c6 (S ++ [y]) := by unfold OwnI; rw [List.length_append, ints_snoc, HSL.out]; exact hown6
          go_roundw
          case rel => exact ⟨k + 1, A6, c6, by omega, by go_num, by rw [HSC'.out, List.length_append, HSL.out]; rfl, by rw [HSC'.out]; exact O6, B6⟩
          case measure => simp [intOf]; omega
        · have HSC' : Hid (actL p (L.take (k + 1)) = S) := by have := HSC.out; rw [if_neg (by simpa using hyx)] at this; exact this
          have hb : (y == x) = false := by simpa using hyx
          clear hyx
          go_wp2
          go_roundw
          case rel => exact ⟨k + 1, A', c', by omega, by go_num, by rw [HSC'.out, HSL.out], by rw [HSC'.out]; unfold Hid OwnI; rw [HSL.out]; exact OX2, HB2⟩
          case measure => simp [intOf]; omega
    · obtain rfl : k = m := by omega
      have hf : ¬ (k : Int) < (k : Int) := by omega
      have hfin : Hid (actL p (L.take k) = actL p L) := by rw [Hid, List.take_of_length_le (by rw [HM.out]; exact Nat.le_refl _)]
      have O2 := Lib.hid (HO.out.mono (base' := w.heap.size) hB0.size)
      rw [hfin.out] at O2 ⊢
      clear HO
      go_wp2
      go_ret2
      exact ⟨A', c', rfl, O2.out, HBw.out⟩
end Go.Proofs.YtnbikkcalcpedaaGreatDoor

/-! treebijection: the fire of a superstable configuration, of a spanning tree; Steps, Tree, Config. -/
namespace Go.Proofs.YtnbikkcalcpedaaGreatDoor
open Go.RowKit

end Go.Proofs.YtnbikkcalcpedaaGreatDoor

/-! Package superstable: calm, first, configurations. -/
namespace Go.Proofs.YtnbikkcalcpedaaGreatDoor
open Go.RowKit Go.Shelf

end Go.Proofs.YtnbikkcalcpedaaGreatDoor

/-! Package recurrent: the iterator recurrents, where all vertices are chosen. -/
namespace Go.Proofs.YtnbikkcalcpedaaGreatDoor
open Go.RowKit Go.Shelf
attribute [local go_sem] Oper.semAt_some

end Go.Proofs.YtnbikkcalcpedaaGreatDoor

/-! Plain: the dual of a stable configuration is superstable exactly if the configuration is recurrent; the same order proves both; the dual of the dual is the configuration. No program is in sight. -/
namespace Go.Proofs.YtnbikkcalcpedaaGreatDoor
open Go.RowKit

section
variable {n q : Nat} {es : List E3} {cs : List Int}
end
end Go.Proofs.YtnbikkcalcpedaaGreatDoor

