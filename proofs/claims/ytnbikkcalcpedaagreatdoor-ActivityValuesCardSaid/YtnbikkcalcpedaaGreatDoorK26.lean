/-
  Texts of this claim, put together: TGrowS.
-/
import Derived.Test.YtnbikkcalcpedaaGreatDoorK24
import Derived.Test.YtnbikkcalcpedaaGreatDoorK14
import Derived.Test.YtnbikkcalcpedaaGreatDoorK07
import Derived.Deep.RegionLaw
import Derived.Deep.CutRange
import Derived.Deep.QuietTactic
import Derived.BigQuiet
import Derived.StillTailTactics
/-! Package tree: the closure that grows trees: a list that is no tree yet grows. -/
namespace Go.Proofs.YtnbikkcalcpedaaGreatDoor
open Go.RowKit Go.Shelf

theorem pair2_drop (E : List (Nat × Nat)) (k : Nat) : (pair2 E).drop (k * 2) = pair2 (E.drop k) := by
  induction k generalizing E with
  | zero => simp
  | succ k ih =>
    cases E with
    | nil => simp [pair2]
    | cons p E => rw [show (k + 1) * 2 = k * 2 + 1 + 1 from by omega, List.drop_succ_cons, ← ih E]; simp [pair2]
theorem Reads.dropQ {w : World} {B b off : Nat} {E : List (Nat × Nat)} (h : Reads w B 2 (some ⟨b, off, none⟩) E.length (pair2 E)) (k : Nat) (hk : k < E.length) : Reads w B 2 (some ⟨b, off + k * 2, none⟩) (E.length - k) (pair2 (E.drop k)) := by
  obtain ⟨h1, h2⟩ := h
  refine ⟨?_, fun hn => ?_⟩
  · rw [← pair2_drop, List.length_drop, h1, Nat.sub_mul]
  · obtain ⟨b', off', he, hb, hc⟩ := h2 (by omega)
    injection he with he
    injection he with e1 e2
    subst e1; subst e2
    refine ⟨b, off + k * 2, rfl, hb, fun j u hu => ?_⟩
    rw [← pair2_drop, List.getElem?_drop] at hu
    have := hc (k * 2 + j) u hu
    rw [Nat.add_assoc]; exact this
/-- How things stand. -/
structure GrowS (n : Nat) (E : List (Nat × Nat)) (Ar : Option Addr) (cr l bN bY bE bG base : Nat) (A : Option Addr) (c : Nat) (t : List Nat) (C : Nat → Prop) (W : World) : Prop where
  w : GrowW W n E Ar cr l bN bY bE bG base
  own : OwnI W base A c (nI t)
  cl : ∀ k, C k → k < W.heap.size ∧ ¬ Fix5 bN bY bE bG Ar k ∧ ¬ blockOf A k
  fx : ∀ k, blockOf A k → ¬ Fix5 bN bY bE bG Ar k
  fl : ∀ k, Fix5 bN bY bE bG Ar k → k < W.heap.size
section
variable {n : Nat} {E : List (Nat × Nat)} {Ar : Option Addr} {cr l bN bY bE bG base : Nat} {A A6 : Option Addr} {c c6 : Nat} {t : List Nat} {C C0 C2 D : Nat → Prop} {W W' W1 w5 w6 w7 : World} {k : Nat} {o : Obj}
theorem GrowS.only (h : GrowS n E Ar cr l bN bY bE bG base A c t C W) (ho : Only D W W') (h1 : ∀ k, Fix5 bN bY bE bG Ar k → ¬ D k) (h2 : ∀ k, blockOf A k → ¬ D k) : GrowS n E Ar cr l bN bY bE bG base A c t C W' :=
  ⟨h.w.only ho h1, h.own.only ho h2, fun k hk => ⟨Nat.lt_of_lt_of_le (h.cl k hk).1 ho.size, (h.cl k hk).2⟩, h.fx, fun k hk => Nat.lt_of_lt_of_le (h.fl k hk) ho.size⟩
theorem GrowS.lt (h : GrowS n E Ar cr l bN bY bE bG base A c t C W) {i : Nat} (hi : blockOf A i) : base ≤ i ∧ i < W.heap.size := World.ownsRow.lt h.own i (blockOf_own.2 hi)
/-- Where the longer list may lie. -/
def Fork (A A6 : Option Addr) (c c6 : Nat) (w w6 : World) : Prop := (A6 = A ∧ c6 = c) ∨ ((∀ i, blockOf A6 i → i = w.heap.size) ∧ Below w.heap.size w w6)
theorem fork_only (_h : GrowS n E Ar cr l bN bY bE bG base A c t C w5) (g6 : (w5.alloc o).grownBy w6 (Value.slice A t.length c).ownBlock) : Only (fun i => blockOf A i) w5 w6 :=
  ((Only.refl _ w5).alloc o).grown g6 fun _ hi => .inl (blockOf_own.1 hi)
theorem fork_block (h : GrowS n E Ar cr l bN bY bE bG base A c t C w5) (fk : Fork A A6 c c6 (w5.alloc o) w6) {i : Nat} (hi : blockOf A6 i) : blockOf A i ∨ w5.heap.size ≤ i := by
  rcases fk with ⟨rfl, rfl⟩ | ⟨h1, _⟩
  · exact .inl hi
  · right; have := h1 i hi; simp at this; omega
theorem GrowS.pushed (h : GrowS n E Ar cr l bN bY bE bG base A c t C w5) (own6 : OwnI w6 base A6 c6 (nI t ++ [(k : Int)])) (g6 : (w5.alloc o).grownBy w6 (Value.slice A t.length c).ownBlock) (fk : Fork A A6 c c6 (w5.alloc o) w6) :
    GrowS n E Ar cr l bN bY bE bG base A6 c6 (t ++ [k]) C w6 := by
  have ho := fork_only h g6
  refine ⟨h.w.only ho fun i hi hd => h.fx i hd hi, by rw [show nI (t ++ [k]) = nI t ++ [(k : Int)] from by simp [nI]]; exact own6, fun i hi => ⟨Nat.lt_of_lt_of_le (h.cl i hi).1 ho.size, (h.cl i hi).2.1, fun hb => ?_⟩, fun i hi hf => ?_, fun i hi => Nat.lt_of_lt_of_le (h.fl i hi) ho.size⟩
  · rcases fork_block h fk hb with hb | hb
    · exact (h.cl i hi).2.2 hb
    · have := (h.cl i hi).1; omega
  · rcases fork_block h fk hi with hb | hb
    · exact h.fx i hb hf
    · have := h.fl i hf; omega
theorem fork_all (h : GrowS n E Ar cr l bN bY bE bG base A c t C w5) (g6 : (w5.alloc o).grownBy w6 (Value.slice A t.length c).ownBlock) (fk : Fork A A6 c c6 (w5.alloc o) w6)
    (o7 : Only (fun i => C i ∨ blockOf A6 i) w6 w7) : Only (fun i => C i ∨ blockOf A i) w5 w7 := by
  refine ((fork_only h g6).mono fun _ _ h => .inr h).tail o7 fun i hi hd => ?_
  rcases hd with hd | hd
  · exact .inl hd
  · rcases fork_block h fk hd with hb | hb
    · exact .inr hb
    · omega
theorem GrowS.back (h : GrowS n E Ar cr l bN bY bE bG base A c t C w5) (own6 : OwnI w6 base A6 c6 (nI t ++ [(k : Int)])) (g6 : (w5.alloc o).grownBy w6 (Value.slice A t.length c).ownBlock) (fk : Fork A A6 c c6 (w5.alloc o) w6)
    (o7 : Only (fun i => C i ∨ blockOf A6 i) w6 w7) (g7 : Grows C (fun _ => False) C2 w6 w7) (own7 : OwnI w7 base A6 c6 (nI (t ++ [k]))) : GrowS n E Ar cr l bN bY bE bG base A c t C2 w7 := by
  have ho := fork_only h g6
  have ha := fork_all h g6 fk o7
  refine ⟨h.w.only ha fun i hi hd => ?_, ?_, fun i hi => ?_, h.fx, fun i hi => Nat.lt_of_lt_of_le (h.fl i hi) ha.size⟩
  · rcases hd with hd | hd
    · exact (h.cl i hd).2.1 hi
    · exact h.fx i hd hi
  · rcases fk with ⟨rfl, rfl⟩ | ⟨h1, h2⟩
    · have hn : nI (t ++ [k]) = nI t ++ [(k : Int)] := by simp [nI]
      rcases own7.2 with ⟨hv, h0⟩ | ⟨g, cap, cur, hv, _⟩
      · rw [hn, List.length_append] at h0; simp at h0
      · injection hv with e1 _ _
        subst e1
        have := own7.cut (nI t).length (by rw [hn]; simp)
        rw [hn, List.take_left] at this
        exact this
    · have h5 : OwnI w6 base A c (nI t) := by
        refine own_kept (h.own.alloc o) fun i hi => h2.block i ?_
        have := (World.ownsRow.lt h.own i (blockOf_own.2 hi)).2
        simp; omega
      refine h5.only o7 fun i hi hd => ?_
      rcases hd with hd | hd
      · exact (h.cl i hd).2.2 hi
      · have e := h1 i hd
        have := (World.ownsRow.lt h.own i (blockOf_own.2 hi)).2
        simp at e; omega
  · rcases g7 i hi with hc | hc | hc
    · exact ⟨Nat.lt_of_lt_of_le (h.cl i hc).1 ha.size, (h.cl i hc).2⟩
    · exact hc.elim
    · have hs := ho.size
      refine ⟨hc.2, fun hf => ?_, fun hb => ?_⟩
      · have := h.fl i hf; omega
      · have := (World.ownsRow.lt h.own i (blockOf_own.2 hb)).2; omega
theorem grow_trans (h1 : Only (fun i => C0 i ∨ blockOf A i) W1 w5) (g1 : Grows C0 (fun _ => False) C W1 w5) (h2 : Only (fun i => C i ∨ blockOf A i) w5 w7) (g2 : Grows C (fun _ => False) C2 w5 w7) :
    Only (fun i => C0 i ∨ blockOf A i) W1 w7 ∧ Grows C0 (fun _ => False) C2 W1 w7 :=
  ⟨h1.tail h2 fun i hi hd => by
    rcases hd with hd | hd
    · rcases g1 i hd with hc | hc | hc
      · exact .inl hc
      · exact hc.elim
      · omega
    · exact .inr hd, g1.tail g2 h1.size h2.size fun _ h => h.elim⟩
theorem grow_from (ho1 : Only (fun _ => False) W W1) (h1 : Only (fun i => C0 i ∨ blockOf A i) W1 w5) (g1 : Grows C0 (fun _ => False) C W1 w5) : Only (fun i => C0 i ∨ blockOf A i) W w5 ∧ Grows C0 (fun _ => False) C W w5 :=
  ⟨(ho1.mono fun _ _ h => h.elim).trans h1, (Grows.refl C0 (fun _ => False) W W1).tail g1 ho1.size h1.size fun _ h => h.elim⟩
end
/-- What a call for the list t does. -/
def GrowC (n : Nat) (E : List (Nat × Nat)) (Ar : Option Addr) (cr l bN bY bE bG base : Nat) (xs : List (List Nat)) (J Jx : List (List Nat) → (Nat → Prop) → World → Prop) (t : List Nat) (e : Nat) : Prop :=
  ∀ (a0 a1 a2 a3 a4 a5 a6 a7 a8 a9 a10 a11 : Nat) (A : Option Addr) (c : Nat) (C : Nat → Prop) (pre : List (List Nat)) (W : World),
    FR (pk E t) [a0, a1, a2, a3, a4, a5, a6, a7, a8, a9, a10, a11] → GrowS n E Ar cr l bN bY bE bG base A c t C W → pre ++ growL n E t e <+: xs → J pre C W →
    Calls Tryz.prog 160 #[.slice A t.length c, .int .i64 e, .agg #[.int .i64 a0, .int .i64 a1, .int .i64 a2, .int .i64 a3, .int .i64 a4, .int .i64 a5, .int .i64 a6, .int .i64 a7, .int .i64 a8, .int .i64 a9, .int .i64 a10, .int .i64 a11], .pointer (some ⟨bN, 0, none⟩), .pointer (some ⟨bY, 0, none⟩), .pointer (some ⟨bE, 0, none⟩), .pointer (some ⟨bG, 0, none⟩)] W
      fun en W' => GrowR (growL n E t e) xs pre J Jx base C A c t W en W'

set_option maxRecDepth 100000 in
set_option maxHeartbeats 16000000 in
theorem grow_step (n : Nat) (hn1 : 1 ≤ n) (hn : n ≤ 12) (E : List (Nat × Nat)) (hE : BdP n E) (hel : E.length ≤ 1000000) (Ar : Option Addr) (cr l bN bY bE bG base : Nat) (xs : List (List Nat)) (J Jx : List (List Nat) → (Nat → Prop) → World → Prop)
    (hJ : Bears base (fun _ => False) J)
    (t : List Nat) (ht : t.length + 2 ≤ n) (htE : ∀ y ∈ t, y < E.length) (e : Nat) (he : e ≤ E.length)
    (ih : ∀ k, e ≤ k → k < E.length → GrowC n E Ar cr l bN bY bE bG base xs J Jx (t ++ [k]) (k + 1)) :
    GrowC n E Ar cr l bN bY bE bG base xs J Jx t e := by
  intro a0 a1 a2 a3 a4 a5 a6 a7 a8 a9 a10 a11 A c C pre W hF hS hp h0
  have eg := enters_of (P := Tryz.prog) Tryz.func160 (by kernel_rfl) rfl
  have hg : growL n E t e = treesG n E (E.length - e) t e := if_neg (by omega)
  have HG := Lib.hid hg
  obtain ⟨L0, hL0⟩ : ∃ L0, growL n E t e = L0 := ⟨_, rfl⟩
  rw [hL0] at hp HG ⊢
  have hps : BdP n (pk E t) := bd_pk hE htE
  have CC := Lib.hid (fun k Ax cx W' h => connects12 n hn1 hn a0 a1 a2 a3 a4 a5 a6 a7 a8 a9 a10 a11 (pk E t) hF hps (E.drop k) (fun p hp => hE p (List.drop_subset _ _ hp)) (by rw [List.length_drop]; omega) Ax cx W' h)
  obtain ⟨W1, hW1⟩ : ∃ W1, W.alloc (.cells #[.int .i64 a0, .int .i64 a1, .int .i64 a2, .int .i64 a3, .int .i64 a4, .int .i64 a5, .int .i64 a6, .int .i64 a7, .int .i64 a8, .int .i64 a9, .int .i64 a10, .int .i64 a11] 174) = W1 := ⟨_, rfl⟩
  have ho1 : Only (fun _ => False) W W1 := by rw [← hW1]; exact (Only.refl _ W).alloc _
  have F1 : Blk W1 W.heap.size 174 (fcells [a0, a1, a2, a3, a4, a5, a6, a7, a8, a9, a10, a11]) := by rw [← hW1]; exact Blk.new _ _ _
  have hs1 : W1.heap.size = W.heap.size + 1 := by rw [← hW1]; simp
  have hG1 := hS.w.only ho1 (fun _ _ h => h)
  have hA1 : OwnI W1 base A c (nI t) := by rw [← hW1]; exact hS.own.alloc _
  have hS1 : Hid (GrowS n E Ar cr l bN bY bE bG base A c t C W1) := ⟨hG1, hA1, fun k hk => ⟨by have := (hS.cl k hk).1; omega, (hS.cl k hk).2⟩, hS.fx, fun k hk => by have := hS.fl k hk; omega⟩
  have J1 := Lib.hid (hJ _ _ _ _ h0 (Stays.of_only ho1 (fun _ _ h => h.elim)))
  have k1 := hG1.h1.cell 0
  have hwn : IntKind.i64.wrap ((n : Int) - 1) = (n : Int) - 1 := IntWalk.i64_in _ (by omega)
  have hq : ((t.length : Int) == (n : Int) - 1) = false := by simp; omega
  have HP := Lib.hid hp
  have HJ := Lib.hid hJ
  have HO1 := Lib.hid ho1
  have HS := Lib.hid hS
  have HTE := Lib.hid htE
  have HE := Lib.hid hE
  have HIH := Lib.hid ih
  have HFR := Lib.hid hF
  have hlo := hS.w.lo
  have hcap := hS.w.cap
  have HPS := Lib.hid hps
  have HF1 := Lib.hid F1
  clear hp hJ h0 ho1 hA1 hG1 hS hg hL0 hps htE hE ih hF F1
  go_enter Tryz.func160, Tryz.ntmps160
  go_wp2_with fail
  clear k1 hW1
  go_loopw [11, 12] (fun i _ wr => ∃ (k : Nat) (C' : Nat → Prop) (pre' : List (List Nat)), e ≤ k ∧ k ≤ E.length ∧ i = .int .i64 k ∧ Hid (GrowS n E Ar cr l bN bY bE bG base A c t C' wr) ∧ Hid (J pre' C' wr) ∧ Hid (pre ++ L0 = pre' ++ treesG n E (E.length - k) t k) ∧ Hid (Only (fun k => C k ∨ blockOf A k) W1 wr) ∧ Hid (Grows C (fun _ => False) C' W1 wr)) (fun i _ _ => E.length - (intOf i).toNat)
  case atStart => exact ⟨e, C, pre, by omega, by omega, rfl, hS1, J1, by rw [Hid, HG.out], Only.refl _ _, Grows.refl _ _ _ _⟩
  case round =>
    obtain ⟨k, C', pre', hek, hk, rfl, GS, JW, HL, HO, HGr⟩ := hrel
    have hwz := HO.out.size
    have hbA : Hid (∀ i, blockOf A i → i < W.heap.size) := fun i hi => (World.ownsRow.lt HS.out.own i (blockOf_own.2 hi)).2
    have HFw : Hid (Blk wr W.heap.size 174 (fcells [a0, a1, a2, a3, a4, a5, a6, a7, a8, a9, a10, a11])) := HF1.out.only HO.out fun hc => by
      rcases hc with hc | hc
      · have := (HS.out.cl _ hc).1; omega
      · have := hbA.out _ hc; omega
    have f0 : wr.cell? ⟨W.heap.size, 0, none⟩ = some (.int .i64 a0) := HFw.out.cell 0
    have f1 : wr.cell? ⟨W.heap.size, 1, none⟩ = some (.int .i64 a1) := HFw.out.cell 1
    have f2 : wr.cell? ⟨W.heap.size, 2, none⟩ = some (.int .i64 a2) := HFw.out.cell 2
    have f3 : wr.cell? ⟨W.heap.size, 3, none⟩ = some (.int .i64 a3) := HFw.out.cell 3
    have f4 : wr.cell? ⟨W.heap.size, 4, none⟩ = some (.int .i64 a4) := HFw.out.cell 4
    have f5 : wr.cell? ⟨W.heap.size, 5, none⟩ = some (.int .i64 a5) := HFw.out.cell 5
    have f6 : wr.cell? ⟨W.heap.size, 6, none⟩ = some (.int .i64 a6) := HFw.out.cell 6
    have f7 : wr.cell? ⟨W.heap.size, 7, none⟩ = some (.int .i64 a7) := HFw.out.cell 7
    have f8 : wr.cell? ⟨W.heap.size, 8, none⟩ = some (.int .i64 a8) := HFw.out.cell 8
    have f9 : wr.cell? ⟨W.heap.size, 9, none⟩ = some (.int .i64 a9) := HFw.out.cell 9
    have f10 : wr.cell? ⟨W.heap.size, 10, none⟩ = some (.int .i64 a10) := HFw.out.cell 10
    have f11 : wr.cell? ⟨W.heap.size, 11, none⟩ = some (.int .i64 a11) := HFw.out.cell 11
    have n0 := GS.out.w.h1.cell 0
    by_cases hlt : k < E.length
    · obtain ⟨bA, oA, hA, hbA2, q0, q1⟩ := GS.out.w.rd.pairAt (getD_some hlt)
      subst hA
      have e0 := GS.out.w.h3.cell 0
      have hi : (k : Int) < (E.length : Int) := by omega
      have hi0 : (0 : Int) ≤ (k : Int) := by omega
      have hi1 : (k : Int) ≤ (E.length : Int) := by omega
      have hi2 : (E.length : Int) ≤ (cr : Int) := by omega
      have hck : ¬ cr = k := by omega
      have HT : Hid (treesG n E (E.length - k) t k = if partsP n (pk E t ++ E.drop k) = 1 then (if Cn (pk E t) (E.getD k (0, 0)).1 (E.getD k (0, 0)).2 then [] else growL n E (t ++ [k]) (k + 1)) ++ treesG n E (E.length - (k + 1)) t (k + 1) else []) := by
        unfold Hid growL
        rw [show E.length - k = E.length - (k + 1) + 1 from by omega, List.length_append]
        rfl
      have C4 := Lib.hid (CC.out k (some ⟨bA, oA + k * 2, none⟩) (cr - k) wr.drew (by rw [List.length_drop]; exact ((GS.out.w.rd.more GS.out.w.lo).dropQ k hlt).drew))
      rw [List.length_drop] at C4
      have hwk : IntKind.i64.wrap ((k : Int) + 1) = (k : Int) + 1 := IntWalk.i64_in _ (by omega)
      go_wp2_with fail
      refine region_tail 10 (by kernel_rfl) (by kernel_rfl) ?_
      simp only [List.take_succ_cons, List.take_zero, List.drop_succ_cons, List.drop_zero]
      repeat still_step
      refine wpStill_nil ?_
      by_cases hc : partsP n (pk E t ++ E.drop k) = 1
      · rw [decide_eq_true hc] at C4
        have HT := Lib.hid (HT.out.trans (if_pos hc))
        clear hc f0 f1 f2 f3 f4 f5 f6 f7 f8 f9 f10 f11
        go_wp2_with fail
        refine (C4.out).mono ?_
        rintro en w2 ⟨rfl, hb2⟩
        have o2 : Only (fun _ => False) wr w2 := ((Only.refl _ wr).drew).trans (Only.of_new hb2)
        have HF2 : Hid (Blk w2 W.heap.size 174 (fcells [a0, a1, a2, a3, a4, a5, a6, a7, a8, a9, a10, a11])) := HFw.out.only o2 id
        have r0 : w2.cell? ⟨W.heap.size, 0, none⟩ = some (.int .i64 a0) := HF2.out.cell 0
        have r1 : w2.cell? ⟨W.heap.size, 1, none⟩ = some (.int .i64 a1) := HF2.out.cell 1
        have r2 : w2.cell? ⟨W.heap.size, 2, none⟩ = some (.int .i64 a2) := HF2.out.cell 2
        have r3 : w2.cell? ⟨W.heap.size, 3, none⟩ = some (.int .i64 a3) := HF2.out.cell 3
        have r4 : w2.cell? ⟨W.heap.size, 4, none⟩ = some (.int .i64 a4) := HF2.out.cell 4
        have r5 : w2.cell? ⟨W.heap.size, 5, none⟩ = some (.int .i64 a5) := HF2.out.cell 5
        have r6 : w2.cell? ⟨W.heap.size, 6, none⟩ = some (.int .i64 a6) := HF2.out.cell 6
        have r7 : w2.cell? ⟨W.heap.size, 7, none⟩ = some (.int .i64 a7) := HF2.out.cell 7
        have r8 : w2.cell? ⟨W.heap.size, 8, none⟩ = some (.int .i64 a8) := HF2.out.cell 8
        have r9 : w2.cell? ⟨W.heap.size, 9, none⟩ = some (.int .i64 a9) := HF2.out.cell 9
        have r10 : w2.cell? ⟨W.heap.size, 10, none⟩ = some (.int .i64 a10) := HF2.out.cell 10
        have r11 : w2.cell? ⟨W.heap.size, 11, none⟩ = some (.int .i64 a11) := HF2.out.cell 11
        obtain ⟨W3, hW3⟩ : ∃ W3, w2.alloc (.cells #[.int .i64 a0, .int .i64 a1, .int .i64 a2, .int .i64 a3, .int .i64 a4, .int .i64 a5, .int .i64 a6, .int .i64 a7, .int .i64 a8, .int .i64 a9, .int .i64 a10, .int .i64 a11] 174) = W3 := ⟨_, rfl⟩
        have o3 : Only (fun _ => False) wr W3 := by rw [← hW3]; exact o2.alloc _
        have HB3 : Hid (Blk W3.drew w2.heap.size 174 (fcells [a0, a1, a2, a3, a4, a5, a6, a7, a8, a9, a10, a11])) := by unfold Hid; rw [← hW3]; exact Blk.new _ _ _
        have hs3 : W3.heap.size = w2.heap.size + 1 := by rw [← hW3]; simp
        have h23 := o2.size
        have GS3 : Hid (GrowS n E (some ⟨bA, oA, none⟩) cr l bN bY bE bG base A c t C' W3) := GS.out.only o3 (fun _ _ h => h) (fun _ _ h => h)
        have J3 := Lib.hid (HJ.out _ _ _ _ JW.out (Stays.of_only o3 (fun _ _ h => h.elim)))
        have o3a := (o3.mono (D := fun i => C' i ∨ blockOf A i) fun _ _ h => h.elim)
        have e3 := GS3.out.w.h3.cell 0
        have ⟨bA', oA', hA', _, q0, q1⟩ := GS3.out.w.rd.pairAt (getD_some hlt)
        injection hA' with hA'
        injection hA' with e1 e2
        subst e1
        subst e2
        obtain ⟨⟨a, b⟩, hab⟩ : ∃ p, E.getD k (0, 0) = p := ⟨_, rfl⟩
        have hbd := getD_bd HE.out hlt
        rw [hab] at HT q0 q1 hbd
        dsimp only at HT q0 q1 hbd
        have JC := Lib.hid (tjoin_any w2.heap.size (pk E t) [a0, a1, a2, a3, a4, a5, a6, a7, a8, a9, a10, a11] HFR.out a b (by omega) (by omega) W3.drew HB3.out)
        -- behind the join
        have K1 : Hid (∀ w5, Only (fun i => i = w2.heap.size) W3.drew w5 → GrowS n E (some ⟨bA, oA, none⟩) cr l bN bY bE bG base A c t C' w5 ∧ J pre' C' w5 ∧ Only (fun i => C i ∨ blockOf A i) W1 w5 ∧ Grows C (fun _ => False) C' W1 w5) := by
          intro w5 ho
          have hwl := GS.out.cl
          have o5 : Only (fun i => i = w2.heap.size) W3 w5 := ((Only.refl _ W3).drew).trans ho
          have nf : ∀ i, i < wr.heap.size → ¬ i = w2.heap.size := fun i hi => by omega
          have o5w : Only (fun _ => False) wr w5 := o3.tail o5 fun i hi hd => nf i hi hd
          have ⟨m1, m2⟩ := grow_trans HO.out HGr.out (o5w.mono (D := fun i => C' i ∨ blockOf A i) fun _ _ h => h.elim) (Grows.refl C' _ _ _)
          exact ⟨GS.out.only o5w (fun _ _ h => h) (fun _ _ h => h), HJ.out _ _ _ _ JW.out (Stays.of_only o5w (fun _ _ h => h.elim)), m1, m2⟩
        have HW3 := Lib.hid hW3
        have HAB := Lib.hid hab
        have HCJ := Lib.hid (Decidable.em (Cn (pk E t) a b))
        clear hW3 hab
        by_cases hcn : Cn (pk E t) a b
        · rw [decide_eq_true hcn] at JC
          have HT := Lib.hid (HT.out.trans (by rw [if_pos hcn, List.nil_append]))
          clear hcn HCJ
          go_wp2_with fail
          try rw [HW3.out]
          refine wp_region_any (by kernel_rfl) ?_
          try (change wpAny _ _ _ _ _ _ _ (World.drew _))
          refine any_take (i := 1) (.int .i64 (k : Int)) rfl (by kernel_rfl) (by kernel_rfl) (by kernel_rfl) (fun _ _ _ h => h) (by kernel_rfl) ?_ ?_
          · intro w; go_simp
          refine any_step (i := 0) rfl (by kernel_rfl) (by kernel_rfl) ?_
          intro K hK
          go_simp
          refine hK _ _ ?_
          clear hK K
          refine any_take (i := 2) (.pointer (some ⟨bA, oA + k * 2, none⟩)) rfl (by kernel_rfl) (by kernel_rfl) (by kernel_rfl) (fun _ _ _ h => h) (by kernel_rfl) ?_ ?_
          · intro w; go_simp
          refine any_step (i := 3) rfl (by kernel_rfl) (by kernel_rfl) ?_
          intro K hK
          go_simp
          refine hK _ _ ?_
          clear hK K
          refine any_step (i := 4) rfl (by kernel_rfl) (by kernel_rfl) ?_
          intro K hK
          go_simp
          go_at_call 131
          (with_reducible refine (JC.out).mono ?_)
          rintro en w5 ⟨rfl, f', HF', HB', ho⟩
          try go_simp
          refine hK _ _ ?_
          clear hK K
          refine any_take (i := 5) (.bool false) rfl (by kernel_rfl) (by kernel_rfl) (by kernel_rfl) (fun _ _ _ h => h) (by kernel_rfl) ?_ ?_
          · intro w; go_simp
          refine any_skip (i := 6) rfl (by kernel_rfl) (by kernel_rfl) (by kernel_rfl) (fun _ _ _ h => h) (by kernel_rfl) ?_
          refine any_skip (i := 7) rfl (by kernel_rfl) (by kernel_rfl) (by kernel_rfl) (fun _ _ _ h => h) (by kernel_rfl) ?_
          refine any_skip (i := 8) rfl (by kernel_rfl) (by kernel_rfl) (by kernel_rfl) (fun _ _ _ h => h) (by kernel_rfl) ?_
          refine any_skip (i := 9) rfl (by kernel_rfl) (by kernel_rfl) (by kernel_rfl) (fun _ _ _ h => h) (by kernel_rfl) ?_
          refine any_skip (i := 10) rfl (by kernel_rfl) (by kernel_rfl) (by kernel_rfl) (fun _ _ _ h => h) (by kernel_rfl) ?_
          refine any_skip (i := 11) rfl (by kernel_rfl) (by kernel_rfl) (by kernel_rfl) (fun _ _ _ h => h) (by kernel_rfl) ?_
          refine any_skip (i := 12) rfl (by kernel_rfl) (by kernel_rfl) (by kernel_rfl) (fun _ _ _ h => h) (by kernel_rfl) ?_
          refine any_skip (i := 13) rfl (by kernel_rfl) (by kernel_rfl) (by kernel_rfl) (fun _ _ _ h => h) (by kernel_rfl) ?_
          refine any_skip (i := 14) rfl (by kernel_rfl) (by kernel_rfl) (by kernel_rfl) (fun _ _ _ h => h) (by kernel_rfl) ?_
          refine any_skip (i := 15) rfl (by kernel_rfl) (by kernel_rfl) (by kernel_rfl) (fun _ _ _ h => h) (by kernel_rfl) ?_
          refine any_take (i := 16) (.bool false) rfl (by kernel_rfl) (by kernel_rfl) (by kernel_rfl) (fun _ _ _ h => h) (by kernel_rfl) ?_ ?_
          · intro w; go_simp
          refine wpAny_done (by kernel_rfl) ?_ _
          go_simp
          all_goals (
            obtain ⟨m1, m2, m3, m4⟩ := K1.out w5 ho
            go_wp2
            go_roundw
            case rel => exact ⟨k + 1, C', pre', by omega, by omega, by go_num, m1, m2, by rw [Hid, ← HT.out]; exact HL.out, m3, m4⟩
            case measure => simp [intOf]; omega)
        · rw [decide_eq_false hcn] at JC
          have HT := Lib.hid (HT.out.trans (by rw [if_neg hcn]))
          clear hcn HCJ
          have HTL := Lib.hid (show (nI t).length = t.length from nI_length t)
          have htl1 : t.length ≤ 1048000 := by omega
          have hnb : Hid (∀ i, blockOf A i → i ≠ w2.heap.size) := fun i hi => by have := (GS.out.lt hi).2; omega
          have IH : Hid (∀ (b0 b1 b2 b3 b4 b5 b6 b7 b8 b9 b10 b11 : Nat) (A6 : Option Addr) (c6 : Nat) (w5 w6 : World) (o : Obj), FR (pk E t ++ [(a, b)]) [b0, b1, b2, b3, b4, b5, b6, b7, b8, b9, b10, b11] → Only (fun i => i = w2.heap.size) W3.drew w5 → OwnI w6 base A6 c6 (nI t ++ [(k : Int)]) → (w5.alloc o).grownBy w6 (Value.slice A t.length c).ownBlock → Fork A A6 c c6 (w5.alloc o) w6 →
              Calls Tryz.prog 160 #[.slice A6 (t.length + 1) c6, .int .i64 ((k : Int) + 1), .agg #[.int .i64 b0, .int .i64 b1, .int .i64 b2, .int .i64 b3, .int .i64 b4, .int .i64 b5, .int .i64 b6, .int .i64 b7, .int .i64 b8, .int .i64 b9, .int .i64 b10, .int .i64 b11], .pointer (some ⟨bN, 0, none⟩), .pointer (some ⟨bY, 0, none⟩), .pointer (some ⟨bE, 0, none⟩), .pointer (some ⟨bG, 0, none⟩)] w6
                fun en w7 => ∃ C2 bb, en = .returned (.bool bb) ∧ (bb = true → GrowS n E (some ⟨bA, oA, none⟩) cr l bN bY bE bG base A c t C2 w7 ∧ J (pre' ++ growL n E (t ++ [k]) (k + 1)) C2 w7) ∧ Only (fun i => C i ∨ blockOf A i) W1 w7 ∧ Grows C (fun _ => False) C2 W1 w7 ∧ (bb = false → ∃ pre', pre' <+: xs ∧ Jx pre' C2 w7)) := by
            intro b0 b1 b2 b3 b4 b5 b6 b7 b8 b9 b10 b11 A6 c6 w5 w6 o hfr ho own6 g6 fk
            obtain ⟨m1, m2, m3, m4⟩ := K1.out w5 ho
            have hpr : pre' ++ growL n E (t ++ [k]) (k + 1) <+: xs := by
              refine List.IsPrefix.trans ?_ HP.out
              rw [HL.out, HT.out, ← List.append_assoc]
              exact List.prefix_append _ _
            have hfr2 : FR (pk E (t ++ [k])) [b0, b1, b2, b3, b4, b5, b6, b7, b8, b9, b10, b11] := by
              have : pk E (t ++ [k]) = pk E t ++ [(a, b)] := by unfold pk; rw [List.map_append, List.map_singleton, HAB.out]
              rw [this]; exact hfr
            have hfo := fork_only m1 g6
            have := HIH.out k hek hlt b0 b1 b2 b3 b4 b5 b6 b7 b8 b9 b10 b11 A6 c6 C' pre' w6 hfr2 (m1.pushed own6 g6 fk) hpr (HJ.out _ _ _ _ m2 (Stays.of_only hfo (fun i _ hi => ⟨fun hc => (m1.cl i hc).2.2 hi, .inl (m1.lt hi).1⟩)))
            rw [show (t ++ [k]).length = t.length + 1 from by simp, show ((k + 1 : Nat) : Int) = (k : Int) + 1 from by simp] at this
            refine this.mono ?_
            rintro en w7 ⟨C2, bb, rfl, o7, g7, h1, h2⟩
            have ⟨q1, q2⟩ := grow_trans m3 m4 (fork_all m1 g6 fk o7) ((Grows.refl C' (fun _ => False) w5 w6).tail g7 hfo.size o7.size fun _ h => h.elim)
            exact ⟨C2, bb, rfl, fun hb => ⟨m1.back own6 g6 fk o7 g7 (h1 hb).2, (h1 hb).1⟩, q1, q2, h2⟩
          go_wp2_with fail
          try rw [HW3.out]
          go_cut [54] from 23 to 54 (fun v wx => ∃ (C2 : Nat → Prop) (bb : Bool), v = .bool (!bb) ∧ Hid (bb = true → GrowS n E (some ⟨bA, oA, none⟩) cr l bN bY bE bG base A c t C2 wx ∧ J (pre' ++ growL n E (t ++ [k]) (k + 1)) C2 wx) ∧ Hid (Only (fun i => C i ∨ blockOf A i) W1 wx) ∧ Hid (Grows C (fun _ => False) C2 W1 wx) ∧ Hid (bb = false → ∃ pre', pre' <+: xs ∧ Jx pre' C2 wx))
          case first =>
            first
              | go_region_law (first
                | (go_simp; go_at_call 131; (with_reducible refine (JC.out).mono ?_); rintro en w5 ⟨rfl, f', HF', HB', ho⟩
                   obtain ⟨b0, b1, b2, b3, b4, b5, b6, b7, b8, b9, b10, b11, rfl⟩ := list12 (show f'.length = 12 from by obtain ⟨r, hh, hr⟩ := HF'.out; exact hr.len)
                   have HB5 : Hid (Blk w5 w2.heap.size 174 (fcells [b0, b1, b2, b3, b4, b5, b6, b7, b8, b9, b10, b11])) := HB'
                   have g0 : w5.cell? ⟨w2.heap.size, 0, none⟩ = some (.int .i64 b0) := HB5.out.cell 0
                   have g1 : w5.cell? ⟨w2.heap.size, 1, none⟩ = some (.int .i64 b1) := HB5.out.cell 1
                   have g2 : w5.cell? ⟨w2.heap.size, 2, none⟩ = some (.int .i64 b2) := HB5.out.cell 2
                   have g3 : w5.cell? ⟨w2.heap.size, 3, none⟩ = some (.int .i64 b3) := HB5.out.cell 3
                   have g4 : w5.cell? ⟨w2.heap.size, 4, none⟩ = some (.int .i64 b4) := HB5.out.cell 4
                   have g5 : w5.cell? ⟨w2.heap.size, 5, none⟩ = some (.int .i64 b5) := HB5.out.cell 5
                   have g6 : w5.cell? ⟨w2.heap.size, 6, none⟩ = some (.int .i64 b6) := HB5.out.cell 6
                   have g7 : w5.cell? ⟨w2.heap.size, 7, none⟩ = some (.int .i64 b7) := HB5.out.cell 7
                   have g8 : w5.cell? ⟨w2.heap.size, 8, none⟩ = some (.int .i64 b8) := HB5.out.cell 8
                   have g9 : w5.cell? ⟨w2.heap.size, 9, none⟩ = some (.int .i64 b9) := HB5.out.cell 9
                   have g10 : w5.cell? ⟨w2.heap.size, 10, none⟩ = some (.int .i64 b10) := HB5.out.cell 10
                   have g11 : w5.cell? ⟨w2.heap.size, 11, none⟩ = some (.int .i64 b11) := HB5.out.cell 11
                   have s0 : ∀ o, (w5.alloc o).cell? ⟨w2.heap.size, 0, none⟩ = some (.int .i64 b0) := fun o => (World.cell?_alloc_lt w5 o _ HB5.out.lt).trans g0
                   have s1 : ∀ o, (w5.alloc o).cell? ⟨w2.heap.size, 1, none⟩ = some (.int .i64 b1) := fun o => (World.cell?_alloc_lt w5 o _ HB5.out.lt).trans g1
                   have s2 : ∀ o, (w5.alloc o).cell? ⟨w2.heap.size, 2, none⟩ = some (.int .i64 b2) := fun o => (World.cell?_alloc_lt w5 o _ HB5.out.lt).trans g2
                   have s3 : ∀ o, (w5.alloc o).cell? ⟨w2.heap.size, 3, none⟩ = some (.int .i64 b3) := fun o => (World.cell?_alloc_lt w5 o _ HB5.out.lt).trans g3
                   have s4 : ∀ o, (w5.alloc o).cell? ⟨w2.heap.size, 4, none⟩ = some (.int .i64 b4) := fun o => (World.cell?_alloc_lt w5 o _ HB5.out.lt).trans g4
                   have s5 : ∀ o, (w5.alloc o).cell? ⟨w2.heap.size, 5, none⟩ = some (.int .i64 b5) := fun o => (World.cell?_alloc_lt w5 o _ HB5.out.lt).trans g5
                   have s6 : ∀ o, (w5.alloc o).cell? ⟨w2.heap.size, 6, none⟩ = some (.int .i64 b6) := fun o => (World.cell?_alloc_lt w5 o _ HB5.out.lt).trans g6
                   have s7 : ∀ o, (w5.alloc o).cell? ⟨w2.heap.size, 7, none⟩ = some (.int .i64 b7) := fun o => (World.cell?_alloc_lt w5 o _ HB5.out.lt).trans g7
                   have s8 : ∀ o, (w5.alloc o).cell? ⟨w2.heap.size, 8, none⟩ = some (.int .i64 b8) := fun o => (World.cell?_alloc_lt w5 o _ HB5.out.lt).trans g8
                   have s9 : ∀ o, (w5.alloc o).cell? ⟨w2.heap.size, 9, none⟩ = some (.int .i64 b9) := fun o => (World.cell?_alloc_lt w5 o _ HB5.out.lt).trans g9
                   have s10 : ∀ o, (w5.alloc o).cell? ⟨w2.heap.size, 10, none⟩ = some (.int .i64 b10) := fun o => (World.cell?_alloc_lt w5 o _ HB5.out.lt).trans g10
                   have s11 : ∀ o, (w5.alloc o).cell? ⟨w2.heap.size, 11, none⟩ = some (.int .i64 b11) := fun o => (World.cell?_alloc_lt w5 o _ HB5.out.lt).trans g11
                   have M1 := Lib.hid (K1.out w5 ho).1
                   have y0 : w5.cell? ⟨bG, 0, none⟩ = some (growF bN bY bE bG) := M1.out.w.h4.cell 0
                   have y1 : ∀ o, (w5.alloc o).cell? ⟨bG, 0, none⟩ = some (growF bN bY bE bG) := fun o => (World.cell?_alloc_lt w5 o _ M1.out.w.h4.lt).trans y0
                   have z5 : OwnI (w5.alloc (.cells #[.int .i64 (k : Int)] 3)) base A c (nI t) := M1.out.own.alloc _
                   have z6 : base ≤ (w5.alloc (.cells #[.int .i64 (k : Int)] 3)).heap.size := by have := M1.out.w.lo; simp; omega)
                | (refine push_fork_step (.tmp 45) (.tmp 47) _ (by kernel_rfl) rfl Tryz.underlying25 base A c t.length (nI t) HTL.out (k : Int) rfl z5 ⟨w5.heap.size, 0, none⟩ rfl ((Blk.new w5 3 #[.int .i64 (k : Int)]).cell 0) htl1 z6 ?_; intro A6 c6 w6 own6 gr6 hbw6 fk6
                   have FK : Fork A A6 c c6 (w5.alloc (.cells #[.int .i64 (k : Int)] 3)) w6 := fk6
                   have o56 := fork_only M1.out gr6
                   have HB6 : Hid (Blk w6 w2.heap.size 174 (fcells [b0, b1, b2, b3, b4, b5, b6, b7, b8, b9, b10, b11])) := HB5.out.only o56 fun hi => hnb.out _ hi rfl
                   have v0 : w6.cell? ⟨w2.heap.size, 0, none⟩ = some (.int .i64 b0) := HB6.out.cell 0
                   have v1 : w6.cell? ⟨w2.heap.size, 1, none⟩ = some (.int .i64 b1) := HB6.out.cell 1
                   have v2 : w6.cell? ⟨w2.heap.size, 2, none⟩ = some (.int .i64 b2) := HB6.out.cell 2
                   have v3 : w6.cell? ⟨w2.heap.size, 3, none⟩ = some (.int .i64 b3) := HB6.out.cell 3
                   have v4 : w6.cell? ⟨w2.heap.size, 4, none⟩ = some (.int .i64 b4) := HB6.out.cell 4
                   have v5 : w6.cell? ⟨w2.heap.size, 5, none⟩ = some (.int .i64 b5) := HB6.out.cell 5
                   have v6 : w6.cell? ⟨w2.heap.size, 6, none⟩ = some (.int .i64 b6) := HB6.out.cell 6
                   have v7 : w6.cell? ⟨w2.heap.size, 7, none⟩ = some (.int .i64 b7) := HB6.out.cell 7
                   have v8 : w6.cell? ⟨w2.heap.size, 8, none⟩ = some (.int .i64 b8) := HB6.out.cell 8
                   have v9 : w6.cell? ⟨w2.heap.size, 9, none⟩ = some (.int .i64 b9) := HB6.out.cell 9
                   have v10 : w6.cell? ⟨w2.heap.size, 10, none⟩ = some (.int .i64 b10) := HB6.out.cell 10
                   have v11 : w6.cell? ⟨w2.heap.size, 11, none⟩ = some (.int .i64 b11) := HB6.out.cell 11
                   have y6 : w6.cell? ⟨bG, 0, none⟩ = some (growF bN bY bE bG) := (M1.out.w.h4.only o56 fun hi => M1.out.fx _ hi (.inr (.inr (.inr (.inl rfl))))).cell 0)
                | (go_simp; go_at_call 160; (with_reducible refine (IH.out b0 b1 b2 b3 b4 b5 b6 b7 b8 b9 b10 b11 A6 c6 w5 w6 _ HF'.out ho own6 gr6 FK).mono ?_); rintro en w7 ⟨C2, bb, rfl, h1, h2, h3, h4⟩))
              | fail
            all_goals (
              have H1 := Lib.hid h1
              have H2 := Lib.hid h2
              have H3 := Lib.hid h3
              have H4 := Lib.hid h4
              clear g0 s0 v0 g1 s1 v1 g2 s2 v2 g3 s3 v3 g4 s4 v4 g5 s5 v5 g6 s6 v6 g7 s7 v7 g8 s8 v8 g9 s9 v9 g10 s10 v10 g11 s11 v11 y0 y1 y6 z5 z6 own6 gr6 hbw6 fk6 FK HB6 HB5 M1 r0 r1 r2 r3 r4 r5 r6 r7 r8 r9 r10 r11 h1 h2 h3 h4 IH K1 JC
              go_wp2_with fail
              go_meet
              exact ⟨C2, bb, rfl, H1, H2, H3, H4⟩)
          case rest =>
            obtain ⟨C2, bb, rfl, h1, h2, h3, h4⟩ := hcut
            clear r0 r1 r2 r3 r4 r5 r6 r7 r8 r9 r10 r11 IH K1 JC
            cases bb
            · have EN : Hid (GrowR L0 xs pre J Jx base C A c t W (.returned (.bool false)) wc) := by
                have ⟨p1, p2⟩ := grow_from HO1.out h2.out h3.out
                exact ⟨C2, false, rfl, p1, p2, fun h => (by cases h), fun _ => h4.out rfl⟩
              clear h1 h2 h3 h4
              go_wp2
              go_ret
              exact EN.out
            · have RL : Hid (GrowS n E (some ⟨bA, oA, none⟩) cr l bN bY bE bG base A c t C2 wc ∧ J (pre' ++ growL n E (t ++ [k]) (k + 1)) C2 wc) := h1.out rfl
              have HL2 : Hid (pre ++ L0 = pre' ++ growL n E (t ++ [k]) (k + 1) ++ treesG n E (E.length - (k + 1)) t (k + 1)) := by
                rw [Hid, HL.out, HT.out, List.append_assoc]
              clear h1 h4
              go_wp2
              go_roundw
              case rel => exact ⟨k + 1, C2, _, by omega, by omega, by go_num, RL.out.1, RL.out.2, HL2, h2, h3⟩
              case measure => simp [intOf]; omega
      · rw [decide_eq_false hc] at C4
        have HT := Lib.hid (HT.out.trans (if_neg hc))
        clear hc
        go_wp2_with fail
        refine (C4.out).mono ?_
        rintro en w2 ⟨rfl, hb2⟩
        have o2 : Only (fun _ => False) wr w2 := ((Only.refl _ wr).drew).trans (Only.of_new hb2)
        have EN : Hid (GrowR L0 xs pre J Jx base C A c t W (.returned (.bool true)) w2) := by
          have G2 := GS.out.only o2 (fun _ _ h => h) (fun _ _ h => h)
          have ⟨m1, m2⟩ := grow_trans HO.out HGr.out (o2.mono (D := fun i => C' i ∨ blockOf A i) fun _ _ h => h.elim) (Grows.refl C' _ _ _)
          have ⟨p1, p2⟩ := grow_from HO1.out m1 m2
          refine ⟨C', true, rfl, p1, p2, fun _ => ⟨?_, G2.own⟩, fun h => by cases h⟩
          rw [HL.out, HT.out, List.append_nil]
          exact HJ.out _ _ _ _ JW.out (Stays.of_only o2 (fun _ _ h => h.elim))
        go_wp2
        go_ret
        exact EN.out
    · obtain rfl : k = E.length := by omega
      have e0 := GS.out.w.h3.cell 0
      have EN : Hid (∀ nq, GrowR L0 xs pre J Jx base C A c t W (.returned (.bool true)) (wr.drewN nq)) := by
        intro nq
        have o2 : Only (fun _ => False) wr (wr.drewN nq) := (Only.refl _ wr).drewN nq
        have G2 := GS.out.only o2 (fun _ _ h => h) (fun _ _ h => h)
        have ⟨m1, m2⟩ := grow_trans HO.out HGr.out (o2.mono (D := fun i => C' i ∨ blockOf A i) fun _ _ h => h.elim) (Grows.refl C' _ _ _)
        have ⟨p1, p2⟩ := grow_from HO1.out m1 m2
        refine ⟨C', true, rfl, p1, p2, fun _ => ⟨?_, G2.own⟩, fun h => by cases h⟩
        have hl := HL.out
        rw [Nat.sub_self] at hl
        rw [hl, show treesG n E 0 t E.length = [] from rfl, List.append_nil]
        exact HJ.out _ _ _ _ JW.out (Stays.of_only o2 (fun _ _ h => h.elim))
      go_wp2_with fail
      go_quiet (fail)
      go_wp2
      go_ret
      exact EN.out _
end Go.Proofs.YtnbikkcalcpedaaGreatDoor

