/-
  Texts of this claim, put together: TConn, TGrow, PushF, RegTake.
-/
import Derived.Test.YtepmfbgmkfkmkaaK10
import Derived.Test.YtepmfbgmkfkmkaaK15
import Derived.Test.YtepmfbgmkfkmkaaK07
import Derived.Test.YtepmfbgmkfkmkaaK11
import Derived.Test.YtepmfbgmkfkmkaaK04
import Derived.Stop.RegionWithIn
import Derived.Test.YtepmfbgmkfkmkaaK03
import Derived.Test.YtepmfbgmkfkmkaaK16
import Derived.Deep.DeepAppendRoom
import Derived.Test.YtepmfbgmkfkmkaaK01
import Derived.Deep.RegionLaw
/-! Package tree: connects. -/
namespace Go.Proofs.Ytepmfbgmkfkmkaa
open Go.RowKit

theorem rootsR_succ (r : Nat → Nat) (k : Nat) : ((List.range (k + 1)).filter fun v => decide (r v = v)).length = ((List.range k).filter fun v => decide (r v = v)).length + if r k = k then 1 else 0 := by
  rw [List.range_succ, List.filter_append, List.length_append]
  congr 1
  by_cases h : r k = k
  · rw [if_pos h, List.filter_cons, decide_eq_true h]; rfl
  · rw [if_neg h, List.filter_cons, decide_eq_false h]; rfl

set_option maxRecDepth 100000 in
set_option maxHeartbeats 8000000 in
theorem connects12 (n : Nat) (hn1 : 1 ≤ n) (hn : n ≤ 12) (a0 a1 a2 a3 a4 a5 a6 a7 a8 a9 a10 a11 : Nat) (ps : List (Nat × Nat)) (hF : FR ps [a0, a1, a2, a3, a4, a5, a6, a7, a8, a9, a10, a11]) (hps : BdP n ps) (ms : List (Nat × Nat)) (hms : BdP n ms) (hml : ms.length ≤ 1000000) (Ar : Option Addr) (cr : Nat) (w : World) (h : Reads w w.heap.size 2 Ar ms.length (pair2 ms)) :
    Calls Try.prog 92 #[.int .i64 n, .agg #[.int .i64 a0, .int .i64 a1, .int .i64 a2, .int .i64 a3, .int .i64 a4, .int .i64 a5, .int .i64 a6, .int .i64 a7, .int .i64 a8, .int .i64 a9, .int .i64 a10, .int .i64 a11], .slice Ar ms.length cr] w fun e w' => e = .returned (.bool (decide (partsP n (ps ++ ms) = 1))) ∧ Below w.heap.size w w' := by
  have g0 : Blk (w.alloc (.cells #[.int .i64 a0, .int .i64 a1, .int .i64 a2, .int .i64 a3, .int .i64 a4, .int .i64 a5, .int .i64 a6, .int .i64 a7, .int .i64 a8, .int .i64 a9, .int .i64 a10, .int .i64 a11] 76)) w.heap.size 76 (fcells [a0, a1, a2, a3, a4, a5, a6, a7, a8, a9, a10, a11]) := Blk.new w _ _
  have hb0 : Below w.heap.size w (w.alloc (.cells #[.int .i64 a0, .int .i64 a1, .int .i64 a2, .int .i64 a3, .int .i64 a4, .int .i64 a5, .int .i64 a6, .int .i64 a7, .int .i64 a8, .int .i64 a9, .int .i64 a10, .int .i64 a11] 76)) := (Below.refl _ _).alloc (Nat.le_refl _) _
  obtain ⟨W0, hW0⟩ : ∃ W0, w.alloc (.cells #[.int .i64 a0, .int .i64 a1, .int .i64 a2, .int .i64 a3, .int .i64 a4, .int .i64 a5, .int .i64 a6, .int .i64 a7, .int .i64 a8, .int .i64 a9, .int .i64 a10, .int .i64 a11] 76) = W0 := ⟨_, rfl⟩
  rw [hW0] at g0 hb0
  obtain ⟨f, hf⟩ : ∃ f, [a0, a1, a2, a3, a4, a5, a6, a7, a8, a9, a10, a11] = f := ⟨_, rfl⟩
  rw [hf] at g0 hF
  obtain ⟨r, hh, hrp⟩ := hF
  have RC := Lib.hid (fun v hv W hW => troot_any w.heap.size ps f r hh hrp v hv W hW)
  have HRP := Lib.hid hrp
  have HMS := Lib.hid hms
  have HCN := Lib.hid (hrp.cnt n hn hps)
  have HP0 : Hid (∀ k, k ≤ n → ((List.range k).filter fun v => decide (r v = v)).length ≤ k) := fun k _ => Nat.le_trans (List.length_filter_le _ _) (by simp)
  have HPL : Hid (∀ qs, partsP n qs ≤ 12) := fun qs => by show (List.filter _ _).length ≤ 12; exact Nat.le_trans (List.length_filter_le _ _) (by simpa using hn)
  have HPP : Hid (∀ qs, 1 ≤ partsP n qs) := fun qs => partsP_pos (by omega)
  obtain ⟨res, hres⟩ : ∃ res, decide (partsP n (ps ++ ms) = 1) = res := ⟨_, rfl⟩
  have HRES := Lib.hid hres
  rw [hres]
  have HW0 := Lib.hid hW0
  clear hrp hms hps hf hW0 hres
  go_enter Try.func92, Try.ntmps92
  go_wp2_with fail
  try rw [HW0.out]
  go_loopw [7, 8, 12] (fun p _ i wr => ∃ k : Nat, k ≤ n ∧ i = .int .i64 k ∧ p = .int .i64 ((((List.range k).filter fun v => decide (r v = v)).length : Nat) : Int) ∧ W0 = wr) (fun _ _ i _ => n - (intOf i).toNat)
  case atStart => exact ⟨0, by omega, rfl, rfl, rfl⟩
  case round =>
    obtain ⟨k, hk, rfl, rfl, rfl⟩ := hrel
    by_cases hlt : k < n
    · have hi : (k : Int) < (n : Int) := by omega
      have hs := rootsR_succ r k
      have hp0 := HP0.out k hk
      obtain ⟨P, hP⟩ : ∃ P, ((List.range k).filter fun v => decide (r v = v)).length = P := ⟨_, rfl⟩
      rw [hP] at hs hp0 ⊢
      have HS := Lib.hid hs
      have RK := Lib.hid (RC.out k (by omega) W0 g0)
      have hwk : IntKind.i64.wrap ((P : Int) + 1) = (P : Int) + 1 := IntWalk.i64_in _ (by omega)
      clear hP hs
      by_cases hrk : r k = k
      · rw [hrk] at RK
        have hq : ((k : Int) == (k : Int)) = true := by simp
        have hn1 := HS.out
        rw [if_pos hrk] at hn1
        have HN := Lib.hid hn1
        clear hrk hn1
        go_wp2_with (go_at_call 62; (with_reducible refine (RK.out).mono ?_); rintro e w5 ⟨rfl, rfl⟩)
        go_roundw
        case rel => exact ⟨k + 1, by omega, by go_num, by rw [HN.out]; go_num, trivial⟩
        case measure => simp [intOf]; omega
      · obtain ⟨x, hx⟩ : ∃ x, r k = x := ⟨_, rfl⟩
        rw [hx] at RK hrk
        have hq : ((x : Int) == (k : Int)) = false := by simp; omega
        have hn1 := HS.out
        rw [if_neg (by rw [hx]; exact hrk)] at hn1
        have HN := Lib.hid hn1
        clear hrk hn1 hx
        go_wp2_with (go_at_call 62; (with_reducible refine (RK.out).mono ?_); rintro e w5 ⟨rfl, rfl⟩)
        go_roundw
        case rel => exact ⟨k + 1, by omega, by go_num, by rw [HN.out]; rfl, trivial⟩
        case measure => simp [intOf]; omega
    · obtain rfl : k = n := by omega
      rw [HCN.out]
      have hgl := g0.lt
      clear hlt
      go_wp2_with fail
      go_loopw [7, 10, 24] (fun p _ i wr => ∃ (j : Nat) (f' : List Nat), j ≤ ms.length ∧ i = .int .i64 j ∧ p = .int .i64 ((partsP k (ps ++ ms.take j) : Nat) : Int) ∧ Hid (FR (ps ++ ms.take j) f') ∧ Hid (Blk wr w.heap.size 76 (fcells f')) ∧ Hid (Below w.heap.size w wr)) (fun _ _ i _ => ms.length - (intOf i).toNat)
      case atStart => exact ⟨0, f, by omega, rfl, by rw [List.take_zero, List.append_nil], by rw [List.take_zero, List.append_nil]; exact ⟨r, hh, HRP.out⟩, g0, hb0⟩
      case round =>
        obtain ⟨j, f', hj, rfl, rfl, HF, HB, HW⟩ := hrel
        clear g0 hb0
        have hwz := HW.out.size
        by_cases hlt : j < ms.length
        · obtain ⟨⟨a, b⟩, hx⟩ := get_of_lt hlt
          have hab := HMS.out _ (List.mem_of_getElem? hx)
          dsimp only at hab
          have hi : (j : Int) < (ms.length : Int) := by omega
          obtain ⟨bA, oA, hA, hbA, q0, q1⟩ := (h.below HW.out).pairAt hx
          subst hA
          have B0 := HB.out.alloc (.cells #[.int .i64 a, .int .i64 b] 31)
          have JC := Lib.hid (tjoin_any w.heap.size (ps ++ ms.take j) f' HF.out a b (by omega) (by omega) _ B0)
          have ht := take_snoc hx
          have hpn : partsP k (ps ++ ms.take (j + 1)) + (if Cn (ps ++ ms.take j) a b then 0 else 1) = partsP k (ps ++ ms.take j) := by
            rw [ht, ← List.append_assoc]
            have hmm : ∀ p, p ∈ ps ++ ms.take j ++ [(a, b)] ↔ p ∈ (a, b) :: (ps ++ ms.take j) := fun p => by simp [or_comm, or_assoc]
            rw [partsP_congr fun _ _ => cn_same hmm]
            by_cases hc : Cn (ps ++ ms.take j) a b
            · rw [if_pos hc, partsP_in (p := (a, b)) hc]; rfl
            · rw [if_neg hc]; exact partsP_out (p := (a, b)) hab.1 hab.2 hc
          have hp1 := HPP.out (ps ++ ms.take (j + 1))
          have hp12 := HPL.out (ps ++ ms.take j)
          have HBA : Hid (Below w.heap.size w (wr.alloc (.cells #[.int .i64 a, .int .i64 b] 31))) := HW.out.alloc hwz _
          obtain ⟨P, hP⟩ : ∃ P, partsP k (ps ++ ms.take j) = P := ⟨_, rfl⟩
          obtain ⟨P', hP'⟩ : ∃ P', partsP k (ps ++ ms.take (j + 1)) = P' := ⟨_, rfl⟩
          rw [hP, hP'] at hpn
          rw [hP'] at hp1
          rw [hP] at hp12 ⊢
          have HT := Lib.hid ht
          have HP' := Lib.hid hP'
          have qb := Blk.new wr 31 #[.int .i64 a, .int .i64 b]
          have k0 := qb.cell 0
          have k1 := qb.cell 1
          clear hx hP hP' ht qb
          by_cases hc : Cn (ps ++ ms.take j) a b
          · rw [decide_eq_true hc] at JC
            rw [if_pos hc] at hpn
            have HN := Lib.hid hpn
            clear hc hpn
            go_wp2_with (go_at_call 61; (with_reducible refine (JC.out).mono ?_); rintro e w5 ⟨rfl, f'', HF', HB', ho⟩)
            have HW5 := Lib.hid (HBA.out.trans (ho.below (fun j hj e => by omega) HBA.out.size))
            go_roundw
            case rel => exact ⟨j + 1, f'', by omega, by go_num, by have := HN.out; rw [HP'.out]; congr 1; omega, by rw [Hid, HT.out, ← List.append_assoc]; exact HF'.out, HB', HW5⟩
            case measure => simp [intOf]; omega
          · rw [decide_eq_false hc] at JC
            rw [if_neg hc] at hpn
            have hwp : IntKind.i64.wrap ((P : Int) - 1) = (P : Int) - 1 := IntWalk.i64_in _ (by omega)
            have HN := Lib.hid hpn
            clear hc hpn
            go_wp2_with (go_at_call 61; (with_reducible refine (JC.out).mono ?_); rintro e w5 ⟨rfl, f'', HF', HB', ho⟩)
            have HW5 := Lib.hid (HBA.out.trans (ho.below (fun j hj e => by omega) HBA.out.size))
            go_roundw
            case rel => exact ⟨j + 1, f'', by omega, by go_num, by have := HN.out; rw [HP'.out]; congr 1; omega, by rw [Hid, HT.out, ← List.append_assoc]; exact HF'.out, HB', HW5⟩
            case measure => simp [intOf]; omega
        · obtain rfl : j = ms.length := by omega
          rw [List.take_length] at HF ⊢
          have HI : Hid ((((partsP k (ps ++ ms) : Nat) : Int) == 1) = res) := by
            rw [Hid, ← HRES.out, Bool.eq_iff_iff]; simp; omega
          obtain ⟨P, hP⟩ : ∃ P, partsP k (ps ++ ms) = P := ⟨_, rfl⟩
          rw [hP] at HI ⊢
          clear hP hlt
          go_wp2
          go_ret
          exact ⟨ret_bool HI.out, HW.out⟩
end Go.Proofs.Ytepmfbgmkfkmkaa

/-! Package tree: the closure that grows trees: what it has captured; a list that is a tree is yielded. -/
namespace Go.Proofs.Ytepmfbgmkfkmkaa
open Go.RowKit Go.Shelf
attribute [local go_sem] Oper.semAt_some

/-- A yielded tree. -/
def ArgT (t : List Nat) (args : Array Value) (O : Nat → Prop) (W : World) : Prop := ∃ A c, args = #[.slice A t.length c] ∧ OwnI W 0 A c (nI t) ∧ ∀ k, blockOf A k → O k
abbrev growF (bN bY bE bG : Nat) : Value := .func (.func 91) #[] #[.pointer (some ⟨bN, 0, none⟩), .pointer (some ⟨bY, 0, none⟩), .pointer (some ⟨bE, 0, none⟩), .pointer (some ⟨bG, 0, none⟩)]
/-- The blocks that the closure leans on. -/
def Fix5 (bN bY bE bG : Nat) (Ar : Option Addr) (k : Nat) : Prop := k = bN ∨ k = bY ∨ k = bE ∨ k = bG ∨ blockOf Ar k
/-- What the closure has captured. -/
structure GrowW (W : World) (n : Nat) (E : List (Nat × Nat)) (Ar : Option Addr) (cr l bN bY bE bG base : Nat) : Prop where
  h1 : Blk W bN 3 #[.int .i64 n]
  h2 : Blk W bY 105 #[.func (.yield l) #[] #[]]
  h3 : Blk W bE 45 #[.slice Ar E.length cr]
  h4 : Blk W bG 106 #[growF bN bY bE bG]
  rd : Reads W base 2 Ar E.length (pair2 E)
  lo : base ≤ W.heap.size
  cap : E.length ≤ cr
theorem GrowW.only {W W' : World} {n : Nat} {E : List (Nat × Nat)} {Ar : Option Addr} {cr l bN bY bE bG base : Nat} {D : Nat → Prop} (h : GrowW W n E Ar cr l bN bY bE bG base) (ho : Only D W W') (hd : ∀ k, Fix5 bN bY bE bG Ar k → ¬ D k) : GrowW W' n E Ar cr l bN bY bE bG base :=
  ⟨h.h1.only ho (hd _ (.inl rfl)), h.h2.only ho (hd _ (.inr (.inl rfl))), h.h3.only ho (hd _ (.inr (.inr (.inl rfl)))), h.h4.only ho (hd _ (.inr (.inr (.inr (.inl rfl))))), reads_onlyN h.rd ho h.lo fun _ hk => hd _ (.inr (.inr (.inr (.inr hk)))), Nat.le_trans h.lo ho.size, h.cap⟩
/-- The rest of the list of trees that a list of single edges grows to. -/
def growL (n : Nat) (E : List (Nat × Nat)) (t : List Nat) (e : Nat) : List (List Nat) := if t.length + 1 = n then [t] else treesG n E (E.length - e) t e
/-- What grow does: it yields L. -/
def GrowR (L xs pre : List (List Nat)) (J Jx : List (List Nat) → (Nat → Prop) → World → Prop) (base : Nat) (C : Nat → Prop) (A : Option Addr) (c : Nat) (t : List Nat) (W : World) (e : Ending) (W' : World) : Prop :=
  ∃ C' b, e = .returned (.bool b) ∧ Only (fun k => C k ∨ blockOf A k) W W' ∧ Grows C (fun _ => False) C' W W' ∧ (b = true → J (pre ++ L) C' W' ∧ OwnI W' base A c (nI t)) ∧ (b = false → ∃ pre', pre' <+: xs ∧ Jx pre' C' W')
/-- What a round is to be. -/
def Rounds (P : Program) (l : Nat) (J Jx : List (List Nat) → (Nat → Prop) → World → Prop) (xs : List (List Nat)) (base : Nat) : Prop :=
  ∀ pre x C W1 args O, pre ++ [x] <+: xs → J pre C W1 → base ≤ W1.heap.size → (∀ k, C k → k < W1.heap.size) → (∀ k, O k → ¬ C k ∧ k < W1.heap.size ∧ base ≤ k) → ArgT x args O W1 → Round P l J Jx pre x C O W1 args

theorem Only.tail {D D' : Nat → Prop} {a b c : World} (h : Only D a b) (k : Only D' b c) (hd : ∀ i, i < a.heap.size → D' i → D i) : Only D a c :=
  ⟨k.os.trans h.os, k.tape.trans h.tape, k.output.trans h.output, Nat.le_trans h.size k.size, fun i hi hn => (k.block i (Nat.lt_of_lt_of_le hi h.size) (fun hdi => hn (hd i hi hdi))).trans (h.block i hi hn)⟩
theorem Grows.tail {C C1 C2 O O' : Nat → Prop} {a b c : World} (h : Grows C O C1 a b) (k : Grows C1 O' C2 b c) (hs : a.heap.size ≤ b.heap.size) (hs2 : b.heap.size ≤ c.heap.size) (ho : ∀ i, O' i → a.heap.size ≤ i ∧ i < c.heap.size) : Grows C O C2 a c := fun i hi => by
  rcases k i hi with h1 | h1 | h1
  · rcases h i h1 with h2 | h2 | h2
    · exact .inl h2
    · exact .inr (.inl h2)
    · exact .inr (.inr ⟨h2.1, by omega⟩)
  · exact .inr (.inr (ho i h1))
  · exact .inr (.inr ⟨by omega, h1.2⟩)
theorem Grows.refl (C O : Nat → Prop) (a b : World) : Grows C O C a b := fun _ h => .inl h
set_option maxRecDepth 100000 in
set_option maxHeartbeats 4000000 in
theorem grow_leaf (n : Nat) (hn1 : 1 ≤ n) (hn : n ≤ 12) (E : List (Nat × Nat)) (Ar : Option Addr) (cr l bN bY bE bG base : Nat) (xs : List (List Nat)) (J Jx : List (List Nat) → (Nat → Prop) → World → Prop)
    (hY : Rounds Try.prog l J Jx xs base) (hJ : Bears base (fun _ => False) J)
    (t : List Nat) (ht : t.length + 1 = n) (e : Nat) (a0 a1 a2 a3 a4 a5 a6 a7 a8 a9 a10 a11 : Nat) (A : Option Addr) (c : Nat) (C : Nat → Prop) (pre : List (List Nat)) (W : World)
    (hW : GrowW W n E Ar cr l bN bY bE bG base) (hA : OwnI W base A c (nI t)) (hC : ∀ k, C k → k < W.heap.size ∧ ¬ Fix5 bN bY bE bG Ar k ∧ ¬ blockOf A k)
    (hp : pre ++ growL n E t e <+: xs) (h0 : J pre C W) :
    Calls Try.prog 91 #[.slice A t.length c, .int .i64 e, .agg #[.int .i64 a0, .int .i64 a1, .int .i64 a2, .int .i64 a3, .int .i64 a4, .int .i64 a5, .int .i64 a6, .int .i64 a7, .int .i64 a8, .int .i64 a9, .int .i64 a10, .int .i64 a11], .pointer (some ⟨bN, 0, none⟩), .pointer (some ⟨bY, 0, none⟩), .pointer (some ⟨bE, 0, none⟩), .pointer (some ⟨bG, 0, none⟩)] W
      fun en W' => GrowR (growL n E t e) xs pre J Jx base C A c t W en W' := by
  have hg : growL n E t e = [t] := if_pos ht
  rw [hg] at hp ⊢
  obtain ⟨W1, hW1⟩ : ∃ W1, W.alloc (.cells #[.int .i64 a0, .int .i64 a1, .int .i64 a2, .int .i64 a3, .int .i64 a4, .int .i64 a5, .int .i64 a6, .int .i64 a7, .int .i64 a8, .int .i64 a9, .int .i64 a10, .int .i64 a11] 76) = W1 := ⟨_, rfl⟩
  have ho1 : Only (fun _ => False) W W1 := by rw [← hW1]; exact (Only.refl _ W).alloc _
  have hG1 := hW.only ho1 (fun _ _ h => h)
  have hA1 : OwnI W1 base A c (nI t) := by rw [← hW1]; exact hA.alloc _
  have k1 := hG1.h1.cell 0
  have k2 := hG1.h2.cell 0
  have hnl := nI_length t
  have CL : Hid (∀ W2 : World, Reads W2 W2.heap.size 1 A (nI t).length (ints (nI t)) → Calls Try.prog 29 #[.slice A t.length c] W2 fun e w' => ∃ A' c', e = .returned (.slice A' t.length c') ∧ OwnI w' W2.heap.size A' c' (nI t) ∧ Below W2.heap.size W2 w') := by
    intro W2 hr
    have := clone_any A c (nI t) (by omega) W2 hr
    rw [hnl] at this
    exact this
  have hwn : IntKind.i64.wrap ((n : Int) - 1) = (n : Int) - 1 := IntWalk.i64_in _ (by omega)
  have hq : ((t.length : Int) == (n : Int) - 1) = true := by simp; omega
  have HY := Lib.hid hY
  have HP := Lib.hid hp
  have HJ := Lib.hid hJ
  have J1 := Lib.hid (hJ _ _ _ _ h0 (Stays.of_only ho1 (fun _ _ h => h.elim)))
  have HC := Lib.hid hC
  have HO1 := Lib.hid ho1
  have HA := Lib.hid hA
  have HA1 := Lib.hid hA1
  have HNL := Lib.hid hnl
  have hlo := hW.lo
  have HH2 := Lib.hid hG1.h2
  clear hY hp hJ h0 hC ho1 hA1 hA hnl hG1 hW ht hg
  refine (callsIn_wide (n := 3)).1 ?_
  refine callsIn_of_wp Try.func91 rfl trivial ?_
  simp only [Try.ntmps91, List.size_toArray, List.length_cons, List.length_nil, Nat.reduceAdd, Nat.reduceSub, Array.replicate_succ, Array.replicate_zero, List.push_toArray, List.append_toArray, List.nil_append, List.cons_append]
  gi_wp2_with fail
  clear hW1
  gi_region_with (first
    | (refine ⟨trivial, ?_⟩; gi_at_call 29; refine (inW (CL.out W1.drew (by exact HA1.out.reads))).mono ?_; rintro e w2 ⟨A', c', rfl, hown, hbel⟩
       have ho2 : Only (fun _ => False) W1 w2 := ((Only.refl _ W1).drew).trans (Only.of_new hbel)
       have cy : w2.cell? ⟨bY, 0, none⟩ = some (.func (.yield l) #[] #[]) := (HH2.out.only ho2 id).cell 0
       have hs1 := HO1.out.size
       have hs2 := ho2.size
       have hOw : Hid (∀ k, blockOf A' k → W1.heap.size ≤ k ∧ k < w2.heap.size) := fun k hk => hown.lt k (blockOf_own.2 hk)
       obtain ⟨fn, tmps, assign, body, hy, hR⟩ := HY.out pre t C w2 #[.slice A' t.length c'] (blockOf A') HP.out (HJ.out _ _ _ _ J1.out (Stays.of_only ho2 (fun _ _ h => h.elim))) (by omega) (fun k hk => by have := (HC.out k hk).1; omega) (fun k hk => ⟨fun h => by have := (HC.out k h).1; have := (hOw.out k hk).1; omega, (hOw.out k hk).2, by have := (hOw.out k hk).1; omega⟩) ⟨A', c', rfl, hown.mono (Nat.zero_le _), fun k hk => hk⟩)
    | (refine (roundIn_wide hR).mono ?_; rintro e w3 ⟨C2, b2, ho3, hg3, rfl, hj2, hx2⟩))
  all_goals (
    have EN : Hid (GrowR [t] xs pre J Jx base C A c t W (.returned (.bool b2)) w3) := by
      have hol : Only (fun _ => False) W w2 := HO1.out.trans ho2
      refine ⟨C2, b2, rfl, ?_, ?_, fun hb => ⟨hj2 hb, ?_⟩, fun hb => ⟨_, HP.out, hx2 hb⟩⟩
      · refine (hol.mono (fun _ _ h => h.elim)).tail ho3 fun i hi hd => ?_
        rcases hd with hd | hd
        · exact .inl hd
        · have := (hOw.out i hd).1; omega
      · exact (Grows.refl C _ W w2).tail hg3 hol.size ho3.size fun i hi => ⟨by have := (hOw.out i hi).1; omega, by have := (hOw.out i hi).2; have := ho3.size; omega⟩
      · refine (HA.out.only hol (fun _ _ h => h)).only ho3 fun k hk hd => ?_
        rcases hd with hd | hd
        · exact (HC.out k hd).2.2 hk
        · have h1 := (hOw.out k hd).1
          have h2 := (World.ownsRow.lt HA.out k (blockOf_own.2 hk)).2
          omega
    clear hj2 hx2 hR hy ho3 hg3 ho2 hown hbel
    gi_wp2
    go_ret
    exact EN.out)
end Go.Proofs.Ytepmfbgmkfkmkaa

/-! append of one element, told by its two ways: in place, or in a new block, where the old one stays as it is. -/
namespace Go.Proofs.Ytepmfbgmkfkmkaa
open Go.RowKit

theorem run_push_fork {P : Program} (w : World) (base : Nat) (t ty e : TypeId) {z : Value} {bytes : Nat} (ht : P.underlying t = some (.slice e)) (hinfo : (P.info? e).map (fun i => (i.zero, i.size, i.bytes)) = some (some z, 1, bytes)) (hzs : z.cells.size = 1) (hby : bytes ≤ 64)
    (A0 : Option Addr) (c0 n : Nat) (xs : List Value) (hown : w.ownsRow base e 1 (.slice A0 n c0) n xs)
    (a : Addr) (cc : Nat) (y : Value) (hy : w.cell? a = some y) (h1 : y.oneCell' = true) (hn : n + 1 ≤ 1048576) (hbase : base ≤ w.heap.size) :
    ∃ A' c' w', (Builtin.append_ #[t, t] ty #[.slice A0 n c0, .slice (some a) 1 cc]).run P w = .ok (.slice A' (n + 1) c') w' ∧ w'.ownsRow base e 1 (.slice A' (n + 1) c') (n + 1) (xs ++ [y]) ∧ w.grownBy w' (Value.slice A0 n c0).ownBlock ∧ Below base w w' ∧
      ((A' = A0 ∧ c' = c0 ∧ n + 1 ≤ c0) ∨ ((Value.slice A' (n + 1) c').ownBlock = some w.heap.size ∧ Below w.heap.size w w')) := by
  obtain ⟨i, hi, hz, hz1, hz2⟩ := info_parts hinfo
  have hnews : ∀ j u, [y][j]? = some u → w.cell? (a.add j) = some u := by
    intro j u hu
    rcases Nat.eq_zero_or_pos j with rfl | hj
    · rw [← show y = u by simpa using hu]; simpa [Addr.add] using hy
    · rw [List.getElem?_eq_none (by simp; omega)] at hu; cases hu
  have h1s : ∀ u ∈ [y], u.oneCell' = true := by simpa using h1
  have hlen : (xs ++ [y]).length = (n + 1) * i.size := by rw [List.length_append, hown.1, hz1]; simp
  have hsmall : n + 1 ≤ maxLen := by simp only [maxLen]; omega
  have hB : ∀ (w' : World), w.grownBy w' (Value.slice A0 n c0).ownBlock → Below base w w' := fun w' h3 => (Below.refl base w).grown h3 hbase (fun k hk => (hown.lt k hk).1)
  have grown : ∀ (old : Nat), old < n + 1 → ∀ (row : Option Nat),
      (w.drew.alloc (.cells (xs.toArray ++ [y].toArray ++ Builtin.zeroCells z.cells (grownCap w (n + 1) old e - (n + 1))) e)).ownsRow base e 1
        (.slice (some ⟨w.heap.size, 0, none⟩) (n + 1) (grownCap w (n + 1) old e)) (n + 1) (xs ++ [y]) ∧
      w.grownBy (w.drew.alloc (.cells (xs.toArray ++ [y].toArray ++ Builtin.zeroCells z.cells (grownCap w (n + 1) old e - (n + 1))) e)) row := by
    intro old ho row
    have hge := grownCap_ge w (n + 1) old e
    have hcm : grownCap w (n + 1) old e ≤ maxLen := grownCap_le_maxLen w (n + 1) old e hsmall
    refine ⟨⟨by rw [hlen, hz1], .inr ⟨w.heap.size, _, _, rfl, hbase, heap_alloc_new w.drew _, hge, hcm, ?_, ?_⟩⟩, ⟨rfl, rfl, rfl, by simp, fun k hk _ => heap_alloc_old w.drew _ hk⟩⟩
    · simp only [Array.size_append, List.size_toArray, size_zeroCells, hzs, hown.1, List.length_singleton]
      omega
    · simp only [Array.toList_append, List.append_assoc]
      rw [← List.append_assoc, show (n + 1) * 1 = (xs ++ [y]).length from by rw [hlen, hz1]]
      exact List.take_left
  have far : ∀ o, Below w.heap.size w (w.drew.alloc o) := fun o => ((Below.refl w.heap.size w).drew).alloc (Nat.le_refl _) o
  rcases hown.2 with ⟨hv, h0⟩ | ⟨g, cap, cur, hv, hbg, hg, hnc, hcm, hcs, htake⟩
  · injection hv with e1 e2 e3
    subst e1; subst e3; subst h0
    have hx : xs = [] := List.eq_nil_of_length_eq_zero (by simpa using hown.1)
    subst hx
    have hr := Go.run_append_nil (P := P) w t ty e i z ht hi hz a 1 cc [y] (by simp [hz1]) hnews (by omega) (by omega) (by rw [hz2]; omega)
    have hgr := grown 0 (by omega) (Value.ownBlock (.slice none 0 0))
    simp only [Nat.zero_add, List.nil_append, Array.empty_append] at hgr hr ⊢
    exact ⟨_, _, _, hr, hgr.1, hgr.2, hB _ hgr.2, .inr ⟨rfl, far _⟩⟩
  · injection hv with e1 e2 e3
    subst e1; subst e3
    by_cases hroom : n + 1 ≤ c0
    · obtain ⟨w', hr, h2, h3⟩ := run_append_own_spare (P := P) w base t ty e i 1 ht hi hz1 g n c0 xs hown a 1 cc [y] rfl hnews h1s hroom
      exact ⟨_, _, _, hr, h2, h3, hB _ h3, .inl ⟨rfl, rfl, hroom⟩⟩
    · have holds : ∀ j u, xs[j]? = some u → w.cell? ((⟨g, 0, none⟩ : Addr).add j) = some u := hown.cells (g := g) rfl
      have hr := run_append_grow (P := P) w t ty e i z ht hi hz ⟨g, 0, none⟩ n c0 xs (by rw [hown.1, hz1]) holds a 1 cc [y] (by simp [hz1]) hnews (by omega) (by simp only [maxLen] at hsmall; omega) (growslice_fits (by omega) (by rw [hz2]; exact Nat.le_trans (Nat.mul_le_mul hn hby) (by omega)))
      have hgr := grown c0 (by omega) (Value.ownBlock (.slice (some ⟨g, 0, none⟩) n c0))
      exact ⟨_, _, _, hr, hgr.1, hgr.2, hB _ hgr.2, .inr ⟨rfl, far _⟩⟩

/-- The same as a step of a region. -/
theorem push_fork_step {ops : Array Oper} {o : Oper} {a : Act} {K : Act → World → Prop} {Q : Exit → Act → World → Prop} {E : Prop} {w : World} (s x : Operand) (t : TypeId)
    (hw : Region.wanted o (yielded ops a.tmps) = true)
    (ho : o.op = .call { callee := .builtin .append, args := #[s, x], argTypes := #[t, t] }) (ht : Try.prog.underlying t = some (.slice 3))
    (base : Nat) (A : Option Addr) (c n : Nat) (xs : List Int) (hxn : xs.length = n) (y : Int) (hs : a.eval s = .slice A n c) (hown : OwnI w base A c xs)
    (ad : Addr) (hx : a.eval x = .slice (some ad) 1 1) (hy : w.cell? ad = some (.int .i64 y)) (hn : n ≤ 1048000) (hbase : base ≤ w.heap.size)
    (h : ∀ A' c' w', OwnI w' base A' c' (xs ++ [y]) → w.grownBy w' (Value.slice A n c).ownBlock → Below base w w' →
      ((A' = A ∧ c' = c) ∨ ((∀ k, blockOf A' k → k = w.heap.size) ∧ Below w.heap.size w w')) → K (a.put o.dst (.slice A' (n + 1) c')) w') :
    if Region.wanted o (yielded ops a.tmps) = true then Oper.wp Try.prog o a w K Q else E := by
  rw [if_pos hw]
  subst hxn
  obtain ⟨A', c', w', hrun, h2, h3, h4, h5⟩ := run_push_fork (P := Try.prog) w base t o.type 3 ht info_int rfl (by omega) A c xs.length (ints xs) hown ad 1 (.int .i64 y) hy rfl (by omega) hbase
  have g1 : OwnI w' base A' c' (xs ++ [y]) := by unfold OwnI; rw [List.length_append, ints_snoc]; exact h2
  have g5 : (A' = A ∧ c' = c) ∨ ((∀ k, blockOf A' k → k = w.heap.size) ∧ Below w.heap.size w w') := by
    rcases h5 with ⟨e1, e2, _⟩ | ⟨e1, e2⟩
    · exact .inl ⟨e1, e2⟩
    · refine .inr ⟨fun k hk => ?_, e2⟩
      have hb := (blockOf_own (A := A') (n := xs.length + 1) (c := c') (k := k)).2 hk
      exact Option.some.inj (hb.symm.trans e1)
  have g := h A' c' w' g1 h3 h4 g5
  clear g1 g5 h h2 h3 h4 h5
  unfold Oper.wp execOp
  simp only [ho, resolve, invoke, builtin, Sem.run_bind, Sem.run_pure, Result.andThen_ok, List.map_toArray, List.map_cons, List.map_nil, hs, hx, hrun]
  exact g
end Go.Proofs.Ytepmfbgmkfkmkaa

/-! A drawn region walked step by step: an operation that is taken first, one that is left out since its guard says so, one that alone may come. -/
namespace Go.Proofs.Ytepmfbgmkfkmkaa
open Go

section
variable {P : Program} {md : Region.Mode} {Q : Exit → Act → World → Prop} {l : List Oper} {i : Nat} {o : Oper} {v : Value} {fuel : Nat} {listed : Array Bool} {a : Act} {w : World}
theorem any_take (v : Value) (hi : l[i]? = some o) (hs : Region.noSelect l.toArray = true) (hf : Region.free md l.toArray listed i = true) (hr : (Region.ready md l.toArray listed).contains i = true)
    (hQ : ∀ c a w, Q (.panic c) (a.put o.dst v) w → Q (.panic c) a w) (hw : Region.wanted o (yielded l.toArray a.tmps) = true) (hv : ∀ w, (execOp a.eval o).run P w = .ok (.value v) w)
    (h : wpAny P md l.toArray Q fuel (listed.setIfInBounds i true) (a.put o.dst v) w) : wpAny P md l.toArray Q (fuel + 1) listed a w :=
  wpAny_take (by rw [List.getElem?_toArray]; exact hi) hs hf hr hQ (.inl ⟨hw, hv⟩) h
theorem any_skip (hi : l[i]? = some o) (hs : Region.noSelect l.toArray = true) (hf : Region.free md l.toArray listed i = true) (hr : (Region.ready md l.toArray listed).contains i = true)
    (hQ : ∀ c a w, Q (.panic c) (a.put o.dst undef) w → Q (.panic c) a w) (hw : Region.wanted o (yielded l.toArray a.tmps) = false)
    (h : wpAny P md l.toArray Q fuel (listed.setIfInBounds i true) (a.put o.dst undef) w) : wpAny P md l.toArray Q (fuel + 1) listed a w :=
  wpAny_take (by rw [List.getElem?_toArray]; exact hi) hs hf hr hQ (.inr ⟨hw, rfl⟩) h
theorem any_step (hi : l[i]? = some o) (hr : Region.ready md l.toArray listed = [i]) (hw : Region.wanted o (yielded l.toArray a.tmps) = true)
    (h : ∀ K : Act → World → Prop, (∀ a w, wpAny P md l.toArray Q fuel (listed.setIfInBounds i true) a w → K a w) → Oper.wp P o a w K Q) : wpAny P md l.toArray Q (fuel + 1) listed a w :=
  wpAny_ready hr (by simp) (AllReady.cons (by rw [List.getElem?_toArray]; exact hi) (fun K hK => by rw [if_pos hw]; exact h K hK) AllReady.nil)
end
end Go.Proofs.Ytepmfbgmkfkmkaa

