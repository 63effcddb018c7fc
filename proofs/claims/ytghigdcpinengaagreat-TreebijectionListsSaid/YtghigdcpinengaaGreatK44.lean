/-
  Texts of this claim, put together: RNextF.
-/
import Derived.Test.YtghigdcpinengaaGreatK16
import Derived.Test.YtghigdcpinengaaGreatK42
import Derived.Test.YtghigdcpinengaaGreatK43
import Derived.Test.YtghigdcpinengaaGreatK13
/-! ref30.next. -/
namespace Go.Proofs.YtghigdcpinengaaGreat
open Go.RowKit

theorem Blk.newF {w : World} {g : Nat} {t : TypeId} {cs : Array Value} (hg : g = w.heap.size) : Blk (w.alloc (.cells cs t)) g t cs := by subst hg; exact Blk.new w t cs
theorem nI_mem {t : List Nat} (v : Nat) : decide ((v : Int) ∈ nI t) = decide (v ∈ t) := by
  unfold nI
  rw [Bool.eq_iff_iff, decide_eq_true_eq, decide_eq_true_eq, List.mem_map]
  exact ⟨fun ⟨a, ha, hae⟩ => by
    have : a = v := by omega
    exact this ▸ ha, fun h => ⟨v, h, rfl⟩⟩

def nxE (o : Option Nat) : Int := match o with | some e => (e : Int) | none => -1
def nxV (E : List (Nat × Nat)) (s : FireS) (o : Option Nat) : Int := match o with | some e => (leadV E s e : Int) | none => -1
theorem next_upto {E : List (Nat × Nat)} {s : FireS} (h : ∀ e, e < E.length → candB E s e = false) : nextF E s = none := by
  unfold nextF
  rw [List.find?_eq_none]
  intro e he
  have := h e (List.mem_range.1 he)
  simp [this]

set_option maxRecDepth 100000 in
set_option maxHeartbeats 8000000 in
theorem next30_any (n : Int) (A : Option Addr) (c : Nat) (es : List E3) (hn : es.length ≤ 40) (N : Int) (hok : ∀ e ∈ es, okE N e) (S : FireS) (hs1 : S.steps.length ≤ 10000) (hs2 : S.order.length ≤ 10000) (AS AO AD AT : Option Addr) (cS cO cD cT nD nT : Nat) (w : World) (h : Reads w w.heap.size 3 A es.length (edgeCells es))
    (h1 : Reads w w.heap.size 1 AS S.steps.length (ints (nI S.steps))) (h2 : Reads w w.heap.size 1 AO S.order.length (ints (nI S.order))) :
    Calls Tryz.prog 87 #[.agg #[.int .i64 n, .slice A es.length c], .agg #[.slice AS S.steps.length cS, .slice AO S.order.length cO, .slice AD nD cD, .slice AT nT cT]] w fun e w' => e = .returned (.tuple #[.int .i64 (nxE (nextF (endsL es) S)), .int .i64 (nxV (endsL es) S (nextF (endsL es) S))]) ∧ Below w.heap.size w w' := by
  have EC := Lib.hid (fun (W : World) (hB : Below w.heap.size w W) => rendsC_any n A c es hn N hok W ((h.below hB).more hB.size))
  have HS : Hid (∀ (v : Nat) (W : World), Below w.heap.size w W → Calls Tryz.prog 57 #[.slice AS S.steps.length cS, .int .i64 (v : Int)] W fun r w' => r = .returned (.bool (decide (v ∈ S.steps))) ∧ W = w') := by
    intro v W hB
    have := holds_any AS cS (nI S.steps) (by rw [nI_length]; omega) (v : Int) W (by rw [nI_length]; exact (h1.below hB).more hB.size)
    rw [nI_length, nI_mem] at this
    exact this
  have HO : Hid (∀ (v : Nat) (W : World), Below w.heap.size w W → Calls Tryz.prog 57 #[.slice AO S.order.length cO, .int .i64 (v : Int)] W fun r w' => r = .returned (.bool (decide (v ∈ S.order))) ∧ W = w') := by
    intro v W hB
    have := holds_any AO cO (nI S.order) (by rw [nI_length]; omega) (v : Int) W (by rw [nI_length]; exact (h2.below hB).more hB.size)
    rw [nI_length, nI_mem] at this
    exact this
  obtain ⟨W0, hW0⟩ : ∃ W0, (w.alloc (.cells #[.int .i64 n, .slice A es.length c] 24)).alloc (.cells #[.slice AS S.steps.length cS, .slice AO S.order.length cO, .slice AD nD cD, .slice AT nT cT] 35) = W0 := ⟨_, rfl⟩
  have g0 : Blk W0 w.heap.size 24 #[.int .i64 n, .slice A es.length c] := by rw [← hW0]; exact (Blk.new w 24 #[.int .i64 n, .slice A es.length c]).alloc _
  have x0 : Blk W0 (w.heap.size + 1) 35 #[.slice AS S.steps.length cS, .slice AO S.order.length cO, .slice AD nD cD, .slice AT nT cT] := by rw [← hW0]; exact Blk.newF (by simp)
  have hB0 : Below w.heap.size w W0 := by rw [← hW0]; exact ((Below.refl _ _).alloc (Nat.le_refl _) _).alloc (by simp) _
  have c0 := g0.cell 0
  have c1 := g0.cell 1
  have HW0 := Lib.hid hW0
  obtain ⟨E, hE⟩ : ∃ E, endsL es = E := ⟨_, rfl⟩
  have hEl : E.length ≤ 2000 := by rw [← hE]; have := endsL_length (N := N) hok; omega
  rw [hE] at EC ⊢
  clear h h1 h2 hok hE hW0
  go_enter Tryz.func87, Tryz.ntmps87
  go_wp2_with fail
  try rw [HW0.out]
  refine (EC.out _ hB0).mono ?_
  rintro e w1 ⟨Ar, cr, rfl, o1, hb1⟩
  have hB1 := hB0.trans (hb1.mono hB0.size)
  have XB := x0.next hb1
  have R1 := Lib.hid (Reads.of_own o1)
  obtain ⟨M, hM⟩ : ∃ M, E.length = M := ⟨_, rfl⟩
  rw [hM] at R1
  try rw [hM]
  have HM := Lib.hid hM
  rw [hM] at hEl
  clear c0 c1 g0 x0 o1 hb1 hM hB0
  go_wp2_with fail
  go_loopw [7] (fun i wr => ∃ k : Nat, k ≤ M ∧ i = .int .i64 k ∧ Hid (∀ j, j < k → candB E S j = false) ∧ Hid (Below w1.heap.size w1 wr)) (fun i _ => M - (intOf i).toNat)
  case atStart => exact ⟨0, by omega, rfl, fun j hj => by omega, Below.refl _ _⟩
  case round =>
    obtain ⟨k, hk, rfl, HC, HB⟩ := hrel
    by_cases hlt : k < M
    · have hi : (k : Int) < (M : Int) := by omega
      have hkE : k < E.length := by rw [HM.out]; exact hlt
      have r2 := R1.out.below HB.out
      rw [← HM.out] at r2
      obtain ⟨bA, oA, hA, hbA, q0, q1⟩ := r2.pairAt (getD_some hkE)
      obtain ⟨⟨x0, x1⟩, hp⟩ : ∃ p, E.getD k (0, 0) = p := ⟨_, rfl⟩
      rw [hp] at q0 q1
      dsimp only at q0 q1
      subst hA
      have HP := Lib.hid hp
      have hBw := hB1.trans (HB.out.mono hB1.size)
      have X2 := XB.next HB.out
      have CB : Hid (∀ j, j < k + 1 → j ≠ k → candB E S j = false) := fun j h1 h2 => HC.out j (by omega)
      have HKE := Lib.hid hkE
      clear hp r2 HC hkE
      have hw1 : IntKind.i64.wrap ((k : Int) + 1) = (k : Int) + 1 := IntWalk.i64_in _ (by omega)
      go_wp2_with fail
      go_quiet (fail)
      obtain ⟨W5, hW5⟩ : ∃ W, wr.drewN nq = W := ⟨_, rfl⟩
      have HB5 : Hid (Below w1.heap.size w1 W5) := by rw [← hW5]; exact below_drewN HB.out _
      have hBw5 : Below w.heap.size w W5 := by rw [← hW5]; exact below_drewN hBw _
      have x5 : Blk W5 (w.heap.size + 1) 35 #[.slice AS S.steps.length cS, .slice AO S.order.length cO, .slice AD nD cD, .slice AT nT cT] := by rw [← hW5]; exact X2
      have s0 := x5.cell 0
      have s1 := x5.cell 1
      try rw [hW5]
      clear hW5 q0 q1 X2
      have HS1 := HS.out k
      have HO0 := HO.out x0
      have HO1 := HO.out x1
      by_cases m : k ∈ S.steps
      · have hc : candB E S k = false := by unfold candB; rw [decide_eq_true m]; rfl
        rw [decide_eq_true m] at HS1
        have HC2 : Hid (∀ j, j < k + 1 → candB E S j = false) := fun j hj => by
          by_cases e : j = k
          · rw [e]; exact hc
          · exact CB.out j hj e
        have HS1 := Lib.hid (fun m => (HS1 (W5.drewN m) (below_drewN hBw5 m)).mono fun _ _ h => (⟨h.1, h.2.symm⟩ : _ ∧ _ = W5.drewN m))
        clear m hc HO0 HO1
        go_wp2_with fail
        go_quiet ((go_at_call 57; with_reducible exact Calls.quiet_of_same (HS1.out _)))
        go_wp2
        go_roundw
        case rel => exact ⟨k + 1, by omega, by go_num, HC2.out, below_drewN HB5.out _⟩
        case measure => simp [intOf]; omega
      · rw [decide_eq_false m] at HS1
        obtain ⟨a0, ha0⟩ : ∃ a, decide (x0 ∈ S.order) = a := ⟨_, rfl⟩
        obtain ⟨a1, ha1⟩ : ∃ a, decide (x1 ∈ S.order) = a := ⟨_, rfl⟩
        rw [ha0] at HO0
        rw [ha1] at HO1
        have hcb : candB E S k = !(a0 == a1) := by unfold candB; rw [HP.out, decide_eq_false m, ha0, ha1]; rfl
        have HS1 := Lib.hid (fun m => (HS1 (W5.drewN m) (below_drewN hBw5 m)).mono fun _ _ h => (⟨h.1, h.2.symm⟩ : _ ∧ _ = W5.drewN m))
        have HO0 := Lib.hid (fun m => (HO0 (W5.drewN m) (below_drewN hBw5 m)).mono fun _ _ h => (⟨h.1, h.2.symm⟩ : _ ∧ _ = W5.drewN m))
        have HO1 := Lib.hid (fun m => (HO1 (W5.drewN m) (below_drewN hBw5 m)).mono fun _ _ h => (⟨h.1, h.2.symm⟩ : _ ∧ _ = W5.drewN m))
        have HA0 := Lib.hid ha0
        have HCB := Lib.hid hcb
        clear m ha0 ha1 hcb
        by_cases h01 : a0 = a1
        · have HC2 : Hid (∀ j, j < k + 1 → candB E S j = false) := fun j hj => by
            by_cases e : j = k
            · rw [e, HCB.out, h01]; simp
            · exact CB.out j hj e
          subst h01
          have hbe : (a0 == a0) = true := by simp
          go_wp2_with fail
          go_quiet ((go_at_call 57; first | (with_reducible exact Calls.quiet_of_same (HS1.out _)) | (with_reducible exact Calls.quiet_of_same (HO0.out _)) | (with_reducible exact Calls.quiet_of_same (HO1.out _))))
          go_wp2
          go_roundw
          case rel => exact ⟨k + 1, by omega, by go_num, HC2.out, below_drewN HB5.out _⟩
          case measure => simp [intOf]; omega
        · have hbe : (a0 == a1) = false := by simpa using h01
          have HN : Hid (nextF E S = some k) := next_least HKE.out (by rw [HCB.out, hbe]; rfl) fun f hf => CB.out f (by omega) (by omega)
          have HLD : Hid (leadV E S k = if a0 = true then x1 else x0) := by
            unfold Hid leadV; rw [HP.out]
            cases ha : a0
            · have : ¬ x0 ∈ S.order := by have := HA0.out; rw [ha] at this; exact of_decide_eq_false this
              rw [if_neg this, if_neg (by decide)]
            · have : x0 ∈ S.order := by have := HA0.out; rw [ha] at this; exact of_decide_eq_true this
              rw [if_pos this, if_pos rfl]
          clear h01 HCB CB
          go_wp2_with fail
          go_quiet ((go_at_call 57; first | (with_reducible exact Calls.quiet_of_same (HS1.out _)) | (with_reducible exact Calls.quiet_of_same (HO0.out _)) | (with_reducible exact Calls.quiet_of_same (HO1.out _))))
          have s1' : (W5.drewN nq).cell? ⟨w.heap.size + 1, 1, none⟩ = some (.slice AO S.order.length cO) := s1
          have HO2 := Lib.hid (HO0.out nq)
          have hBf : Below w.heap.size w (W5.drewN nq) := below_drewN hBw5 nq
          obtain ⟨W6, hW6⟩ : ∃ W, W5.drewN nq = W := ⟨_, rfl⟩
          rw [hW6] at s1' HO2 hBf
          try rw [hW6]
          clear hW6
          go_wp2_with fail
          refine (HO2.out).mono ?_
          rintro e w7 ⟨rfl, rfl⟩
          cases a0
          · go_wp2
            go_ret2
            refine ⟨?_, hBf⟩
            rw [HN.out]
            show _ = Ending.returned (.tuple #[.int .i64 (k : Int), .int .i64 (leadV E S k : Int)])
            rw [HLD.out]; rfl
          · go_wp2
            go_ret2
            refine ⟨?_, hBf⟩
            rw [HN.out]
            show _ = Ending.returned (.tuple #[.int .i64 (k : Int), .int .i64 (leadV E S k : Int)])
            rw [HLD.out]; rfl
    · obtain rfl : k = M := by omega
      have HN : Hid (nextF E S = none) := next_upto fun e he => HC.out e (by rw [HM.out] at he; exact he)
      have hBf := hB1.trans (HB.out.mono hB1.size)
      go_wp2
      go_ret2
      refine ⟨?_, hBf⟩
      rw [HN.out]; rfl
end Go.Proofs.YtghigdcpinengaaGreat

