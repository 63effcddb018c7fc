/-
  ref08.Few, ref17.Few, ref18.Few, ref23.Few.
-/
import Derived.Test.YthbannpmfdflaaaREnds
namespace Go.Proofs.Ythbannpmfdflaaa
open Go.RowKit

set_option maxHeartbeats 1000000 in
theorem gfew_any (n : Int) (A : Option Addr) (c : Nat) (es : List E3) (w : World) (h : Reads w w.heap.size 3 A es.length (edgeCells es)) :
    Calls Try.prog 113 #[.agg #[.int .i64 n, .slice A es.length c]] w fun e w' => e = .returned (.bool (smallB n es 6 9)) ∧ Below w.heap.size w w' := by
  have SC := Lib.hid (rsmall_any n A c es 6 9)
  go_enter Try.func113, Try.ntmps113
  go_wp2_with fail
  refine (SC.out _ ((h.alloc (Nat.le_refl _) _).more (by simp))).mono ?_
  rintro e w1 ⟨rfl, hb1⟩
  have hbel1 : Below w.heap.size w w1 := ((Below.refl _ _).alloc (Nat.le_refl _) _).trans (hb1.mono (by simp))
  go_wp2
  go_ret
  exact ⟨rfl, hbel1⟩
set_option maxHeartbeats 1000000 in
theorem dfew_any (A : Option Addr) (c m : Nat) (w : World) :
    Calls Try.prog 114 #[.slice A m c] w fun e w' => e = .returned (.bool (decide (m ≤ 24))) ∧ w = w' := by
  go_enter Try.func114, Try.ntmps114
  go_wp2
  go_ret
  exact ⟨ret_bool (by rw [Bool.eq_iff_iff]; simp; try omega), rfl⟩
/-- A small graph with a small divisor. -/
def few18 (n : Int) (es : List E3) (cs : List Int) : Bool := smallB n es 6 9 && decide (cs.length ≤ 24)
set_option maxHeartbeats 1000000 in
theorem few18_any (n : Int) (A : Option Addr) (c : Nat) (es : List E3) (B : Option Addr) (d : Nat) (cs : List Int) (w : World) (h : Reads w w.heap.size 3 A es.length (edgeCells es)) :
    Calls Try.prog 60 #[.agg #[.int .i64 n, .slice A es.length c], .slice B cs.length d] w fun e w' => e = .returned (.bool (few18 n es cs)) ∧ Below w.heap.size w w' := by
  have SC := gfew_any n A c es
  unfold few18
  obtain ⟨r, hr⟩ : ∃ r, smallB n es 6 9 = r := ⟨_, rfl⟩
  rw [hr] at SC ⊢
  have SC := Lib.hid SC
  clear hr
  cases r
  · go_enter Try.func60, Try.ntmps60
    go_wp2_with fail
    refine (SC.out _ ((h.alloc (Nat.le_refl _) _).more (by simp))).mono ?_
    rintro e w1 ⟨rfl, hb1⟩
    have hbel1 : Below w.heap.size w w1 := ((Below.refl _ _).alloc (Nat.le_refl _) _).trans (hb1.mono (by simp))
    go_wp2
    go_ret
    exact ⟨rfl, hbel1⟩
  · go_enter Try.func60, Try.ntmps60
    go_wp2_with fail
    refine (SC.out _ ((h.alloc (Nat.le_refl _) _).more (by simp))).mono ?_
    rintro e w1 ⟨rfl, hb1⟩
    have hbel1 : Below w.heap.size w w1 := ((Below.refl _ _).alloc (Nat.le_refl _) _).trans (hb1.mono (by simp))
    go_wp2_with fail
    refine (dfew_any B d cs.length w1).mono ?_
    rintro e w2 ⟨rfl, rfl⟩
    go_wp2
    go_ret
    exact ⟨rfl, hbel1⟩
/-- .. whose chips are few. -/
def few23 (n : Int) (es : List E3) (cs : List Int) : Bool := few18 n es cs && cs.all fun x => !(decide (60 < x) && decide (x ≤ 1048576))
theorem few23_at {n : Int} {es : List E3} {cs : List Int} {k : Nat} {x : Int} (hx : cs[k]? = some x) (h1 : 60 < x) (h2 : x ≤ 1048576) : few23 n es cs = false := by
  unfold few23
  have : (cs.all fun x => !(decide (60 < x) && decide (x ≤ 1048576))) = false := by
    rw [Bool.eq_false_iff]; intro h; rw [List.all_eq_true] at h
    have := h x (List.mem_of_getElem? hx)
    simp at this
    omega
  rw [this, Bool.and_false]
set_option maxHeartbeats 2000000 in
theorem few23_any (n : Int) (A : Option Addr) (c : Nat) (es : List E3) (B : Option Addr) (d : Nat) (cs : List Int) (w : World) (h : Reads w w.heap.size 3 A es.length (edgeCells es)) (h' : Reads w w.heap.size 1 B cs.length (ints cs)) :
    Calls Try.prog 13 #[.agg #[.int .i64 n, .slice A es.length c], .slice B cs.length d] w fun e w' => e = .returned (.bool (few23 n es cs)) ∧ Below w.heap.size w w' := by
  have SC := few18_any n A c es B d cs
  cases hr : few18 n es cs
  · have hd : few23 n es cs = false := by unfold few23; rw [hr]; rfl
    rw [hd]
    rw [hr] at SC
    have SC := Lib.hid SC
    clear hr hd
    go_enter Try.func13, Try.ntmps13
    go_wp2_with fail
    refine (SC.out _ ((h.alloc (Nat.le_refl _) _).more (by simp))).mono ?_
    rintro e w1 ⟨rfl, hb1⟩
    have hbel1 : Below w.heap.size w w1 := ((Below.refl _ _).alloc (Nat.le_refl _) _).trans (hb1.mono (by simp))
    go_wp2
    go_ret
    exact ⟨rfl, hbel1⟩
  · have hcl : cs.length ≤ 24 := by unfold few18 at hr; simp at hr; exact hr.2
    have HF : Hid (∀ (k : Nat) (x : Int), cs[k]? = some x → 60 < x → x ≤ 1048576 → few23 n es cs = false) := fun k x hx h1 h2 => few23_at hx h1 h2
    have HT : Hid ((cs.take cs.length).all (fun x => !(decide (60 < x) && decide (x ≤ 1048576))) = true → few23 n es cs = true) := by
      intro ha
      rw [List.take_length] at ha
      unfold few23; rw [hr, ha]; rfl
    obtain ⟨r, hr2⟩ : ∃ r, few23 n es cs = r := ⟨_, rfl⟩
    rw [hr2] at HF HT ⊢
    rw [hr] at SC
    have SC := Lib.hid SC
    clear hr hr2
    go_enter Try.func13, Try.ntmps13
    go_wp2_with fail
    refine (SC.out _ ((h.alloc (Nat.le_refl _) _).more (by simp))).mono ?_
    rintro e w1 ⟨rfl, hb1⟩
    have hbel1 : Below w.heap.size w w1 := ((Below.refl _ _).alloc (Nat.le_refl _) _).trans (hb1.mono (by simp))
    have hr1 := h'.below hbel1
    go_wp2
    go_loop [5] (fun i => ∃ k : Nat, k ≤ cs.length ∧ i = .int .i64 k ∧ Hid ((cs.take k).all (fun x => !(decide (60 < x) && decide (x ≤ 1048576))) = true)) (fun i => cs.length - (intOf i).toNat)
    case atStart => exact ⟨0, by omega, rfl, by simp [Hid]⟩
    case round =>
      obtain ⟨k, hk, rfl, HS⟩ := hrel
      by_cases hlt : k < cs.length
      · obtain ⟨x, hx⟩ := get_of_lt hlt
        obtain ⟨b, off, rfl, hb', hcell⟩ := hr1.at_ (ints_at hx)
        have hi : (k : Int) < (cs.length : Int) := by omega
        have HX := Lib.hid hx
        clear hx h h'
        by_cases h1 : 60 < x
        · by_cases h2 : x ≤ 1048576
          · obtain rfl := HF.out k x HX.out h1 h2
            go_wp2
            go_ret
            exact ⟨rfl, hbel1⟩
          · have HN : Hid ((cs.take (k + 1)).all (fun x => !(decide (60 < x) && decide (x ≤ 1048576))) = true) := by
              rw [take_snoc HX.out, Hid, List.all_append, HS.out]; simp; omega
            have h3 : 1048576 < x := by omega
            go_wp2
            go_round
            case rel => exact ⟨k + 1, by omega, by go_num, HN⟩
            case measure => simp [intOf]; omega
        · have HN : Hid ((cs.take (k + 1)).all (fun x => !(decide (60 < x) && decide (x ≤ 1048576))) = true) := by
            rw [take_snoc HX.out, Hid, List.all_append, HS.out]; simp; omega
          have h3 : x ≤ 60 := by omega
          go_wp2
          go_round
          case rel => exact ⟨k + 1, by omega, by go_num, HN⟩
          case measure => simp [intOf]; omega
      · obtain rfl : k = cs.length := by omega
        obtain rfl := HT.out HS.out
        go_wp2
        go_ret
        exact ⟨rfl, hbel1⟩
theorem few23_parts {n : Int} {es : List E3} {cs : List Int} (h : few23 n es cs = true) : es.length ≤ 40 ∧ cs.length ≤ 24 ∧ (checkG n es = 0 → n ≤ 6 ∧ sizeE es ≤ 9) ∧ ∀ x ∈ cs, x ≤ 1048576 → x ≤ 60 := by
  unfold few23 few18 smallB at h
  rw [Bool.and_eq_true, Bool.and_eq_true, List.all_eq_true] at h
  obtain ⟨⟨h1, h2⟩, h3⟩ := h
  split at h1
  · cases h1
  · rename_i h4
    refine ⟨by omega, by simpa using h2, fun hc => ?_, fun x hx h5 => ?_⟩
    · rw [if_neg (fun h => h hc), Bool.and_eq_true] at h1
      have e1 := of_decide_eq_true h1.1
      have e2 := of_decide_eq_true h1.2
      exact ⟨e1, by omega⟩
    · have := h3 x hx
      simp at this
      omega
end Go.Proofs.Ythbannpmfdflaaa
