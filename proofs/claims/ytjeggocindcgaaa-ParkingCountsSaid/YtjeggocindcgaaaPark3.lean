/-
  The contracts of slices.Index on bools, Rotation, and the reference's SameInts and SameLists.
-/
import Derived.Test.YtjeggocindcgaaaPark2
import Derived.Test.YtjeggocindcgaaaRows2
namespace Go.Proofs.Ytjeggocindcgaaa
open Go.RowKit

def boolCells (l : List Bool) : List Value := l.map Value.bool
theorem boolCells_at {l : List Bool} {k : Nat} {b : Bool} (h : l[k]? = some b) : (boolCells l)[k]? = some (.bool b) := by simp [boolCells, h]

set_option maxHeartbeats 400000 in
theorem indexb_any (A : Option Addr) (c : Nat) (l : List Bool) (w : World) (hn : l.length ≤ 1048576) (h : Reads w w.heap.size 1 A l.length (boolCells l)) :
    Calls Try.prog 59 #[.slice A l.length c, .bool false] w fun e w' => e = .returned (.int .i64 (spotInt (spot l l.length 0))) ∧ w = w' := by
  go_enter Try.func59, Try.ntmps59
  go_wp2
  go_loop [8] (fun i => ∃ k : Nat, k ≤ l.length ∧ i = .int .i64 k ∧ Hid (spot l l.length 0 = spot l l.length k)) (fun i => l.length - (intOf i).toNat)
  case atStart => exact ⟨0, by omega, rfl, rfl⟩
  case round =>
    obtain ⟨k, hk, rfl, HS⟩ := hrel
    by_cases hlt : k < l.length
    · obtain ⟨b, hb⟩ := get_of_lt hlt
      have HB := Lib.hid hb
      obtain ⟨g, off, rfl, hg, hcell⟩ := h.at_ (boolCells_at hb)
      clear hb h
      cases b
      · go_wp2
        go_ret
        exact ⟨by rw [HS.out, spot_hit hlt HB.out]; rfl, rfl⟩
      · go_wp2
        go_round
        case rel => exact ⟨k + 1, by omega, by go_num, HS.out.trans (spot_step hlt HB.out)⟩
        case measure => simp [intOf]; omega
    · go_wp2
      go_ret
      exact ⟨by rw [HS.out, spot_out (by omega)]; rfl, rfl⟩

/-- A car on the circle. -/
def circStep (n : Nat) (s : List Bool) (x : Int) : List Bool :=
  match spot s n x.toNat with
  | some k => s.set k true
  | none => match spot s n 0 with
    | some k => s.set k true
    | none => s
theorem circStep_length (n : Nat) (s : List Bool) (x : Int) : (circStep n s x).length = s.length := by
  unfold circStep
  split
  · simp
  · split <;> simp
def circS (xs : List Int) : List Bool := xs.foldl (circStep (xs.length + 1)) street0
theorem spot_take (s : List Bool) (n : Nat) : spot (s.take n) n 0 = spot s n 0 := by
  unfold spot
  refine find_congr fun j hj => ?_
  have : j < n := by simp [List.mem_range'] at hj; omega
  rw [List.getElem?_take_of_lt this]

theorem circ_take {n : Nat} {s : List Bool} {xs : List Int} {k : Nat} {x : Int} (h : xs[k]? = some x) : (xs.take (k + 1)).foldl (circStep n) s = circStep n ((xs.take k).foldl (circStep n) s) x := by
  rw [take_snoc h, List.foldl_append]; rfl

/-- 's[:n]' of the street. -/
theorem slice_street (g n : Nat) (hn : n + 1 ≤ 13) (W : World) : (Instr.sliceAt 77 (.pointer (some ⟨g, 0, none⟩)) none (some (.int .i64 ((n : Int) + 1))) none).run Try.prog W = .ok (.slice (some ⟨g, 0, none⟩) (n + 1) 13) W := by
  obtain ⟨i0, hi, hz0, hz1, hz2⟩ := info_parts info_bool
  have hb : (Instr.sliceBound (.int .i64 ((n : Int) + 1)) 13 .sliceAlen).run Try.prog W = .ok (n + 1) W := by
    have h := run_sliceBound (P := Try.prog) (w := W) .i64 ((n : Int) + 1) 13 .sliceAlen (by omega) (by omega)
    rw [h]
    congr 1
  simp [Instr.sliceAt, run_underlying Try.underlying77, Instr.sliceBounds, hb, go_sem, Instr.sureAddr, sizeOf, typeInfo, hi, Addr.add]
/-- The rotation. -/
def rotS (xs : List Int) : Int × Int :=
  if withinS xs 1 = 0 then (((xs.length : Int) - spotInt (spot (circS xs) (xs.length + 1) 0)) % ((xs.length : Int) + 1), 0) else (0, withinS xs 1)

set_option maxRecDepth 100000 in
set_option maxHeartbeats 1000000 in
theorem rotation_ok (A : Option Addr) (c : Nat) (xs : List Int) (hok : withinS xs 1 = 0) (w : World) (h : Reads w w.heap.size 1 A xs.length (ints xs)) :
    Calls Try.prog 31 #[.slice A xs.length c] w fun e w' =>
      e = .returned (.tuple #[.int .i64 (((xs.length : Int) - spotInt (spot (circS xs) (xs.length + 1) 0)) % ((xs.length : Int) + 1)), .int .i64 0]) ∧ Below w.heap.size w w' := by
  obtain ⟨hn, hx⟩ := within_zero hok
  have hwi := within_any A c xs 1 (by omega) (by omega) w h
  rw [hok] at hwi
  have HW := Lib.hid hwi
  clear hwi hok
  go_enter Try.func31, Try.ntmps31
  go_wp2_with (go_at_call 57; refine (HW.out).mono ?_; rintro e w' ⟨rfl, rfl⟩)
  go_loopw [20] (fun i wr => ∃ (k : Nat) (s : List Bool), k ≤ xs.length ∧ i = .int .i64 k ∧ s.length = 13 ∧ Blk wr w.heap.size 77 (bools s) ∧ Below w.heap.size w wr ∧ Hid (s = (xs.take k).foldl (circStep (xs.length + 1)) street0)) (fun i _ => xs.length - (intOf i).toNat)
  case atStart => exact ⟨0, street0, by omega, rfl, by simp [street0], Blk.new _ _ _, (Below.refl _ _).alloc (Nat.le_refl _) _, by simp [Hid]⟩
  case round =>
    obtain ⟨k, s, hk, rfl, hs, hblk, hbel, HS⟩ := hrel
    by_cases hlt : k < xs.length
    · obtain ⟨x, hx1⟩ := nat_of (fun y hy => (hx y hy).1) hlt
      have HX := Lib.hid hx1
      obtain ⟨b, off, rfl, hb, hcell⟩ := (h.below hbel).at_ (ints_at hx1)
      clear hx1 h hx
      rcases hsp : spot s (xs.length + 1) x with _ | j
      · rcases hsp0 : spot s (xs.length + 1) 0 with _ | j0
        · have hst : circStep (xs.length + 1) s (x : Int) = s := by simp [circStep, hsp, hsp0]
          have HSP := Lib.hid hsp
          have HSP0 := Lib.hid hsp0
          clear hsp hsp0
          go_wp2_with fail
          refine (park_miss w.heap.size x (xs.length + 1) (by omega) s hs _ hblk HSP.out).mono ?_
          rintro e w' ⟨rfl, rfl⟩
          go_wp2_with fail
          refine (park_miss w.heap.size 0 (xs.length + 1) (by omega) s hs _ hblk HSP0.out).mono ?_
          rintro e w' ⟨rfl, rfl⟩
          go_wp2
          go_roundw
          case rel => exact ⟨k + 1, s, by omega, by go_num, hs, hblk, hbel, by rw [Hid, circ_take HX.out, ← HS.out, hst]⟩
          case measure => simp [intOf]; omega
        · have hst : circStep (xs.length + 1) s (x : Int) = s.set j0 true := by simp [circStep, hsp, hsp0]
          have HSP := Lib.hid hsp
          have HSP0 := Lib.hid hsp0
          clear hsp hsp0
          go_wp2_with fail
          refine (park_miss w.heap.size x (xs.length + 1) (by omega) s hs _ hblk HSP.out).mono ?_
          rintro e w' ⟨rfl, rfl⟩
          go_wp2_with fail
          refine (park_hit w.heap.size 0 (xs.length + 1) j0 (by omega) s hs _ hblk HSP0.out).mono ?_
          rintro e w' ⟨rfl, rfl⟩
          go_wp2
          go_roundw
          case rel => exact ⟨k + 1, s.set j0 true, by omega, by go_num, by simpa using hs, by rw [← bools_set]; exact hblk.set_ _ _, hbel.setCell (p := ⟨w.heap.size, j0, none⟩) (Nat.le_refl _) _, by rw [Hid, circ_take HX.out, ← HS.out, hst]⟩
          case measure => simp [intOf]; omega
      · have hst : circStep (xs.length + 1) s (x : Int) = s.set j true := by simp [circStep, hsp]
        have HSP := Lib.hid hsp
        clear hsp
        go_wp2_with fail
        refine (park_hit w.heap.size x (xs.length + 1) j (by omega) s hs _ hblk HSP.out).mono ?_
        rintro e w' ⟨rfl, rfl⟩
        go_wp2
        go_roundw
        case rel => exact ⟨k + 1, s.set j true, by omega, by go_num, by simpa using hs, by rw [← bools_set]; exact hblk.set_ _ _, hbel.setCell (p := ⟨w.heap.size, j, none⟩) (Nat.le_refl _) _, by rw [Hid, circ_take HX.out, ← HS.out, hst]⟩
        case measure => simp [intOf]; omega
    · have hkn : k = xs.length := by omega
      have hcs : s = circS xs := by rw [HS.out, hkn, List.take_length]; rfl
      have hlen : (s.take (xs.length + 1)).length = xs.length + 1 := by simp; omega
      have hrd : Reads wr wr.heap.size 1 (some ⟨w.heap.size, 0, none⟩) (xs.length + 1) (boolCells (s.take (xs.length + 1))) := by
        refine ⟨by simp [boolCells]; omega, fun _ => ⟨w.heap.size, 0, rfl, hblk.lt, fun j u hu => ?_⟩⟩
        rw [Nat.zero_add, hblk.cell j]
        simp only [boolCells, List.getElem?_map, List.getElem?_take] at hu
        simp only [bools, List.getElem?_toArray, List.getElem?_map]
        split at hu
        · exact hu
        · simp at hu
      have hidx := indexb_any (some ⟨w.heap.size, 0, none⟩) 13 (s.take (xs.length + 1)) wr (by simp; omega) (by rw [hlen]; exact hrd)
      rw [hlen, spot_take] at hidx
      have hf : -1 ≤ spotInt (spot s (xs.length + 1) 0) ∧ spotInt (spot s (xs.length + 1) 0) ≤ xs.length := by
        rcases hsp : spot s (xs.length + 1) 0 with _ | j
        · simp [spotInt]
        · have := spot_lt hsp; simp [spotInt]; omega
      obtain ⟨f, hfe⟩ : ∃ f, spotInt (spot s (xs.length + 1) 0) = f := ⟨_, rfl⟩
      rw [hfe] at hidx hf
      have HI := Lib.hid hidx
      rw [hcs] at hfe
      have HFE := Lib.hid hfe
      clear hidx hkn hlen hrd h hcs hfe
      obtain ⟨hf1, hf2⟩ := hf
      have hsl := slice_street w.heap.size xs.length (by omega)
      go_wp2_with (go_at_call 59; refine (HI.out).mono ?_; rintro e w' ⟨rfl, rfl⟩)
      go_ret2
      exact ⟨by rw [HFE.out]; rfl, hbel⟩

set_option maxHeartbeats 400000 in
theorem rotation_bad (A : Option Addr) (c : Nat) (xs : List Int) (hbad : (withinS xs 1 != 0) = true) (w : World) (h : Reads w w.heap.size 1 A xs.length (ints xs)) :
    Calls Try.prog 31 #[.slice A xs.length c] w fun e w' => e = .returned (.tuple #[.int .i64 0, .int .i64 (withinS xs 1)]) ∧ w = w' := by
  go_enter Try.func31, Try.ntmps31
  go_wp2_with (go_at_call 57; refine (within_any A c xs 1 (by omega) (by omega) _ h).mono ?_; rintro e w' ⟨rfl, rfl⟩)
  go_ret2
  exact ⟨rfl, rfl⟩
theorem rotation_any (A : Option Addr) (c : Nat) (xs : List Int) (w : World) (h : Reads w w.heap.size 1 A xs.length (ints xs)) :
    Calls Try.prog 31 #[.slice A xs.length c] w fun e w' => e = .returned (.tuple #[.int .i64 (rotS xs).1, .int .i64 (rotS xs).2]) ∧ Below w.heap.size w w' := by
  by_cases hok : withinS xs 1 = 0
  · have e : rotS xs = (((xs.length : Int) - spotInt (spot (circS xs) (xs.length + 1) 0)) % ((xs.length : Int) + 1), 0) := by simp [rotS, hok]
    rw [e]
    exact rotation_ok A c xs hok w h
  · have e : rotS xs = (0, withinS xs 1) := by simp [rotS, hok]
    rw [e]
    exact (rotation_bad A c xs (by simpa using hok) w h).mono fun _ _ ⟨h1, h2⟩ => ⟨h1, h2 ▸ Below.refl _ _⟩

set_option maxHeartbeats 800000 in
/-- The reference's equality of lists: it draws, and does nothing else. -/
theorem rsame_any (A : Option Addr) (c : Nat) (xs : List Int) (B : Option Addr) (d : Nat) (ys : List Int) (hn : xs.length ≤ 1048576) (w : World) (b0 : Nat) (h : Reads w b0 1 A xs.length (ints xs)) (h' : Reads w b0 1 B ys.length (ints ys)) :
    Calls Try.prog 52 #[.slice A xs.length c, .slice B ys.length d] w fun e w' => e = .returned (.bool (decide (xs = ys))) ∧ ∃ m, w' = w.drewN m := by
  by_cases hl : xs.length = ys.length
  · have HL := Lib.hid hl
    have hb : ((xs.length : Int) != (ys.length : Int)) = false := by simp; omega
    clear hl
    go_enter Try.func52, Try.ntmps52
    go_wp2
    clear hb
    go_loopw [5] (fun i wr => ∃ k : Nat, k ≤ xs.length ∧ i = .int .i64 k ∧ Hid (∃ m, wr = w.drewN m) ∧ Hid (xs.take k = ys.take k)) (fun i _ => xs.length - (intOf i).toNat)
    case atStart => exact ⟨0, by omega, rfl, ⟨0, rfl⟩, by simp [Hid]⟩
    case round =>
      obtain ⟨k, hk, rfl, HM, HS⟩ := hrel
      have hrd : Reads wr b0 1 A xs.length (ints xs) := by obtain ⟨m, e⟩ := HM.out; rw [e]; exact h
      have hrd' : Reads wr b0 1 B ys.length (ints ys) := by obtain ⟨m, e⟩ := HM.out; rw [e]; exact h'
      by_cases hlt : k < xs.length
      · obtain ⟨x, hx⟩ := get_of_lt hlt
        obtain ⟨y, hy⟩ := get_of_lt (xs := ys) (k := k) (by have := HL.out; omega)
        have HX := Lib.hid hx
        have HY := Lib.hid hy
        obtain ⟨b, off, rfl, hb, hcell⟩ := hrd.at_ (ints_at hx)
        obtain ⟨b', off', rfl, hb', hcell'⟩ := hrd'.at_ (ints_at hy)
        have hi : (k : Int) < (xs.length : Int) := by omega
        have hi' : (k : Int) < (ys.length : Int) := by have := HL.out; omega
        clear hx hy h h' hrd hrd'
        by_cases hxy : x = y
        · subst hxy
          go_wp2
          go_quiet (fail)
          go_wp2
          go_roundw
          case rel => exact ⟨k + 1, by omega, by go_num, by obtain ⟨m, e⟩ := HM.out; exact ⟨m + nq, by rw [e, World.drewN_drewN]⟩, by rw [Hid, take_snoc HX.out, take_snoc HY.out, HS.out]⟩
          case measure => simp [intOf]; omega
        · have hbx : (x != y) = true := by simpa using hxy
          go_wp2
          go_quiet (fail)
          go_wp2
          go_ret
          refine ⟨ret_bool ?_, by obtain ⟨m, e⟩ := HM.out; exact ⟨m + nq, by rw [e, World.drewN_drewN]⟩⟩
          have : ¬ xs = ys := fun e => hxy (by have h1 := HX.out; rw [e, HY.out] at h1; injection h1 with h1; exact h1.symm)
          simp [this]
      · go_wp2
        go_ret
        refine ⟨ret_bool ?_, HM.out⟩
        have e : xs = ys := by have h1 := HS.out; rw [show k = xs.length from by omega, List.take_length, HL.out, List.take_length] at h1; exact h1
        simp [e]
  · have hb : ((xs.length : Int) != (ys.length : Int)) = true := by simp; omega
    go_enter Try.func52, Try.ntmps52
    go_wp2
    go_ret
    have : ¬ xs = ys := fun e => hl (by rw [e])
    exact ⟨ret_bool (by simp [this]), 0, rfl⟩

set_option maxHeartbeats 800000 in
theorem rsamelists_any (A : Option Addr) (c : Nat) (xs : List (List Int)) (B : Option Addr) (d : Nat) (ys : List (List Int)) (hn : xs.length ≤ 1048576) (hx1 : ∀ x ∈ xs, x.length ≤ 1048576) (w : World) (b0 : Nat) (h : RowsR w b0 A xs) (h' : RowsR w b0 B ys) :
    Calls Try.prog 22 #[.slice A xs.length c, .slice B ys.length d] w fun e w' => e = .returned (.bool (decide (xs = ys))) ∧ ∃ m, w' = w.drewN m := by
  by_cases hl : xs.length = ys.length
  · have HL := Lib.hid hl
    have hb : ((xs.length : Int) != (ys.length : Int)) = false := by simp; omega
    clear hl
    go_enter Try.func22, Try.ntmps22
    go_wp2
    clear hb
    go_loopw [5] (fun i wr => ∃ k : Nat, k ≤ xs.length ∧ i = .int .i64 k ∧ Hid (∃ m, wr = w.drewN m) ∧ Hid (xs.take k = ys.take k)) (fun i _ => xs.length - (intOf i).toNat)
    case atStart => exact ⟨0, by omega, rfl, ⟨0, rfl⟩, by simp [Hid]⟩
    case round =>
      obtain ⟨k, hk, rfl, HM, HS⟩ := hrel
      have hrd : RowsR wr b0 A xs := by obtain ⟨m, e⟩ := HM.out; rw [e]; exact h
      have hrd' : RowsR wr b0 B ys := by obtain ⟨m, e⟩ := HM.out; rw [e]; exact h'
      by_cases hlt : k < xs.length
      · obtain ⟨x, hx⟩ := get_of_lt hlt
        obtain ⟨y, hy⟩ := get_of_lt (xs := ys) (k := k) (by have := HL.out; omega)
        have HX := Lib.hid hx
        have HY := Lib.hid hy
        obtain ⟨b, off, A1, c1, rfl, hb, hcell, hr1⟩ := hrd.at_ hx
        obtain ⟨b', off', A2, c2, rfl, hb', hcell', hr2⟩ := hrd'.at_ hy
        have hi : (k : Int) < (xs.length : Int) := by omega
        have hi' : (k : Int) < (ys.length : Int) := by have := HL.out; omega
        have hsame := fun nq => rsame_any A1 c1 x A2 c2 y (hx1 x (List.mem_of_getElem? hx)) (wr.drewN nq) b0 hr1 hr2
        clear hx hy h h' hrd hrd' hx1
        by_cases hxy : x = y
        · have hd : decide (x = y) = true := by simpa using hxy
          rw [hd] at hsame
          have HSM := Lib.hid hsame
          have HXY := Lib.hid hxy
          clear hsame hd hxy
          go_wp2
          go_quiet ((go_at_call 52; exact Calls.quiet_of (HSM.out _)))
          go_wp2
          go_roundw
          case rel => exact ⟨k + 1, by omega, by go_num, by obtain ⟨m, e⟩ := HM.out; exact ⟨m + nq, by rw [e, World.drewN_drewN]⟩, by rw [Hid, take_snoc HX.out, take_snoc HY.out, HS.out, HXY.out]⟩
          case measure => simp [intOf]; omega
        · have hd : decide (x = y) = false := by simpa using hxy
          rw [hd] at hsame
          have HSM := Lib.hid hsame
          clear hsame hd
          go_wp2
          go_quiet ((go_at_call 52; exact Calls.quiet_of (HSM.out _)))
          go_wp2
          go_ret
          refine ⟨ret_bool ?_, by obtain ⟨m, e⟩ := HM.out; exact ⟨m + nq, by rw [e, World.drewN_drewN]⟩⟩
          have : ¬ xs = ys := fun e => hxy (by have h1 := HX.out; rw [e, HY.out] at h1; injection h1 with h1; exact h1.symm)
          simp [this]
      · go_wp2
        go_ret
        refine ⟨ret_bool ?_, HM.out⟩
        have e : xs = ys := by have h1 := HS.out; rw [show k = xs.length from by omega, List.take_length, HL.out, List.take_length] at h1; exact h1
        simp [e]
  · have hb : ((xs.length : Int) != (ys.length : Int)) = true := by simp; omega
    go_enter Try.func22, Try.ntmps22
    go_wp2
    go_ret
    have : ¬ xs = ys := fun e => hl (by rw [e])
    exact ⟨ret_bool (by simp [this]), 0, rfl⟩
end Go.Proofs.Ytjeggocindcgaaa
