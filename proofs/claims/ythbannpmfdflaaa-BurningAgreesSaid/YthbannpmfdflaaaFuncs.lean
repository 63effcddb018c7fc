/-
  slices.IndexFunc and ContainsFunc on ints, with a function that has captured one variable.
-/
import Derived.Test.YthbannpmfdflaaaOwn
import Derived.WalkKit
namespace Go.Proofs.Ythbannpmfdflaaa
open Go.RowKit

set_option maxHeartbeats 1000000 in
theorem indexf_any (F : Nat) (y : Value) (eg : ∀ args w, (callFunc F args).run Try.prog w = .ok (.enter F args) w) (p : Int → Bool) (A : Option Addr) (c : Nat) (xs : List Int) (hn : xs.length ≤ 1048576) (w : World) (h : Reads w w.heap.size 1 A xs.length (ints xs))
    (hp : ∀ x ∈ xs, ∀ m, Calls Try.prog F #[.int .i64 x, y] (w.drewN m) fun e w' => e = .returned (.bool (p x)) ∧ ∃ m', w' = w.drewN m') :
    Calls Try.prog 74 #[.slice A xs.length c, .func (.func F) #[] #[y]] w fun e w' => ∃ r : Int, e = .returned (.int .i64 r) ∧ Hid (0 ≤ r ↔ ∃ x ∈ xs, p x = true) ∧ ∃ m, w' = w.drewN m := by
  have HP := Lib.hid hp
  clear hp
  go_enter Try.func74, Try.ntmps74
  go_wp2
  go_loopw [8] (fun i wr => ∃ k : Nat, k ≤ xs.length ∧ i = .int .i64 k ∧ Hid (∀ x ∈ xs.take k, p x = false) ∧ Hid (∃ m, wr = w.drewN m)) (fun i _ => xs.length - (intOf i).toNat)
  case atStart => exact ⟨0, by omega, rfl, by simp [Hid], ⟨0, rfl⟩⟩
  case round =>
    obtain ⟨k, hk, rfl, HS, HM⟩ := hrel
    by_cases hlt : k < xs.length
    · obtain ⟨x, hx⟩ := get_of_lt hlt
      obtain ⟨m, rfl⟩ := HM.out
      obtain ⟨b, off, rfl, hb, hcell0⟩ := h.at_ (ints_at hx)
      have hcell : (w.drewN m).cell? ⟨b, off + k, none⟩ = some (.int .i64 x) := hcell0
      have hi : (k : Int) < (xs.length : Int) := by omega
      have htk := take_snoc hx
      have PC := HP.out x (List.mem_of_getElem? hx) m
      have HX := Lib.hid hx
      cases hpx : p x
      · rw [hpx] at PC
        have PC := Lib.hid PC
        have HN : Hid (∀ x ∈ xs.take (k + 1), p x = false) := by
          rw [htk]
          intro z hz
          rcases List.mem_append.1 hz with hz | hz
          · exact HS.out z hz
          · rw [List.mem_singleton.1 hz]; exact hpx
        clear hx htk hpx hcell0 h
        go_wp2_with fail
        refine (PC.out).mono ?_
        rintro e w2 ⟨rfl, m2, rfl⟩
        go_wp2
        go_roundw
        case rel => exact ⟨k + 1, by omega, by go_num, HN, ⟨m2, rfl⟩⟩
        case measure => simp [intOf]; omega
      · rw [hpx] at PC
        have PC := Lib.hid PC
        have HT : Hid (∃ x ∈ xs, p x = true) := ⟨x, List.mem_of_getElem? hx, hpx⟩
        clear hx htk hpx hcell0 h
        go_wp2_with fail
        refine (PC.out).mono ?_
        rintro e w2 ⟨rfl, m2, rfl⟩
        go_wp2
        go_ret
        exact ⟨k, rfl, ⟨fun _ => HT.out, fun _ => by omega⟩, m2, rfl⟩
    · obtain rfl : k = xs.length := by omega
      rw [List.take_length] at HS
      go_wp2
      go_ret
      refine ⟨-1, rfl, ⟨fun h => absurd h (by decide), ?_⟩, HM.out⟩
      rintro ⟨x, hx, hp⟩
      rw [HS.out x hx] at hp; cases hp
set_option maxHeartbeats 1000000 in
theorem containsf_any (F : Nat) (y : Value) (eg : ∀ args w, (callFunc F args).run Try.prog w = .ok (.enter F args) w) (p : Int → Bool) (A : Option Addr) (c : Nat) (xs : List Int) (hn : xs.length ≤ 1048576) (w : World) (h : Reads w w.heap.size 1 A xs.length (ints xs))
    (hp : ∀ x ∈ xs, ∀ m, Calls Try.prog F #[.int .i64 x, y] (w.drewN m) fun e w' => e = .returned (.bool (p x)) ∧ ∃ m', w' = w.drewN m') :
    Calls Try.prog 22 #[.slice A xs.length c, .func (.func F) #[] #[y]] w fun e w' => e = .returned (.bool (xs.any p)) ∧ ∃ m, w' = w.drewN m := by
  have IC := Lib.hid (indexf_any F y eg p A c xs hn w h hp)
  have HA : Hid (∀ r : Int, (0 ≤ r ↔ ∃ x ∈ xs, p x = true) → decide (0 ≤ r) = xs.any p) := by
    intro r hr
    rw [Bool.eq_iff_iff, List.any_eq_true, decide_eq_true_eq]; exact hr
  clear hp h
  go_enter Try.func22, Try.ntmps22
  go_wp2_with fail
  refine (IC.out).mono ?_
  rintro e w1 ⟨r, rfl, HR, HM⟩
  go_wp2
  go_ret
  exact ⟨ret_bool (HA.out r HR.out), HM⟩
end Go.Proofs.Ythbannpmfdflaaa
