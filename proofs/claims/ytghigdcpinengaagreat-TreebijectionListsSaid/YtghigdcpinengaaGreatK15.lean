/-
  Texts of this claim, put together: Sort, SrtI, SortO, TreeS.
-/
import Derived.Test.YtghigdcpinengaaGreatK03
import Derived.Deep.QuietTactic
import Derived.BigQuiet
import Derived.Test.YtghigdcpinengaaGreatK02
import Derived.Test.YtghigdcpinengaaGreatK12
/-! slices.Sort on at most 12 ints of the call's own: they come out ascending. -/
namespace Go.Proofs.YtghigdcpinengaaGreat
open Go.RowKit

set_option maxHeartbeats 400000 in
theorem less_any (x y : Int) (w : World) : Calls Tryz.prog 176 #[.int .i64 x, .int .i64 y] w fun e w' => e = .returned (.bool (decide (x < y))) ∧ w = w' := by
  by_cases h : x < y
  · have hd : decide (x < y) = true := decide_eq_true h
    rw [hd]
    go_enter Tryz.func176, Tryz.ntmps176
    go_wp2
    go_ret
    exact ⟨ret_bool (by simp), rfl⟩
  · have hd : decide (x < y) = false := decide_eq_false h
    rw [hd]
    go_enter Tryz.func176, Tryz.ntmps176
    go_wp2
    go_ret
    exact ⟨ret_bool (by simp), rfl⟩

theorem lessq_any (x y : Int) (w : World) : Calls Tryz.prog 176 #[.int .i64 x, .int .i64 y] w fun e w' => e = .returned (.bool (decide (x < y))) ∧ ∃ m, w' = w.drewN m :=
  (less_any x y w).mono fun _ _ ⟨he, hw⟩ => ⟨he, 0, hw.symm⟩

/-- All pairs up to i are in order, but for those whose second one is j. -/
def Srt (L : List Int) (i j : Nat) : Prop := ∀ p q, p < q → q ≤ i → q ≠ j → ∀ x y, L[p]? = some x → L[q]? = some y → x ≤ y
def swapL (L : List Int) (m : Nat) (a b : Int) : List Int := (L.set (m + 1) a).set m b
theorem swapL_perm {L : List Int} {m : Nat} {a b : Int} (ha : L[m]? = some a) (hb : L[m + 1]? = some b) : (swapL L m a b).Perm L := by
  obtain ⟨l1, e1⟩ := List.getElem?_eq_some_iff.1 ha
  obtain ⟨l2, e2⟩ := List.getElem?_eq_some_iff.1 hb
  have h : ((L.set (m + 1) L[m]).set m L[m + 1]).Perm L := List.set_set_perm l2 l1
  rw [e1, e2] at h
  exact h
theorem swapL_get {L : List Int} {m : Nat} {a b : Int} (h : m + 1 < L.length) (q : Nat) : (swapL L m a b)[q]? = if q = m then some b else if q = m + 1 then some a else L[q]? := by
  unfold swapL
  by_cases h1 : q = m
  · subst h1; rw [if_pos rfl, List.getElem?_set_self (by rw [List.length_set]; omega)]
  · rw [if_neg h1, List.getElem?_set_ne (fun e => h1 e.symm)]
    by_cases h2 : q = m + 1
    · subst h2; rw [if_pos rfl, List.getElem?_set_self h]
    · rw [if_neg h2, List.getElem?_set_ne (fun e => h2 e.symm)]
theorem Srt.swap {L : List Int} {i m : Nat} {a b : Int} (hs : Srt L i (m + 1)) (ha : L[m]? = some a) (hb : L[m + 1]? = some b) (hab : b < a) : Srt (swapL L m a b) i m := by
  have hl : m + 1 < L.length := (List.getElem?_eq_some_iff.1 hb).1
  intro p q hpq hq hqm x y hx hy
  rw [swapL_get hl] at hx hy
  rw [if_neg hqm] at hy
  by_cases h2 : q = m + 1
  · rw [if_pos h2] at hy
    injection hy with hy
    subst hy
    by_cases h3 : p = m
    · rw [if_pos h3] at hx; injection hx with hx; omega
    · rw [if_neg h3, if_neg (by omega)] at hx
      exact hs p m (by omega) (by omega) (by omega) x a hx ha
  · rw [if_neg h2] at hy
    by_cases h3 : p = m
    · rw [if_pos h3] at hx; injection hx with hx; subst hx
      exact hs (m + 1) q (by omega) hq h2 b y hb hy
    · rw [if_neg h3] at hx
      by_cases h4 : p = m + 1
      · rw [if_pos h4] at hx; injection hx with hx; subst hx
        exact hs m q (by omega) hq h2 a y ha hy
      · rw [if_neg h4] at hx
        exact hs p q hpq hq h2 x y hx hy
theorem Srt.done {L : List Int} {i m : Nat} {a b : Int} (hs : Srt L i (m + 1)) (_hi : m + 1 ≤ i) (ha : L[m]? = some a) (hb : L[m + 1]? = some b) (hab : a ≤ b) : Srt L i (i + 1) := by
  intro p q hpq hq _ x y hx hy
  by_cases h2 : q = m + 1
  · subst h2
    rw [hb] at hy; injection hy with hy; subst hy
    by_cases h3 : p = m
    · subst h3; rw [ha] at hx; injection hx with hx; omega
    · have := hs p m (by omega) (by omega) (by omega) x a hx ha; omega
  · exact hs p q hpq hq h2 x y hx hy
theorem Srt.zero {L : List Int} {i : Nat} (hs : Srt L i 0) : Srt L i (i + 1) := fun p q hpq hq _ x y hx hy => hs p q hpq hq (by omega) x y hx hy
theorem Srt.next {L : List Int} {i : Nat} (hs : Srt L i (i + 1)) : Srt L (i + 1) (i + 1) := fun p q hpq hq hne x y hx hy => hs p q hpq (by omega) hne x y hx hy

set_option maxRecDepth 100000 in
theorem bitsLen_any (n : Nat) (hn : n ≤ 12) (w : World) : Calls Tryz.prog 160 #[.int .u64 n] w fun e w' => (∃ v : Int, e = .returned (.int .i64 v)) ∧ w = w' := by
  have hc : n = 0 ∨ n = 1 ∨ n = 2 ∨ n = 3 ∨ n = 4 ∨ n = 5 ∨ n = 6 ∨ n = 7 ∨ n = 8 ∨ n = 9 ∨ n = 10 ∨ n = 11 ∨ n = 12 := by omega
  rcases hc with rfl | rfl | rfl | rfl | rfl | rfl | rfl | rfl | rfl | rfl | rfl | rfl | rfl
  all_goals (
    go_enter Tryz.func160, Tryz.ntmps160
    go_wp2
    go_ret
    exact ⟨⟨_, rfl⟩, rfl⟩)

end Go.Proofs.YtghigdcpinengaaGreat

/-! slices.Sort in the words of sortG. -/
namespace Go.Proofs.YtghigdcpinengaaGreat
open Go.RowKit

theorem srt_eq {ys xs : List Int} (hp : ys.Perm xs) (hs : Srt ys (ys.length - 1) ys.length) : ys = sortG ltI xs := by
  refine (sortI_eq hp.symm ?_).symm
  rw [List.pairwise_iff_getElem]
  intro i j hi hj hij
  exact hs i j hij (by omega) (by omega) _ _ (List.getElem?_eq_getElem hi) (List.getElem?_eq_getElem hj)
end Go.Proofs.YtghigdcpinengaaGreat

/-! slices.Sort on at most 12 ints of the call's own, none of them too: they come out ascending, and only their block turns. -/
namespace Go.Proofs.YtghigdcpinengaaGreat
open Go.RowKit

set_option maxRecDepth 100000 in
set_option maxHeartbeats 2000000 in
theorem insertionO_any (A : Option Addr) (c : Nat) (xs : List Int) (h1 : 1 ≤ xs.length) (hn : xs.length ≤ 1048576) (w : World) (base : Nat) (h : OwnI w base A c xs) :
    Calls Tryz.prog 170 #[.slice A xs.length c, .int .i64 0, .int .i64 xs.length] w fun e w' => e = .returned (.tuple #[]) ∧ ∃ ys, ys.Perm xs ∧ Srt ys (ys.length - 1) ys.length ∧ OwnI w' base A c ys ∧ Only (blockOf A) w w' := by
  obtain ⟨g, hA, hg, hf, hcell⟩ := h.block (by omega)
  subst hA
  clear hf hcell
  go_enter Tryz.func170, Tryz.ntmps170
  go_wp2
  go_loopw [6] (fun i wr => ∃ (k : Nat) (L : List Int), i = .int .i64 ((k : Int) + 1) ∧ k + 1 ≤ xs.length ∧ L.length = xs.length ∧ Hid (L.Perm xs) ∧ Hid (Srt L k (k + 1)) ∧ OwnI wr base (some ⟨g, 0, none⟩) c L ∧ Only (blockOf (some ⟨g, 0, none⟩)) w wr) (fun i _ => xs.length - (intOf i).toNat)
  case atStart => exact ⟨0, xs, by go_num, by omega, rfl, List.Perm.refl _, fun p q h1 h2 => by omega, h, Only.refl _ _⟩
  case round =>
    obtain ⟨k, L, rfl, hk, hL, HP, HS, hown, hbel⟩ := hrel
    by_cases hlt : k + 1 < xs.length
    · have hi : (k : Int) + 1 < (xs.length : Int) := by omega
      obtain ⟨wo, rfl⟩ : ∃ wo : World, wo = wr := ⟨_, rfl⟩
      go_wp2
      go_loopw [7] (fun i wr => ∃ (j : Nat) (L : List Int), i = .int .i64 j ∧ j ≤ k + 1 ∧ L.length = xs.length ∧ Hid (L.Perm xs) ∧ Hid (Srt L (k + 1) j) ∧ OwnI wr base (some ⟨g, 0, none⟩) c L ∧ Only (blockOf (some ⟨g, 0, none⟩)) w wr) (fun i _ => (intOf i).toNat)
      case atStart => exact ⟨k + 1, L, by go_num, by omega, hL, HP, HS.out.next, hown, hbel⟩
      case round =>
        clear hL HP HS hown hbel
        obtain ⟨j, L, rfl, hj, hL, HP, HS, hown, hbel⟩ := hrel
        rcases j with _ | m
        · go_wp2
          go_quiet (fail)
          go_wp2
          go_roundw
          case rel => exact ⟨k + 1, L, by go_num, by omega, hL, HP, HS.out.zero, hown.drewN _, hbel.drewN _⟩
          case measure => simp [intOf]; omega
        · obtain ⟨a, ha⟩ := get_of_lt (xs := L) (k := m) (by omega)
          obtain ⟨b, hb⟩ := get_of_lt (xs := L) (k := m + 1) (by omega)
          obtain ⟨g', hA, _, hfz, hcell⟩ := hown.block (by omega)
          have hgg : g = g' := by injection hA with hA; injection hA
          subst hgg
          have c1 := hcell m a ha
          have c2 := hcell (m + 1) b hb
          have i1 : (m : Int) < (xs.length : Int) := by omega
          have i2 : (m : Int) + 1 < (xs.length : Int) := by omega
          have i3 : (0 : Int) < (m : Int) + 1 := by omega
          have i4 : (0 : Int) ≤ (m : Int) := by omega
          have HA := Lib.hid ha
          have HB := Lib.hid hb
          have HL := Lib.hid (lessq_any b a)
          clear ha hb hA hcell
          by_cases hab : b < a
          · have hd : decide (b < a) = true := decide_eq_true hab
            have HAB := Lib.hid hab
            go_wp2
            go_quiet ((go_at_call 176; exact Calls.quiet_of (HL.out _)))
            go_wp2
            go_region
            all_goals (
              go_wp2
              go_roundw
              case rel => exact ⟨m, swapL L m a b, by go_num, by omega, by simp [swapL]; omega, (swapL_perm HA.out HB.out).trans HP.out, HS.out.swap HA.out HB.out HAB.out, ((hown.drewN _).set rfl (m + 1) a).set rfl m b, ((hbel.drewN _).setCell (p := ⟨g, m + 1, none⟩) (.inl ⟨_, rfl, rfl⟩) _).setCell (p := ⟨g, m, none⟩) (.inl ⟨_, rfl, rfl⟩) _⟩
              case measure => simp [intOf])
          · have hd : decide (b < a) = false := decide_eq_false hab
            have HNAB : Hid (a ≤ b) := Lib.hid (by omega)
            clear hab
            go_wp2
            go_quiet ((go_at_call 176; exact Calls.quiet_of (HL.out _)))
            go_wp2
            go_roundw
            case rel => exact ⟨k + 1, L, by go_num, by omega, hL, HP, HS.out.done (by omega) HA.out HB.out HNAB.out, hown.drewN _, hbel.drewN _⟩
            case measure => simp [intOf]; omega
    · have hi : ¬ (k : Int) + 1 < (xs.length : Int) := by omega
      go_wp2
      go_end0
      have hkk : k = L.length - 1 := by omega
      refine ⟨rfl, L, HP.out, ?_, hown, hbel⟩
      have := HS.out
      rw [show k + 1 = L.length from by omega, hkk] at this
      exact this

set_option maxHeartbeats 1000000 in
theorem pdqO_any (A : Option Addr) (c : Nat) (xs : List Int) (lim : Int) (h1 : 1 ≤ xs.length) (hn : xs.length ≤ 12) (w : World) (base : Nat) (h : OwnI w base A c xs) :
    Calls Tryz.prog 159 #[.slice A xs.length c, .int .i64 0, .int .i64 xs.length, .int .i64 lim] w fun e w' => e = .returned (.tuple #[]) ∧ ∃ ys, ys.Perm xs ∧ Srt ys (ys.length - 1) ys.length ∧ OwnI w' base A c ys ∧ Only (blockOf A) w w' := by
  have HI := Lib.hid (insertionO_any A c xs h1 (by omega) w base h)
  have h12 : (xs.length : Int) ≤ 12 := by omega
  go_enter Tryz.func159, Tryz.ntmps159
  go_wp2
  go_loopw [1, 2] (fun a b wr => a = .int .i64 0 ∧ b = .int .i64 xs.length ∧ wr = w) (fun _ _ _ => 0)
  case atStart => exact ⟨rfl, rfl, rfl⟩
  case round =>
    obtain ⟨rfl, rfl, rfl⟩ := hrel
    go_wp2_with (go_at_call 170; refine (HI.out).mono ?_; rintro e w1 ⟨rfl, ys, h1, h2, h3, h4⟩)
    refine bodyPost_ret (results_none rfl _ _ _) rfl ?_
    exact ⟨rfl, ys, h1, h2, h3, h4⟩

set_option maxHeartbeats 1000000 in
theorem sortO_any (A : Option Addr) (c : Nat) (xs : List Int) (h1 : 1 ≤ xs.length) (hn : xs.length ≤ 12) (w : World) (base : Nat) (h : OwnI w base A c xs) :
    Calls Tryz.prog 142 #[.slice A xs.length c] w fun e w' => e = .returned (.tuple #[]) ∧ ∃ ys, ys.Perm xs ∧ Srt ys (ys.length - 1) ys.length ∧ OwnI w' base A c ys ∧ Only (blockOf A) w w' := by
  have HB := Lib.hid (bitsLen_any xs.length hn w)
  have HP := Lib.hid (fun lim => pdqO_any A c xs lim h1 hn w base h)
  have hw0 : (0 : Int) ≤ (xs.length : Int) := by omega
  have hw1 : (xs.length : Int) < 18446744073709551616 := by omega
  clear h
  go_enter Tryz.func142, Tryz.ntmps142
  go_wp2_with first
    | (go_at_call 160; refine (HB.out).mono ?_; rintro e w1 ⟨⟨v, rfl⟩, rfl⟩)
    | (go_at_call 159; refine (HP.out _).mono ?_; rintro e w1 ⟨rfl, ys, h1, h2, h3, h4⟩)
  go_end0
  exact ⟨rfl, ys, h1, h2, h3, h4⟩


set_option maxHeartbeats 1000000 in
theorem sort_nil (A : Option Addr) (c : Nat) (w : World) : Calls Tryz.prog 142 #[.slice A 0 c] w fun e w' => e = .returned (.tuple #[]) ∧ w = w' := by
  have HB := Lib.hid (bitsLen_any 0 (by omega) w)
  have HP : Hid (∀ lim, Calls Tryz.prog 159 #[.slice A 0 c, .int .i64 0, .int .i64 0, .int .i64 lim] w fun e w' => e = .returned (.tuple #[]) ∧ w = w') := by
    intro lim
    have HI : Hid (Calls Tryz.prog 170 #[.slice A 0 c, .int .i64 0, .int .i64 0] w fun e w' => e = .returned (.tuple #[]) ∧ w = w') := by
      go_enter Tryz.func170, Tryz.ntmps170
      go_wp2
      go_loopw [6] (fun i wr => i = .int .i64 1 ∧ wr = w) (fun _ _ => 0)
      case atStart => exact ⟨rfl, rfl⟩
      case round =>
        obtain ⟨rfl, rfl⟩ := hrel
        go_wp2
        go_end0
        exact ⟨rfl, rfl⟩
    go_enter Tryz.func159, Tryz.ntmps159
    go_wp2
    go_loopw [1, 2] (fun a b wr => a = .int .i64 0 ∧ b = .int .i64 0 ∧ wr = w) (fun _ _ _ => 0)
    case atStart => exact ⟨rfl, rfl, rfl⟩
    case round =>
      obtain ⟨rfl, rfl, rfl⟩ := hrel
      go_wp2_with (go_at_call 170; refine (HI.out).mono ?_; rintro e w1 ⟨rfl, rfl⟩)
      refine bodyPost_ret (results_none rfl _ _ _) rfl ?_
      exact ⟨rfl, rfl⟩
  go_enter Tryz.func142, Tryz.ntmps142
  go_wp2_with first
    | (go_at_call 160; refine (HB.out).mono ?_; rintro e w1 ⟨⟨v, rfl⟩, rfl⟩)
    | (go_at_call 159; refine (HP.out _).mono ?_; rintro e w1 ⟨rfl, rfl⟩)
  go_end0
  exact ⟨rfl, rfl⟩
theorem sortS_any (A : Option Addr) (c : Nat) (xs : List Int) (hn : xs.length ≤ 12) (w : World) (base : Nat) (h : OwnI w base A c xs) :
    Calls Tryz.prog 142 #[.slice A xs.length c] w fun e w' => e = .returned (.tuple #[]) ∧ OwnI w' base A c (sortG ltI xs) ∧ Only (blockOf A) w w' := by
  rcases Nat.eq_zero_or_pos xs.length with h0 | h0
  · obtain rfl := List.eq_nil_of_length_eq_zero h0
    refine (sort_nil A c w).mono ?_
    rintro e w' ⟨rfl, rfl⟩
    exact ⟨rfl, h, Only.refl _ _⟩
  · refine (sortO_any A c xs h0 hn w base h).mono ?_
    rintro e w' ⟨rfl, ys, h1, h2, h3, h4⟩
    rw [srt_eq h1 h2] at h3
    exact ⟨rfl, h3, h4⟩
end Go.Proofs.YtghigdcpinengaaGreat

/-! Plain laws of paths in spanning trees: the parents found by rounds, a search in depth, and the cycle of a single edge. No program is in sight. -/
namespace Go.Proofs.YtghigdcpinengaaGreat

section
variable {E : List (Nat × Nat)} {t : List Nat} {n e f a b v w r : Nat}

/-! The parents, by rounds. -/
/-! The search in depth: behind 'from' (a single edge, or none). -/
/-! The cycle of a single edge. -/
end
end Go.Proofs.YtghigdcpinengaaGreat

