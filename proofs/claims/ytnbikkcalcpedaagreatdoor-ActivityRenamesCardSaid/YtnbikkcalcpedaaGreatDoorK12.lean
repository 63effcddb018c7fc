/-
  Texts of this claim, put together: DelF, RSort, Sort.
-/
import Derived.Test.YtnbikkcalcpedaaGreatDoorK10
import Derived.Lib.SliceRun
import Derived.WalkKit
import Derived.Test.YtnbikkcalcpedaaGreatDoorK04
import Derived.Test.YtnbikkcalcpedaaGreatDoorK03
import Derived.Deep.QuietTactic
import Derived.BigQuiet
import Derived.Deep.RegionLaw
import Derived.Deep.CutRange
import Derived.Deep.RegionHeld3
import Derived.Test.YtnbikkcalcpedaaGreatDoorK07
/-! slices.DeleteFunc on ints, with a function that has captured one variable: the row of the call's own is cut to what is kept. -/
namespace Go.Proofs.YtnbikkcalcpedaaGreatDoor
open Go.RowKit

theorem OwnI.cut {w : World} {base c g : Nat} {xs : List Int} (h : OwnI w base (some ⟨g, 0, none⟩) c xs) (k : Nat) (hk : k ≤ xs.length) : OwnI w base (some ⟨g, 0, none⟩) c (xs.take k) := by
  obtain ⟨h1, h2⟩ := h
  have e : (xs.take k).length = k := by simp; omega
  rcases h2 with ⟨h2, h3⟩ | ⟨g', cap, cur, hv, hg, hh, r1, r2, r3, r4⟩
  · simp at h2
  · injection hv with hv1 hv2 hv3
    refine ⟨by rw [ints_length]; simp, .inr ⟨g', cap, cur, by rw [hv1, hv3], hg, hh, by omega, r2, r3, ?_⟩⟩
    rw [e, Nat.mul_one]
    rw [Nat.mul_one] at r4
    have : (cur.toList.take xs.length).take k = (ints xs).take k := by rw [r4]
    rw [List.take_take, Nat.min_eq_left hk] at this
    rw [this]; simp [ints, List.map_take]
theorem OwnI.zero {base c g : Nat} {xs : List Int} : ∀ (n o : Nat) {w : World}, OwnI w base (some ⟨g, 0, none⟩) c xs → xs.length ≤ o → OwnI (w.setCells g o (List.replicate n (.int .i64 0))) base (some ⟨g, 0, none⟩) c xs
  | 0, _, _, h, _ => h
  | n + 1, o, w, h, ho => by
    rw [List.replicate_succ]
    refine OwnI.zero n (o + 1) (w := w.setCell ⟨g, o, none⟩ (.int .i64 0)) ?_ (by omega)
    have := h.put o 0
    rw [List.set_eq_of_length_le ho] at this
    exact this
theorem OwnI.cap {w : World} {base c g : Nat} {xs : List Int} (h : OwnI w base (some ⟨g, 0, none⟩) c xs) : xs.length ≤ c := by
  obtain ⟨h1, h2⟩ := h
  rcases h2 with ⟨h2, h3⟩ | ⟨g', cap, cur, hv, hg, hh, r1, r2, r3, r4⟩
  · simp at h2
  · injection hv with hv1 hv2 hv3
    omega

set_option maxHeartbeats 1000000 in
theorem indexg_any (F : Nat) (y : Value) (eg : ∀ args w, (callFunc F args).run Tryz.prog w = .ok (.enter F args) w) (p : Int → Bool) (A : Option Addr) (c : Nat) (xs : List Int) (hn : xs.length ≤ 1048576) (w : World) (h : Reads w w.heap.size 1 A xs.length (ints xs))
    (hp : ∀ x ∈ xs, ∀ m, Calls Tryz.prog F #[.int .i64 x, y] (w.drewN m) fun e w' => e = .returned (.bool (p x)) ∧ ∃ m', w' = w.drewN m') :
    Calls Tryz.prog 221 #[.slice A xs.length c, .func (.func F) #[] #[y]] w fun e w' => ∃ r : Int, e = .returned (.int .i64 r) ∧ Hid ((r = -1 ∧ ∀ x ∈ xs, p x = false) ∨ ∃ (k : Nat) (x : Int), r = (k : Int) ∧ xs[k]? = some x ∧ p x = true ∧ ∀ x ∈ xs.take k, p x = false) ∧ ∃ m, w' = w.drewN m := by
  have HP := Lib.hid hp
  clear hp
  go_enter Tryz.func221, Tryz.ntmps221
  go_wp2
  go_loopw [8] (fun i wr => ∃ k : Nat, k ≤ xs.length ∧ i = .int .i64 k ∧ Hid (∀ x ∈ xs.take k, p x = false) ∧ Hid (∃ m, wr = w.drewN m)) (fun i _ => xs.length - (intOf i).toNat)
  case atStart => exact ⟨0, by omega, rfl, by simp [Hid], ⟨0, rfl⟩⟩
  case round =>
    obtain ⟨k, hk, rfl, HS, HM⟩ := hrel
    by_cases hlt : k < xs.length
    · obtain ⟨x, hx⟩ := get_of_lt hlt
      obtain ⟨m, rfl⟩ := HM.out
      obtain ⟨b, off, rfl, hb, hcell0⟩ := h.at_ (ints_at hx)
      have hcell : (w.drewN m).cell? ⟨b, off + k, none⟩ = some (.int .i64 x) := hcell0
      have hi : (k : Int) < (xs.length : Int) := by omega
      have htk := take_snoc hx
      have PC := HP.out x (List.mem_of_getElem? hx) m
      have HX := Lib.hid hx
      cases hpx : p x
      · rw [hpx] at PC
        have PC := Lib.hid PC
        have HN : Hid (∀ x ∈ xs.take (k + 1), p x = false) := by
          rw [htk]
          intro z hz
          rcases List.mem_append.1 hz with hz | hz
          · exact HS.out z hz
          · rw [List.mem_singleton.1 hz]; exact hpx
        clear hx htk hpx hcell0 h
        go_wp2_with fail
        refine (PC.out).mono ?_
        rintro e w2 ⟨rfl, m2, rfl⟩
        go_wp2
        go_roundw
        case rel => exact ⟨k + 1, by omega, by go_num, HN, ⟨m2, rfl⟩⟩
        case measure => simp [intOf]; omega
      · rw [hpx] at PC
        have PC := Lib.hid PC
        have HT := Lib.hid hpx
        clear hx htk hpx hcell0 h
        go_wp2_with fail
        refine (PC.out).mono ?_
        rintro e w2 ⟨rfl, m2, rfl⟩
        go_wp2
        go_ret
        exact ⟨k, rfl, .inr ⟨k, x, rfl, HX.out, HT.out, HS.out⟩, m2, rfl⟩
    · obtain rfl : k = xs.length := by omega
      rw [List.take_length] at HS
      go_wp2
      go_ret
      exact ⟨-1, rfl, .inl ⟨rfl, HS.out⟩, HM.out⟩

/-- The filter's own invariant: i elements are kept out of the first j. -/
def Kept (p : Int → Bool) (xs ks : List Int) (i j : Nat) : Prop := ks.length = xs.length ∧ i < j ∧ j ≤ xs.length ∧ ks.take i = (xs.take j).filter (fun x => !p x) ∧ ∀ q, j ≤ q → ks[q]? = xs[q]?
theorem Kept.start {p : Int → Bool} {xs : List Int} {k : Nat} {x : Int} (h1 : xs[k]? = some x) (h2 : p x = true) (h3 : ∀ x ∈ xs.take k, p x = false) : Kept p xs xs k (k + 1) := by
  obtain ⟨hk, e⟩ := List.getElem?_eq_some_iff.1 h1
  refine ⟨rfl, by omega, by omega, ?_, fun _ _ => rfl⟩
  rw [take_snoc h1, List.filter_append]
  have : (xs.take k).filter (fun x => !p x) = xs.take k := List.filter_eq_self.2 fun x hx => by simp [h3 x hx]
  rw [this]; simp [h2]
theorem Kept.skip {p : Int → Bool} {xs ks : List Int} {i j : Nat} {x : Int} (h : Kept p xs ks i j) (h1 : xs[j]? = some x) (h2 : p x = true) : Kept p xs ks i (j + 1) := by
  obtain ⟨hk, e⟩ := List.getElem?_eq_some_iff.1 h1
  obtain ⟨a, b, c, d, f⟩ := h
  refine ⟨a, by omega, by omega, ?_, fun q hq => f q (by omega)⟩
  rw [take_snoc h1, List.filter_append, d]; simp [h2]
theorem Kept.keep {p : Int → Bool} {xs ks : List Int} {i j : Nat} {x : Int} (h : Kept p xs ks i j) (h1 : xs[j]? = some x) (h2 : p x = false) : Kept p xs (ks.set i x) (i + 1) (j + 1) := by
  obtain ⟨hk, e⟩ := List.getElem?_eq_some_iff.1 h1
  obtain ⟨a, b, c, d, f⟩ := h
  refine ⟨by simpa using a, by omega, by omega, ?_, fun q hq => ?_⟩
  · have hs : (ks.set i x)[i]? = some x := by rw [List.getElem?_set_self (by omega)]
    rw [take_snoc hs, List.take_set_of_le (Nat.le_refl _), d, take_snoc h1, List.filter_append]; simp [h2]
  · rw [List.getElem?_set_ne (by omega)]; exact f q (by omega)
theorem Kept.done {p : Int → Bool} {xs ks : List Int} {i : Nat} (h : Kept p xs ks i xs.length) : ks.take i = xs.filter (fun x => !p x) := by
  obtain ⟨a, b, c, d, f⟩ := h
  rw [d, List.take_length]
theorem below_zero {B g : Nat} {a : World} (hg : B ≤ g) : ∀ (n o : Nat) {w : World}, Below B a w → Below B a (w.setCells g o (List.replicate n (.int .i64 0)))
  | 0, _, _, h => h
  | n + 1, o, w, h => by
    rw [List.replicate_succ]
    exact below_zero hg n (o + 1) (w := w.setCell ⟨g, o, none⟩ (.int .i64 0)) (h.setCell hg _)

set_option maxHeartbeats 2000000 in
theorem delf_any (F : Nat) (y : Value) (eg : ∀ args w, (callFunc F args).run Tryz.prog w = .ok (.enter F args) w) (p : Int → Bool) (A : Option Addr) (c : Nat) (xs : List Int) (hn : xs.length ≤ 1048576) (base : Nat) (w : World) (h : OwnI w base A c xs)
    (hp : ∀ x ∈ xs, ∀ W, Below base w W → Calls Tryz.prog F #[.int .i64 x, y] W fun e w' => e = .returned (.bool (p x)) ∧ ∃ m', w' = W.drewN m') :
    Calls Tryz.prog 186 #[.slice A xs.length c, .func (.func F) #[] #[y]] w fun e w' => ∃ A' c', e = .returned (.slice A' (xs.filter fun x => !p x).length c') ∧ OwnI w' base A' c' (xs.filter fun x => !p x) ∧ Below base w w' := by
  have IC := Lib.hid (indexg_any F y eg p A c xs hn w h.reads (fun x hx m => (hp x hx (w.drewN m) (below_drewN (Below.refl _ _) m)).mono (by rintro e w' ⟨rfl, m', rfl⟩; exact ⟨rfl, m + m', World.drewN_drewN _ _ _⟩)))
  have HP := Lib.hid hp
  have OW := Lib.hid h
  clear hp h
  obtain ⟨fs, hfs⟩ : ∃ fs, (xs.filter fun x => !p x) = fs := ⟨_, rfl⟩
  rw [hfs]
  have HF := Lib.hid hfs
  clear hfs
  go_enter Tryz.func186, Tryz.ntmps186
  go_wp2_with fail
  refine (IC.out).mono ?_
  rintro e w1 ⟨r, rfl, HR, m, rfl⟩
  clear IC
  rcases HR.out with ⟨rfl, hall⟩ | ⟨k, x, rfl, hx, hpx, hall⟩
  · have e1 : fs = xs := by
      rw [← HF.out]; exact List.filter_eq_self.2 fun x hx => by simp [hall x hx]
    subst e1
    clear hall
    go_wp2
    go_ret
    exact ⟨A, c, rfl, OW.out.drewN m, below_drewN (Below.refl _ _) m⟩
  · have hk : k < xs.length := (List.getElem?_eq_some_iff.1 hx).1
    obtain ⟨g, rfl, hg, -, -⟩ := OW.out.block (by omega)
    have hne : ((k : Int) == -1) = false := beq_eq_false_iff_ne.2 (by omega)
    have hcap := OW.out.cap
    have HK := Lib.hid (Kept.start hx hpx hall)
    clear hx hpx hall HR
    have hw1 : IntKind.i64.wrap ((k : Int) + 1) = ((k + 1 : Nat) : Int) := by rw [IntWalk.i64_in _ (by omega)]; rfl
    go_wp2
    go_loopw [5, 6, 7] (fun a b _ wr => ∃ (i j : Nat) (ks : List Int), a = .int .i64 i ∧ b = .int .i64 j ∧ i < j ∧ j ≤ xs.length ∧ Hid (Kept p xs ks i j) ∧ Hid (OwnI wr base (some ⟨g, 0, none⟩) c ks) ∧ Hid (Below base w wr)) (fun _ b _ _ => xs.length - (intOf b).toNat)
    case atStart => exact ⟨k, k + 1, xs, rfl, by go_num, by omega, by omega, HK, OW.out.drewN m, below_drewN (Below.refl _ _) m⟩
    case round =>
      obtain ⟨i, j, ks, rfl, rfl, hij, hj, KP, OK, BK⟩ := hrel
      have hkl : ks.length = xs.length := KP.out.1
      obtain ⟨-, hgs, hfz, hcell⟩ := OK.out.at_ (by omega)
      have fi := hfz i
      by_cases hlt : j < xs.length
      · obtain ⟨x, hx⟩ := get_of_lt hlt
        obtain ⟨u, hu⟩ := get_of_lt (show i < ks.length by omega)
        have cj := hcell j x (by rw [KP.out.2.2.2.2 j (Nat.le_refl _)]; exact hx)
        have ci := hcell i u hu
        have hi : (j : Int) < (xs.length : Int) := by omega
        have PC := HP.out x (List.mem_of_getElem? hx) _ BK.out
        have HX := Lib.hid hx
        clear hx hu hcell hkl
        cases hpx : p x
        · rw [hpx] at PC
          have PC := Lib.hid PC
          have HY := Lib.hid hpx
          clear hpx hfz
          go_wp2_with fail
          refine (PC.out).mono ?_
          rintro e w2 ⟨rfl, m2, rfl⟩
          have ci : (wr.drewN m2).cell? ⟨g, i, none⟩ = some (.int .i64 u) := ci
          have fi : (wr.drewN m2).frozen? ⟨g, i, none⟩ = false := fi
          go_wp2
          go_roundw
          case rel => exact ⟨i + 1, j + 1, ks.set i x, by go_num, by go_num, by omega, by omega, KP.out.keep HX.out HY.out, (OK.out.drewN m2).put i x, (below_drewN BK.out m2).setCell hg _⟩
          case measure => simp [intOf]; omega
        · rw [hpx] at PC
          have PC := Lib.hid PC
          have HY := Lib.hid hpx
          clear hpx hfz
          go_wp2_with fail
          refine (PC.out).mono ?_
          rintro e w2 ⟨rfl, m2, rfl⟩
          go_wp2
          go_roundw
          case rel => exact ⟨i, j + 1, ks, rfl, by go_num, by omega, by omega, KP.out.skip HX.out HY.out, OK.out.drewN m2, below_drewN BK.out m2⟩
          case measure => simp [intOf]; omega
      · obtain rfl : j = xs.length := by omega
        have hltz : ¬ (xs.length : Int) < (xs.length : Int) := by omega
        have hv : ∀ w, (zeroValue 3).run Tryz.prog w = .ok (.int .i64 0) w := fun w => by kernel_rfl
        have hcl : ∀ ty, (Builtin.clear_ #[25] ty #[.slice (some ⟨g, i, none⟩) (xs.length - i) (c - i)]).run Tryz.prog wr = .ok (.tuple #[]) (wr.setCells g i (List.replicate (xs.length - i) (.int .i64 0))) :=
          fun ty => Lib.run_clear_slice wr _ _ ty _ (by kernel_rfl) hv rfl rfl g i _ _ (by omega) (fun t ht => by
            obtain ⟨u, hu⟩ := get_of_lt (show i + t < ks.length by omega)
            rw [hcell (i + t) u hu]; rfl) (fun t ht => hfz _)
        have e1 : ks.take i = fs := by rw [KP.out.done]; exact HF.out
        have e2 : fs.length = i := by rw [← e1]; simp; omega
        have OE := Lib.hid ((OwnI.zero (xs.length - i) i (OK.out.cut i (by omega)) (by simp; omega)))
        rw [e1] at OE
        have BE := Lib.hid (below_zero hg (xs.length - i) i BK.out)
        have HE := Lib.hid e2
        clear e1 e2 hcell hfz hkl hv
        go_wp2
        go_ret
        exact ⟨some ⟨g, 0, none⟩, c, (by rw [HE.out]; rfl), OE.out, BE.out⟩
end Go.Proofs.YtnbikkcalcpedaaGreatDoor

/-! ref13.Sorted: sorting by insertion. -/
namespace Go.Proofs.YtnbikkcalcpedaaGreatDoor
open Go.RowKit

end Go.Proofs.YtnbikkcalcpedaaGreatDoor

/-! slices.Sort on at most 12 ints of the call's own: they come out ascending. -/
namespace Go.Proofs.YtnbikkcalcpedaaGreatDoor
open Go.RowKit

set_option maxHeartbeats 400000 in
theorem less_any (x y : Int) (w : World) : Calls Tryz.prog 249 #[.int .i64 x, .int .i64 y] w fun e w' => e = .returned (.bool (decide (x < y))) ∧ w = w' := by
  by_cases h : x < y
  · have hd : decide (x < y) = true := decide_eq_true h
    rw [hd]
    go_enter Tryz.func249, Tryz.ntmps249
    go_wp2
    go_ret
    exact ⟨ret_bool (by simp), rfl⟩
  · have hd : decide (x < y) = false := decide_eq_false h
    rw [hd]
    go_enter Tryz.func249, Tryz.ntmps249
    go_wp2
    go_ret
    exact ⟨ret_bool (by simp), rfl⟩

theorem lessq_any (x y : Int) (w : World) : Calls Tryz.prog 249 #[.int .i64 x, .int .i64 y] w fun e w' => e = .returned (.bool (decide (x < y))) ∧ ∃ m, w' = w.drewN m :=
  (less_any x y w).mono fun _ _ ⟨he, hw⟩ => ⟨he, 0, hw.symm⟩

/-- All pairs up to i are in order, but for those whose second one is j. -/
def Srt (L : List Int) (i j : Nat) : Prop := ∀ p q, p < q → q ≤ i → q ≠ j → ∀ x y, L[p]? = some x → L[q]? = some y → x ≤ y
def swapL (L : List Int) (m : Nat) (a b : Int) : List Int := (L.set (m + 1) a).set m b
theorem swapL_perm {L : List Int} {m : Nat} {a b : Int} (ha : L[m]? = some a) (hb : L[m + 1]? = some b) : (swapL L m a b).Perm L := by
  obtain ⟨l1, e1⟩ := List.getElem?_eq_some_iff.1 ha
  obtain ⟨l2, e2⟩ := List.getElem?_eq_some_iff.1 hb
  have h : ((L.set (m + 1) L[m]).set m L[m + 1]).Perm L := List.set_set_perm l2 l1
  rw [e1, e2] at h
  exact h
theorem swapL_get {L : List Int} {m : Nat} {a b : Int} (h : m + 1 < L.length) (q : Nat) : (swapL L m a b)[q]? = if q = m then some b else if q = m + 1 then some a else L[q]? := by
  unfold swapL
  by_cases h1 : q = m
  · subst h1; rw [if_pos rfl, List.getElem?_set_self (by rw [List.length_set]; omega)]
  · rw [if_neg h1, List.getElem?_set_ne (fun e => h1 e.symm)]
    by_cases h2 : q = m + 1
    · subst h2; rw [if_pos rfl, List.getElem?_set_self h]
    · rw [if_neg h2, List.getElem?_set_ne (fun e => h2 e.symm)]
theorem Srt.swap {L : List Int} {i m : Nat} {a b : Int} (hs : Srt L i (m + 1)) (ha : L[m]? = some a) (hb : L[m + 1]? = some b) (hab : b < a) : Srt (swapL L m a b) i m := by
  have hl : m + 1 < L.length := (List.getElem?_eq_some_iff.1 hb).1
  intro p q hpq hq hqm x y hx hy
  rw [swapL_get hl] at hx hy
  rw [if_neg hqm] at hy
  by_cases h2 : q = m + 1
  · rw [if_pos h2] at hy
    injection hy with hy
    subst hy
    by_cases h3 : p = m
    · rw [if_pos h3] at hx; injection hx with hx; omega
    · rw [if_neg h3, if_neg (by omega)] at hx
      exact hs p m (by omega) (by omega) (by omega) x a hx ha
  · rw [if_neg h2] at hy
    by_cases h3 : p = m
    · rw [if_pos h3] at hx; injection hx with hx; subst hx
      exact hs (m + 1) q (by omega) hq h2 b y hb hy
    · rw [if_neg h3] at hx
      by_cases h4 : p = m + 1
      · rw [if_pos h4] at hx; injection hx with hx; subst hx
        exact hs m q (by omega) hq h2 a y ha hy
      · rw [if_neg h4] at hx
        exact hs p q hpq hq h2 x y hx hy
theorem Srt.done {L : List Int} {i m : Nat} {a b : Int} (hs : Srt L i (m + 1)) (_hi : m + 1 ≤ i) (ha : L[m]? = some a) (hb : L[m + 1]? = some b) (hab : a ≤ b) : Srt L i (i + 1) := by
  intro p q hpq hq _ x y hx hy
  by_cases h2 : q = m + 1
  · subst h2
    rw [hb] at hy; injection hy with hy; subst hy
    by_cases h3 : p = m
    · subst h3; rw [ha] at hx; injection hx with hx; omega
    · have := hs p m (by omega) (by omega) (by omega) x a hx ha; omega
  · exact hs p q hpq hq h2 x y hx hy
theorem Srt.zero {L : List Int} {i : Nat} (hs : Srt L i 0) : Srt L i (i + 1) := fun p q hpq hq _ x y hx hy => hs p q hpq hq (by omega) x y hx hy
theorem Srt.next {L : List Int} {i : Nat} (hs : Srt L i (i + 1)) : Srt L (i + 1) (i + 1) := fun p q hpq hq hne x y hx hy => hs p q hpq (by omega) hne x y hx hy

set_option maxRecDepth 100000 in
set_option maxHeartbeats 2000000 in
theorem insertion_any (A : Option Addr) (c : Nat) (xs : List Int) (h1 : 1 ≤ xs.length) (hn : xs.length ≤ 1048576) (w : World) (base : Nat) (h : OwnI w base A c xs) :
    Calls Tryz.prog 243 #[.slice A xs.length c, .int .i64 0, .int .i64 xs.length] w fun e w' => e = .returned (.tuple #[]) ∧ ∃ ys, ys.Perm xs ∧ Srt ys (ys.length - 1) ys.length ∧ OwnI w' base A c ys ∧ Below base w w' := by
  obtain ⟨g, hA, hg, hf, hcell⟩ := h.block (by omega)
  subst hA
  clear hf hcell
  go_enter Tryz.func243, Tryz.ntmps243
  go_wp2
  go_loopw [6] (fun i wr => ∃ (k : Nat) (L : List Int), i = .int .i64 ((k : Int) + 1) ∧ k + 1 ≤ xs.length ∧ L.length = xs.length ∧ Hid (L.Perm xs) ∧ Hid (Srt L k (k + 1)) ∧ OwnI wr base (some ⟨g, 0, none⟩) c L ∧ Below base w wr) (fun i _ => xs.length - (intOf i).toNat)
  case atStart => exact ⟨0, xs, by go_num, by omega, rfl, List.Perm.refl _, fun p q h1 h2 => by omega, h, Below.refl _ _⟩
  case round =>
    obtain ⟨k, L, rfl, hk, hL, HP, HS, hown, hbel⟩ := hrel
    by_cases hlt : k + 1 < xs.length
    · have hi : (k : Int) + 1 < (xs.length : Int) := by omega
      obtain ⟨wo, rfl⟩ : ∃ wo : World, wo = wr := ⟨_, rfl⟩
      go_wp2
      go_loopw [7] (fun i wr => ∃ (j : Nat) (L : List Int), i = .int .i64 j ∧ j ≤ k + 1 ∧ L.length = xs.length ∧ Hid (L.Perm xs) ∧ Hid (Srt L (k + 1) j) ∧ OwnI wr base (some ⟨g, 0, none⟩) c L ∧ Below base w wr) (fun i _ => (intOf i).toNat)
      case atStart => exact ⟨k + 1, L, by go_num, by omega, hL, HP, HS.out.next, hown, hbel⟩
      case round =>
        clear hL HP HS hown hbel
        obtain ⟨j, L, rfl, hj, hL, HP, HS, hown, hbel⟩ := hrel
        rcases j with _ | m
        · go_wp2
          go_quiet (fail)
          go_wp2
          go_roundw
          case rel => exact ⟨k + 1, L, by go_num, by omega, hL, HP, HS.out.zero, hown.drewN _, below_drewN hbel _⟩
          case measure => simp [intOf]; omega
        · obtain ⟨a, ha⟩ := get_of_lt (xs := L) (k := m) (by omega)
          obtain ⟨b, hb⟩ := get_of_lt (xs := L) (k := m + 1) (by omega)
          obtain ⟨g', hA, _, hfz, hcell⟩ := hown.block (by omega)
          have hgg : g = g' := by injection hA with hA; injection hA
          subst hgg
          have c1 := hcell m a ha
          have c2 := hcell (m + 1) b hb
          have i1 : (m : Int) < (xs.length : Int) := by omega
          have i2 : (m : Int) + 1 < (xs.length : Int) := by omega
          have i3 : (0 : Int) < (m : Int) + 1 := by omega
          have i4 : (0 : Int) ≤ (m : Int) := by omega
          have HA := Lib.hid ha
          have HB := Lib.hid hb
          have HL := Lib.hid (lessq_any b a)
          clear ha hb hA hcell
          by_cases hab : b < a
          · have hd : decide (b < a) = true := decide_eq_true hab
            have HAB := Lib.hid hab
            go_wp2
            go_quiet ((go_at_call 249; exact Calls.quiet_of (HL.out _)))
            go_wp2
            go_region
            all_goals (
              go_wp2
              go_roundw
              case rel => exact ⟨m, swapL L m a b, by go_num, by omega, by simp [swapL]; omega, (swapL_perm HA.out HB.out).trans HP.out, HS.out.swap HA.out HB.out HAB.out, ((hown.drewN _).set rfl (m + 1) a).set rfl m b, ((below_drewN hbel _).setCell (p := ⟨g, m + 1, none⟩) hg _).setCell (p := ⟨g, m, none⟩) hg _⟩
              case measure => simp [intOf])
          · have hd : decide (b < a) = false := decide_eq_false hab
            have HNAB : Hid (a ≤ b) := Lib.hid (by omega)
            clear hab
            go_wp2
            go_quiet ((go_at_call 249; exact Calls.quiet_of (HL.out _)))
            go_wp2
            go_roundw
            case rel => exact ⟨k + 1, L, by go_num, by omega, hL, HP, HS.out.done (by omega) HA.out HB.out HNAB.out, hown.drewN _, below_drewN hbel _⟩
            case measure => simp [intOf]; omega
    · have hi : ¬ (k : Int) + 1 < (xs.length : Int) := by omega
      go_wp2
      go_end0
      have hkk : k = L.length - 1 := by omega
      refine ⟨rfl, L, HP.out, ?_, hown, hbel⟩
      have := HS.out
      rw [show k + 1 = L.length from by omega, hkk] at this
      exact this

set_option maxHeartbeats 1000000 in
theorem pdq_any (A : Option Addr) (c : Nat) (xs : List Int) (lim : Int) (h1 : 1 ≤ xs.length) (hn : xs.length ≤ 12) (w : World) (base : Nat) (h : OwnI w base A c xs) :
    Calls Tryz.prog 189 #[.slice A xs.length c, .int .i64 0, .int .i64 xs.length, .int .i64 lim] w fun e w' => e = .returned (.tuple #[]) ∧ ∃ ys, ys.Perm xs ∧ Srt ys (ys.length - 1) ys.length ∧ OwnI w' base A c ys ∧ Below base w w' := by
  have HI := Lib.hid (insertion_any A c xs h1 (by omega) w base h)
  have h12 : (xs.length : Int) ≤ 12 := by omega
  go_enter Tryz.func189, Tryz.ntmps189
  go_wp2
  go_loopw [1, 2] (fun a b wr => a = .int .i64 0 ∧ b = .int .i64 xs.length ∧ wr = w) (fun _ _ _ => 0)
  case atStart => exact ⟨rfl, rfl, rfl⟩
  case round =>
    obtain ⟨rfl, rfl, rfl⟩ := hrel
    go_wp2_with (go_at_call 243; refine (HI.out).mono ?_; rintro e w1 ⟨rfl, ys, h1, h2, h3, h4⟩)
    refine bodyPost_ret (results_none rfl _ _ _) rfl ?_
    exact ⟨rfl, ys, h1, h2, h3, h4⟩

set_option maxRecDepth 100000 in
theorem bitsLen_any (n : Nat) (hn : n ≤ 12) (w : World) : Calls Tryz.prog 118 #[.int .u64 n] w fun e w' => (∃ v : Int, e = .returned (.int .i64 v)) ∧ w = w' := by
  have hc : n = 0 ∨ n = 1 ∨ n = 2 ∨ n = 3 ∨ n = 4 ∨ n = 5 ∨ n = 6 ∨ n = 7 ∨ n = 8 ∨ n = 9 ∨ n = 10 ∨ n = 11 ∨ n = 12 := by omega
  rcases hc with rfl | rfl | rfl | rfl | rfl | rfl | rfl | rfl | rfl | rfl | rfl | rfl | rfl
  all_goals (
    go_enter Tryz.func118, Tryz.ntmps118
    go_wp2
    go_ret
    exact ⟨⟨_, rfl⟩, rfl⟩)

set_option maxHeartbeats 1000000 in
theorem sort_any (A : Option Addr) (c : Nat) (xs : List Int) (h1 : 1 ≤ xs.length) (hn : xs.length ≤ 12) (w : World) (base : Nat) (h : OwnI w base A c xs) :
    Calls Tryz.prog 135 #[.slice A xs.length c] w fun e w' => e = .returned (.tuple #[]) ∧ ∃ ys, ys.Perm xs ∧ Srt ys (ys.length - 1) ys.length ∧ OwnI w' base A c ys ∧ Below base w w' := by
  have HB := Lib.hid (bitsLen_any xs.length hn w)
  have HP := Lib.hid (fun lim => pdq_any A c xs lim h1 hn w base h)
  have hw0 : (0 : Int) ≤ (xs.length : Int) := by omega
  have hw1 : (xs.length : Int) < 18446744073709551616 := by omega
  clear h
  go_enter Tryz.func135, Tryz.ntmps135
  go_wp2_with first
    | (go_at_call 118; refine (HB.out).mono ?_; rintro e w1 ⟨⟨v, rfl⟩, rfl⟩)
    | (go_at_call 189; refine (HP.out _).mono ?_; rintro e w1 ⟨rfl, ys, h1, h2, h3, h4⟩)
  go_end0
  exact ⟨rfl, ys, h1, h2, h3, h4⟩
end Go.Proofs.YtnbikkcalcpedaaGreatDoor

