/-
  Texts of this claim, put together: DelF, Without.
-/
import Derived.Test.YtepmfbgmkfkmkaaK14
import Derived.Test.YtepmfbgmkfkmkaaK15
import Derived.Lib.SliceRun
import Derived.WalkKit
import Derived.Test.YtepmfbgmkfkmkaaK10
/-! slices.DeleteFunc on ints, with a function that has captured one variable: the row of the call's own is cut to what is kept. -/
namespace Go.Proofs.Ytepmfbgmkfkmkaa
open Go.RowKit

theorem OwnI.cut {w : World} {base c g : Nat} {xs : List Int} (h : OwnI w base (some ⟨g, 0, none⟩) c xs) (k : Nat) (hk : k ≤ xs.length) : OwnI w base (some ⟨g, 0, none⟩) c (xs.take k) := by
  obtain ⟨h1, h2⟩ := h
  have e : (xs.take k).length = k := by simp; omega
  rcases h2 with ⟨h2, h3⟩ | ⟨g', cap, cur, hv, hg, hh, r1, r2, r3, r4⟩
  · simp at h2
  · injection hv with hv1 hv2 hv3
    refine ⟨by rw [ints_length]; simp, .inr ⟨g', cap, cur, by rw [hv1, hv3], hg, hh, by omega, r2, r3, ?_⟩⟩
    rw [e, Nat.mul_one]
    rw [Nat.mul_one] at r4
    have : (cur.toList.take xs.length).take k = (ints xs).take k := by rw [r4]
    rw [List.take_take, Nat.min_eq_left hk] at this
    rw [this]; simp [ints, List.map_take]
theorem OwnI.zero {base c g : Nat} {xs : List Int} : ∀ (n o : Nat) {w : World}, OwnI w base (some ⟨g, 0, none⟩) c xs → xs.length ≤ o → OwnI (w.setCells g o (List.replicate n (.int .i64 0))) base (some ⟨g, 0, none⟩) c xs
  | 0, _, _, h, _ => h
  | n + 1, o, w, h, ho => by
    rw [List.replicate_succ]
    refine OwnI.zero n (o + 1) (w := w.setCell ⟨g, o, none⟩ (.int .i64 0)) ?_ (by omega)
    have := h.put o 0
    rw [List.set_eq_of_length_le ho] at this
    exact this
theorem OwnI.cap {w : World} {base c g : Nat} {xs : List Int} (h : OwnI w base (some ⟨g, 0, none⟩) c xs) : xs.length ≤ c := by
  obtain ⟨h1, h2⟩ := h
  rcases h2 with ⟨h2, h3⟩ | ⟨g', cap, cur, hv, hg, hh, r1, r2, r3, r4⟩
  · simp at h2
  · injection hv with hv1 hv2 hv3
    omega

set_option maxHeartbeats 1000000 in
theorem indexg_any (F : Nat) (y : Value) (eg : ∀ args w, (callFunc F args).run Try.prog w = .ok (.enter F args) w) (p : Int → Bool) (A : Option Addr) (c : Nat) (xs : List Int) (hn : xs.length ≤ 1048576) (w : World) (h : Reads w w.heap.size 1 A xs.length (ints xs))
    (hp : ∀ x ∈ xs, ∀ m, Calls Try.prog F #[.int .i64 x, y] (w.drewN m) fun e w' => e = .returned (.bool (p x)) ∧ ∃ m', w' = w.drewN m') :
    Calls Try.prog 67 #[.slice A xs.length c, .func (.func F) #[] #[y]] w fun e w' => ∃ r : Int, e = .returned (.int .i64 r) ∧ Hid ((r = -1 ∧ ∀ x ∈ xs, p x = false) ∨ ∃ (k : Nat) (x : Int), r = (k : Int) ∧ xs[k]? = some x ∧ p x = true ∧ ∀ x ∈ xs.take k, p x = false) ∧ ∃ m, w' = w.drewN m := by
  have HP := Lib.hid hp
  clear hp
  go_enter Try.func67, Try.ntmps67
  go_wp2
  go_loopw [8] (fun i wr => ∃ k : Nat, k ≤ xs.length ∧ i = .int .i64 k ∧ Hid (∀ x ∈ xs.take k, p x = false) ∧ Hid (∃ m, wr = w.drewN m)) (fun i _ => xs.length - (intOf i).toNat)
  case atStart => exact ⟨0, by omega, rfl, by simp [Hid], ⟨0, rfl⟩⟩
  case round =>
    obtain ⟨k, hk, rfl, HS, HM⟩ := hrel
    by_cases hlt : k < xs.length
    · obtain ⟨x, hx⟩ := get_of_lt hlt
      obtain ⟨m, rfl⟩ := HM.out
      obtain ⟨b, off, rfl, hb, hcell0⟩ := h.at_ (ints_at hx)
      have hcell : (w.drewN m).cell? ⟨b, off + k, none⟩ = some (.int .i64 x) := hcell0
      have hi : (k : Int) < (xs.length : Int) := by omega
      have htk := take_snoc hx
      have PC := HP.out x (List.mem_of_getElem? hx) m
      have HX := Lib.hid hx
      cases hpx : p x
      · rw [hpx] at PC
        have PC := Lib.hid PC
        have HN : Hid (∀ x ∈ xs.take (k + 1), p x = false) := by
          rw [htk]
          intro z hz
          rcases List.mem_append.1 hz with hz | hz
          · exact HS.out z hz
          · rw [List.mem_singleton.1 hz]; exact hpx
        clear hx htk hpx hcell0 h
        go_wp2_with fail
        refine (PC.out).mono ?_
        rintro e w2 ⟨rfl, m2, rfl⟩
        go_wp2
        go_roundw
        case rel => exact ⟨k + 1, by omega, by go_num, HN, ⟨m2, rfl⟩⟩
        case measure => simp [intOf]; omega
      · rw [hpx] at PC
        have PC := Lib.hid PC
        have HT := Lib.hid hpx
        clear hx htk hpx hcell0 h
        go_wp2_with fail
        refine (PC.out).mono ?_
        rintro e w2 ⟨rfl, m2, rfl⟩
        go_wp2
        go_ret
        exact ⟨k, rfl, .inr ⟨k, x, rfl, HX.out, HT.out, HS.out⟩, m2, rfl⟩
    · obtain rfl : k = xs.length := by omega
      rw [List.take_length] at HS
      go_wp2
      go_ret
      exact ⟨-1, rfl, .inl ⟨rfl, HS.out⟩, HM.out⟩

/-- The filter's own invariant: i elements are kept out of the first j. -/
def Kept (p : Int → Bool) (xs ks : List Int) (i j : Nat) : Prop := ks.length = xs.length ∧ i < j ∧ j ≤ xs.length ∧ ks.take i = (xs.take j).filter (fun x => !p x) ∧ ∀ q, j ≤ q → ks[q]? = xs[q]?
theorem Kept.start {p : Int → Bool} {xs : List Int} {k : Nat} {x : Int} (h1 : xs[k]? = some x) (h2 : p x = true) (h3 : ∀ x ∈ xs.take k, p x = false) : Kept p xs xs k (k + 1) := by
  obtain ⟨hk, e⟩ := List.getElem?_eq_some_iff.1 h1
  refine ⟨rfl, by omega, by omega, ?_, fun _ _ => rfl⟩
  rw [take_snoc h1, List.filter_append]
  have : (xs.take k).filter (fun x => !p x) = xs.take k := List.filter_eq_self.2 fun x hx => by simp [h3 x hx]
  rw [this]; simp [h2]
theorem Kept.skip {p : Int → Bool} {xs ks : List Int} {i j : Nat} {x : Int} (h : Kept p xs ks i j) (h1 : xs[j]? = some x) (h2 : p x = true) : Kept p xs ks i (j + 1) := by
  obtain ⟨hk, e⟩ := List.getElem?_eq_some_iff.1 h1
  obtain ⟨a, b, c, d, f⟩ := h
  refine ⟨a, by omega, by omega, ?_, fun q hq => f q (by omega)⟩
  rw [take_snoc h1, List.filter_append, d]; simp [h2]
theorem Kept.keep {p : Int → Bool} {xs ks : List Int} {i j : Nat} {x : Int} (h : Kept p xs ks i j) (h1 : xs[j]? = some x) (h2 : p x = false) : Kept p xs (ks.set i x) (i + 1) (j + 1) := by
  obtain ⟨hk, e⟩ := List.getElem?_eq_some_iff.1 h1
  obtain ⟨a, b, c, d, f⟩ := h
  refine ⟨by simpa using a, by omega, by omega, ?_, fun q hq => ?_⟩
  · have hs : (ks.set i x)[i]? = some x := by rw [List.getElem?_set_self (by omega)]
    rw [take_snoc hs, List.take_set_of_le (Nat.le_refl _), d, take_snoc h1, List.filter_append]; simp [h2]
  · rw [List.getElem?_set_ne (by omega)]; exact f q (by omega)
theorem Kept.done {p : Int → Bool} {xs ks : List Int} {i : Nat} (h : Kept p xs ks i xs.length) : ks.take i = xs.filter (fun x => !p x) := by
  obtain ⟨a, b, c, d, f⟩ := h
  rw [d, List.take_length]
theorem below_zero {B g : Nat} {a : World} (hg : B ≤ g) : ∀ (n o : Nat) {w : World}, Below B a w → Below B a (w.setCells g o (List.replicate n (.int .i64 0)))
  | 0, _, _, h => h
  | n + 1, o, w, h => by
    rw [List.replicate_succ]
    exact below_zero hg n (o + 1) (w := w.setCell ⟨g, o, none⟩ (.int .i64 0)) (h.setCell hg _)

set_option maxHeartbeats 2000000 in
theorem delf_any (F : Nat) (y : Value) (eg : ∀ args w, (callFunc F args).run Try.prog w = .ok (.enter F args) w) (p : Int → Bool) (A : Option Addr) (c : Nat) (xs : List Int) (hn : xs.length ≤ 1048576) (base : Nat) (w : World) (h : OwnI w base A c xs)
    (hp : ∀ x ∈ xs, ∀ W, Below base w W → Calls Try.prog F #[.int .i64 x, y] W fun e w' => e = .returned (.bool (p x)) ∧ ∃ m', w' = W.drewN m') :
    Calls Try.prog 83 #[.slice A xs.length c, .func (.func F) #[] #[y]] w fun e w' => ∃ A' c', e = .returned (.slice A' (xs.filter fun x => !p x).length c') ∧ OwnI w' base A' c' (xs.filter fun x => !p x) ∧ Below base w w' := by
  have IC := Lib.hid (indexg_any F y eg p A c xs hn w h.reads (fun x hx m => (hp x hx (w.drewN m) (below_drewN (Below.refl _ _) m)).mono (by rintro e w' ⟨rfl, m', rfl⟩; exact ⟨rfl, m + m', World.drewN_drewN _ _ _⟩)))
  have HP := Lib.hid hp
  have OW := Lib.hid h
  clear hp h
  obtain ⟨fs, hfs⟩ : ∃ fs, (xs.filter fun x => !p x) = fs := ⟨_, rfl⟩
  rw [hfs]
  have HF := Lib.hid hfs
  clear hfs
  go_enter Try.func83, Try.ntmps83
  go_wp2_with fail
  refine (IC.out).mono ?_
  rintro e w1 ⟨r, rfl, HR, m, rfl⟩
  clear IC
  rcases HR.out with ⟨rfl, hall⟩ | ⟨k, x, rfl, hx, hpx, hall⟩
  · have e1 : fs = xs := by
      rw [← HF.out]; exact List.filter_eq_self.2 fun x hx => by simp [hall x hx]
    subst e1
    clear hall
    go_wp2
    go_ret
    exact ⟨A, c, rfl, OW.out.drewN m, below_drewN (Below.refl _ _) m⟩
  · have hk : k < xs.length := (List.getElem?_eq_some_iff.1 hx).1
    obtain ⟨g, rfl, hg, -, -⟩ := OW.out.block (by omega)
    have hne : ((k : Int) == -1) = false := beq_eq_false_iff_ne.2 (by omega)
    have hcap := OW.out.cap
    have HK := Lib.hid (Kept.start hx hpx hall)
    clear hx hpx hall HR
    have hw1 : IntKind.i64.wrap ((k : Int) + 1) = ((k + 1 : Nat) : Int) := by rw [IntWalk.i64_in _ (by omega)]; rfl
    go_wp2
    go_loopw [5, 6, 7] (fun a b _ wr => ∃ (i j : Nat) (ks : List Int), a = .int .i64 i ∧ b = .int .i64 j ∧ i < j ∧ j ≤ xs.length ∧ Hid (Kept p xs ks i j) ∧ Hid (OwnI wr base (some ⟨g, 0, none⟩) c ks) ∧ Hid (Below base w wr)) (fun _ b _ _ => xs.length - (intOf b).toNat)
    case atStart => exact ⟨k, k + 1, xs, rfl, by go_num, by omega, by omega, HK, OW.out.drewN m, below_drewN (Below.refl _ _) m⟩
    case round =>
      obtain ⟨i, j, ks, rfl, rfl, hij, hj, KP, OK, BK⟩ := hrel
      have hkl : ks.length = xs.length := KP.out.1
      obtain ⟨-, hgs, hfz, hcell⟩ := OK.out.at_ (by omega)
      have fi := hfz i
      by_cases hlt : j < xs.length
      · obtain ⟨x, hx⟩ := get_of_lt hlt
        obtain ⟨u, hu⟩ := get_of_lt (show i < ks.length by omega)
        have cj := hcell j x (by rw [KP.out.2.2.2.2 j (Nat.le_refl _)]; exact hx)
        have ci := hcell i u hu
        have hi : (j : Int) < (xs.length : Int) := by omega
        have PC := HP.out x (List.mem_of_getElem? hx) _ BK.out
        have HX := Lib.hid hx
        clear hx hu hcell hkl
        cases hpx : p x
        · rw [hpx] at PC
          have PC := Lib.hid PC
          have HY := Lib.hid hpx
          clear hpx hfz
          go_wp2_with fail
          refine (PC.out).mono ?_
          rintro e w2 ⟨rfl, m2, rfl⟩
          have ci : (wr.drewN m2).cell? ⟨g, i, none⟩ = some (.int .i64 u) := ci
          have fi : (wr.drewN m2).frozen? ⟨g, i, none⟩ = false := fi
          go_wp2
          go_roundw
          case rel => exact ⟨i + 1, j + 1, ks.set i x, by go_num, by go_num, by omega, by omega, KP.out.keep HX.out HY.out, (OK.out.drewN m2).put i x, (below_drewN BK.out m2).setCell hg _⟩
          case measure => simp [intOf]; omega
        · rw [hpx] at PC
          have PC := Lib.hid PC
          have HY := Lib.hid hpx
          clear hpx hfz
          go_wp2_with fail
          refine (PC.out).mono ?_
          rintro e w2 ⟨rfl, m2, rfl⟩
          go_wp2
          go_roundw
          case rel => exact ⟨i, j + 1, ks, rfl, by go_num, by omega, by omega, KP.out.skip HX.out HY.out, OK.out.drewN m2, below_drewN BK.out m2⟩
          case measure => simp [intOf]; omega
      · obtain rfl : j = xs.length := by omega
        have hltz : ¬ (xs.length : Int) < (xs.length : Int) := by omega
        have hv : ∀ w, (zeroValue 3).run Try.prog w = .ok (.int .i64 0) w := fun w => by kernel_rfl
        have hcl : ∀ ty, (Builtin.clear_ #[25] ty #[.slice (some ⟨g, i, none⟩) (xs.length - i) (c - i)]).run Try.prog wr = .ok (.tuple #[]) (wr.setCells g i (List.replicate (xs.length - i) (.int .i64 0))) :=
          fun ty => Lib.run_clear_slice wr _ _ ty _ (by kernel_rfl) hv rfl rfl g i _ _ (by omega) (fun t ht => by
            obtain ⟨u, hu⟩ := get_of_lt (show i + t < ks.length by omega)
            rw [hcell (i + t) u hu]; rfl) (fun t ht => hfz _)
        have e1 : ks.take i = fs := by rw [KP.out.done]; exact HF.out
        have e2 : fs.length = i := by rw [← e1]; simp; omega
        have OE := Lib.hid ((OwnI.zero (xs.length - i) i (OK.out.cut i (by omega)) (by simp; omega)))
        rw [e1] at OE
        have BE := Lib.hid (below_zero hg (xs.length - i) i BK.out)
        have HE := Lib.hid e2
        clear e1 e2 hcell hfz hkl hv
        go_wp2
        go_ret
        exact ⟨some ⟨g, 0, none⟩, c, (by rw [HE.out]; rfl), OE.out, BE.out⟩
end Go.Proofs.Ytepmfbgmkfkmkaa

/-! Package tree: without. -/
namespace Go.Proofs.Ytepmfbgmkfkmkaa
open Go.RowKit

set_option maxHeartbeats 1000000 in
theorem eqto_any (g : Nat) (e x : Int) (W : World) (hc : W.cell? ⟨g, 0, none⟩ = some (.int .i64 e)) :
    Calls Try.prog 84 #[.int .i64 x, .pointer (some ⟨g, 0, none⟩)] W fun en w' => en = .returned (.bool (decide (x = e))) ∧ ∃ m, w' = W.drewN m := by
  go_enter Try.func84, Try.ntmps84
  go_wp2
  all_goals (go_ret; exact ⟨rfl, 0, rfl⟩)

set_option maxHeartbeats 1000000 in
theorem withint_any (A : Option Addr) (c : Nat) (xs : List Int) (e : Int) (hn : xs.length ≤ 1048000) (w : World) (h : Reads w w.heap.size 1 A xs.length (ints xs)) :
    Calls Try.prog 60 #[.slice A xs.length c, .int .i64 e] w fun en w' => ∃ A' c', en = .returned (.slice A' (xs.filter fun x => !decide (x = e)).length c') ∧ OwnI w' w.heap.size A' c' (xs.filter fun x => !decide (x = e)) ∧ Below w.heap.size w w' := by
  have eg := enters_of (P := Try.prog) Try.func84 (by kernel_rfl) rfl
  obtain ⟨W0, hW0⟩ : ∃ W0, w.alloc (.cells #[.int .i64 e] 3) = W0 := ⟨_, rfl⟩
  have hc0 : W0.cell? ⟨w.heap.size, 0, none⟩ = some (.int .i64 e) := by rw [← hW0]; simp
  have hs0 : W0.heap.size = w.heap.size + 1 := by rw [← hW0]; simp
  have hb0 : Below w.heap.size w W0 := by rw [← hW0]; exact (Below.refl _ _).alloc (Nat.le_refl _) _
  have CC := Lib.hid (clone_any A c xs hn W0 ((h.below hb0).more hb0.size))
  have DD : Hid (∀ (A' : Option Addr) (c' : Nat) (w1 : World), OwnI w1 W0.heap.size A' c' xs → Below W0.heap.size W0 w1 → Calls Try.prog 83 #[.slice A' xs.length c', .func (.func 84) #[] #[.pointer (some ⟨w.heap.size, 0, none⟩)]] w1 fun en w' => ∃ A' c', en = .returned (.slice A' (xs.filter fun x => !decide (x = e)).length c') ∧ OwnI w' W0.heap.size A' c' (xs.filter fun x => !decide (x = e)) ∧ Below W0.heap.size w1 w') := by
    intro A' c' w1 h1 h2
    refine delf_any 84 _ eg (fun x => decide (x = e)) A' c' xs (by omega) W0.heap.size w1 h1 (fun x _ W hW => eqto_any w.heap.size e x W ?_)
    exact ((h2.trans hW).cell (p := ⟨w.heap.size, 0, none⟩) (by show w.heap.size < W0.heap.size; omega)).trans hc0
  obtain ⟨fs, hfs⟩ : ∃ fs, (xs.filter fun x => !decide (x = e)) = fs := ⟨_, rfl⟩
  rw [hfs] at DD ⊢
  have HS := Lib.hid hs0
  have HB := Lib.hid hb0
  have HW := Lib.hid hW0
  clear hfs hc0 hs0 hb0 hW0 eg h
  go_enter Try.func60, Try.ntmps60
  go_wp2_with fail
  rw [HW.out]
  refine (CC.out).mono ?_
  rintro en w1 ⟨A', c', rfl, o1, b1⟩
  have D1 := Lib.hid (DD.out A' c' w1 o1 b1)
  have B1 := Lib.hid b1
  clear o1 b1
  go_wp2_with fail
  refine (D1.out).mono ?_
  rintro en w2 ⟨A2, c2, rfl, o2, b2⟩
  have O2 := Lib.hid o2
  have B2 := Lib.hid b2
  clear o2 b2
  go_wp2
  go_ret
  have hle : w.heap.size ≤ W0.heap.size := by rw [HS.out]; omega
  exact ⟨A2, c2, rfl, O2.out.mono hle, HB.out.trans ((B1.out.trans B2.out).mono hle)⟩

theorem nI_less (t : List Nat) (e : Nat) : ((nI t).filter fun x => !decide (x = (e : Int))) = nI (lessL t e) := by
  unfold nI lessL
  rw [List.filter_map]
  congr 1
  apply List.filter_congr
  intro x _
  simp only [Function.comp]
  rw [show decide ((x : Int) = (e : Int)) = decide (x = e) from by rw [decide_eq_decide]; omega]
theorem twithout_any (A : Option Addr) (c : Nat) (t : List Nat) (e : Nat) (hn : (nI t).length ≤ 1048000) (w : World) (h : Reads w w.heap.size 1 A (nI t).length (ints (nI t))) :
    Calls Try.prog 60 #[.slice A (nI t).length c, .int .i64 (e : Int)] w fun en w' => ∃ A' c', en = .returned (.slice A' (nI (lessL t e)).length c') ∧ OwnI w' w.heap.size A' c' (nI (lessL t e)) ∧ Below w.heap.size w w' := by
  have := withint_any A c (nI t) (e : Int) hn w h
  rw [nI_less] at this
  exact this
end Go.Proofs.Ytepmfbgmkfkmkaa

