/-
  Texts of this claim, put together: RPlus06.
-/
import Derived.Test.YtplgbapbgcipdaaGreatDoorK45
import Derived.Test.YtplgbapbgcipdaaGreatDoorK06
import Derived.Test.YtplgbapbgcipdaaGreatDoorK07
import Derived.Deep.RegionHeld3
/-! The reference's sum of polynomials with positive coefficients. -/
namespace Go.Proofs.YtplgbapbgcipdaaGreatDoor
open Go.RowKit

set_option maxHeartbeats 1000000 in
theorem rabove_any (a1 a2 b1 b2 : Nat) (sa sb : ByteArray) (w : World) :
    Calls Tryz.prog 144 #[.agg #[.int .i64 a1, .int .i64 a2, .string sa], .agg #[.int .i64 b1, .int .i64 b2, .string sb]] w fun e w' => e = .returned (.bool (abv (a1, a2) (b1, b2))) ∧ Below w.heap.size w w' := by
  have hB : Below w.heap.size w ((w.alloc (.cells #[.int .i64 a1, .int .i64 a2, .string sa] 72)).alloc (.cells #[.int .i64 b1, .int .i64 b2, .string sb] 72)) := ((Below.refl _ _).alloc (Nat.le_refl _) _).alloc (by simp) _
  rcases Nat.lt_trichotomy b1 a1 with h | h | h
  · have hv : abv (a1, a2) (b1, b2) = true := by simp [abv, h]
    rw [hv]
    have hi : (b1 : Int) < (a1 : Int) := by omega
    have hd : decide ((b1 : Int) < (a1 : Int)) = true := decide_eq_true hi
    clear hv h
    go_enter Tryz.func144, Tryz.ntmps144
    go_wp2
    go_ret
    exact ⟨rfl, hB⟩
  · subst h
    have hi : ¬ (b1 : Int) < (b1 : Int) := by omega
    have hd : decide ((b1 : Int) < (b1 : Int)) = false := decide_eq_false hi
    by_cases h2 : b2 < a2
    · have hv : abv (b1, a2) (b1, b2) = true := by simp [abv, h2]
      rw [hv]
      have hj : (b2 : Int) < (a2 : Int) := by omega
      have hdj : decide ((b2 : Int) < (a2 : Int)) = true := decide_eq_true hj
      clear hv h2
      go_enter Tryz.func144, Tryz.ntmps144
      go_wp2
      go_ret
      exact ⟨rfl, hB⟩
    · have hv : abv (b1, a2) (b1, b2) = false := by simp [abv]; omega
      rw [hv]
      have hj : ¬ (b2 : Int) < (a2 : Int) := by omega
      have hdj : decide ((b2 : Int) < (a2 : Int)) = false := decide_eq_false hj
      clear hv h2
      go_enter Tryz.func144, Tryz.ntmps144
      go_wp2
      go_ret
      exact ⟨rfl, hB⟩
  · have hv : abv (a1, a2) (b1, b2) = false := by simp [abv]; omega
    rw [hv]
    have hi : ¬ (b1 : Int) < (a1 : Int) := by omega
    have hd : decide ((b1 : Int) < (a1 : Int)) = false := decide_eq_false hi
    have hne : ((a1 : Int) == (b1 : Int)) = false := by simp; omega
    clear hv h
    go_enter Tryz.func144, Tryz.ntmps144
    go_wp2
    go_ret
    exact ⟨rfl, hB⟩
theorem intS_ne0 {n : Nat} (h : 0 < n) : ((intS n).toList == [48]) = false := by
  rw [Lib.toList_data, intS_dig h]
  obtain ⟨d, hd, hd0⟩ := digB_last h
  have hd10 := digB_lt (B := 10) (by omega) (List.mem_of_getLast? hd)
  rw [Bool.eq_false_iff]
  intro hc
  have hc := eq_of_beq hc
  have h1 : ((digB 10 n).reverse.map asc).head? = some (asc d) := by rw [List.head?_map, List.head?_reverse, hd]; rfl
  rw [hc] at h1
  injection h1 with h1
  have := congrArg UInt8.toNat h1
  rw [asc_nat hd10] at this
  have h48 : (48 : UInt8).toNat = 48 := rfl
  omega
/-- Polynomials with positive coefficients, not too great. -/
def PosP (p : List Tm) : Prop := ∀ a ∈ p, 0 < a.2 ∧ a.2 < 1000000
theorem plusP_left {p q : List Tm} {a : Tm} (h : q = [] ∨ ∃ b r, q = b :: r ∧ abv a.1 b.1 = true) : plusP (a :: p) q = a :: plusP p q := by
  rcases h with rfl | ⟨b, r, rfl, hb⟩
  · rw [plusP, plusP_nil]
  · rw [plusP, if_pos hb]
theorem plusP_right {p q : List Tm} {b : Tm} (h : p = [] ∨ ∃ a r, p = a :: r ∧ abv a.1 b.1 = false ∧ abv b.1 a.1 = true) : plusP p (b :: q) = b :: plusP p q := by
  rcases h with rfl | ⟨a, r, rfl, hb, hc⟩
  · rw [plusP, plusP]
  · rw [plusP, if_neg (by rw [hb]; decide), if_pos hc]
theorem plusP_both {p q : List Tm} {a b : Tm} (h1 : abv a.1 b.1 = false) (h2 : abv b.1 a.1 = false) (h3 : a.2 + b.2 ≠ 0) : plusP (a :: p) (b :: q) = (a.1, a.2 + b.2) :: plusP p q := by
  rw [plusP, if_neg (by rw [h1]; decide), if_neg (by rw [h2]; decide), if_neg h3]
theorem drop_cons {α : Type} {l : List α} {k : Nat} {x : α} (h : l[k]? = some x) : l.drop k = x :: l.drop (k + 1) := by
  obtain ⟨hk, he⟩ := List.getElem?_eq_some_iff.1 h
  rw [List.drop_eq_getElem_cons hk, he]
set_option maxRecDepth 100000 in
set_option maxHeartbeats 8000000 in
theorem rplus06_any (A : Option Addr) (c : Nat) (p : List Tm) (B : Option Addr) (d : Nat) (q : List Tm) (hp : p.length ≤ 100000) (hq : q.length ≤ 100000) (hpp : PosP p) (hqq : PosP q) (w : World) (h : Reads w w.heap.size 3 A p.length (tmCells p)) (h' : Reads w w.heap.size 3 B q.length (tmCells q)) :
    Calls Tryz.prog 98 #[.slice A p.length c, .slice B q.length d] w fun e w' => ∃ A' c', e = .returned (.slice A' (plusP p q).length c') ∧ OwnT w' w.heap.size A' c' (plusP p q) ∧ Below w.heap.size w w' := by
  have AB := Lib.hid rabove_any
  obtain ⟨P, hP⟩ : ∃ n, p.length = n := ⟨_, rfl⟩
  obtain ⟨Q, hQ⟩ : ∃ n, q.length = n := ⟨_, rfl⟩
  have HR := Lib.hid h
  have HS := Lib.hid h'
  obtain ⟨R, hR⟩ : ∃ R, plusP p q = R := ⟨_, rfl⟩
  rw [hP] at HR hp
  rw [hQ] at HS hq
  rw [hP, hQ, hR]
  have HP := Lib.hid hP
  have HQ := Lib.hid hQ
  have HRR := Lib.hid hR
  have HPP := Lib.hid hpp
  have HQQ := Lib.hid hqq
  clear hP hQ hR hpp hqq h h'
  go_enter Tryz.func98, Tryz.ntmps98
  go_wp2
  go_loopw [5, 6, 7, 8] (fun o ti tk _ wr => ∃ (i k : Nat) (out : List Tm) (A' : Option Addr) (c' : Nat), i ≤ P ∧ k ≤ Q ∧ ti = .int .i64 i ∧ tk = .int .i64 k ∧ o = .slice A' out.length c' ∧ Hid (R = out ++ plusP (p.drop i) (q.drop k)) ∧ out.length ≤ i + k ∧ Hid (OwnT wr w.heap.size A' c' out) ∧ Hid (Below w.heap.size w wr)) (fun _ ti tk _ _ => (P - (intOf ti).toNat) + (Q - (intOf tk).toNat))
  case atStart => exact ⟨0, 0, [], none, 0, by omega, by omega, rfl, rfl, rfl, by rw [Hid, ← HRR.out]; rfl, by simp, OwnT.nil_ _ _, Below.refl _ _⟩
  case round =>
    obtain ⟨i, k, out, A', c', hi, hk, rfl, rfl, rfl, HPL, hol, HO, HB⟩ := hrel
    have hsz2 := HB.out.size
    have hol2 : out.length ≤ 300000 := by omega
    by_cases hiP : i < P
    · have hi1 : (i : Int) < (P : Int) := by omega
      have hd1 : decide ((i : Int) < (P : Int)) = true := decide_eq_true hi1
      have hei : ((i : Int) == (P : Int)) = false := by simp; omega
      obtain ⟨x, hx⟩ : ∃ x, p[i]? = some x := ⟨_, List.getElem?_eq_getElem (by rw [HP.out]; exact hiP)⟩
      obtain ⟨bp, op, rfl, hbp, x0, x1, x2⟩ := (HR.out.below HB.out).tm hx
      have hdx := drop_cons hx
      have HPI := Lib.hid hx
      have HPX := Lib.hid (HPP.out x (List.mem_of_getElem? hx))
      rw [hdx] at HPL
      clear hdx hx
      by_cases hkQ : k < Q
      · have hk1 : (k : Int) < (Q : Int) := by omega
        have hek : ((k : Int) == (Q : Int)) = false := by simp; omega
        obtain ⟨y, hy⟩ : ∃ y, q[k]? = some y := ⟨_, List.getElem?_eq_getElem (by rw [HQ.out]; exact hkQ)⟩
        obtain ⟨bq, oq, rfl, hbq, y0, y1, y2⟩ := (HS.out.below HB.out).tm hy
        have hdy := drop_cons hy
        have HPY := Lib.hid (HQQ.out y (List.mem_of_getElem? hy))
        rw [hdy] at HPL
        have HQK := Lib.hid hy
        clear hdy hy
        have AX := Lib.hid (fun W => AB.out x.1.1 x.1.2 y.1.1 y.1.2 (intS x.2) (intS y.2) W)
        have AY := Lib.hid (fun W => AB.out y.1.1 y.1.2 x.1.1 x.1.2 (intS y.2) (intS x.2) W)
        obtain ⟨v1, hv1⟩ : ∃ v, abv (x.1.1, x.1.2) (y.1.1, y.1.2) = v := ⟨_, rfl⟩
        obtain ⟨v2, hv2⟩ : ∃ v, abv (y.1.1, y.1.2) (x.1.1, x.1.2) = v := ⟨_, rfl⟩
        rw [hv1] at AX
        rw [hv2] at AY
        have HV1 : Hid (abv x.1 y.1 = v1) := hv1
        have HV2 : Hid (abv y.1 x.1 = v2) := hv2
        clear hv1 hv2
        go_wp2
        go_region_held3 (fun W => W.cell? ⟨bp, op + i * 3, none⟩ = some (.int .i64 x.1.1) ∧ W.cell? ⟨bp, op + i * 3 + 1, none⟩ = some (.int .i64 x.1.2) ∧ W.cell? ⟨bp, op + i * 3 + 1 + 1, none⟩ = some (.string (intS x.2)) ∧ W.cell? ⟨bq, oq + k * 3, none⟩ = some (.int .i64 y.1.1) ∧ W.cell? ⟨bq, oq + k * 3 + 1, none⟩ = some (.int .i64 y.1.2) ∧ W.cell? ⟨bq, oq + k * 3 + 1 + 1, none⟩ = some (.string (intS y.2))) (go_keep) (first
          | (go_at_call 144; refine (AX.out _).mono ?_; rintro e w5 ⟨rfl, hb5⟩; have x0 := (hb5.cell (p := ⟨bp, op + i * 3, none⟩) (by show bp < _; exact Nat.lt_of_lt_of_le hbp hsz2)).trans x0; have x1 := (hb5.cell (p := ⟨bp, op + i * 3 + 1, none⟩) (by show bp < _; exact Nat.lt_of_lt_of_le hbp hsz2)).trans x1; have x2 := (hb5.cell (p := ⟨bp, op + i * 3 + 1 + 1, none⟩) (by show bp < _; exact Nat.lt_of_lt_of_le hbp hsz2)).trans x2; have y0 := (hb5.cell (p := ⟨bq, oq + k * 3, none⟩) (by show bq < _; exact Nat.lt_of_lt_of_le hbq hsz2)).trans y0; have y1 := (hb5.cell (p := ⟨bq, oq + k * 3 + 1, none⟩) (by show bq < _; exact Nat.lt_of_lt_of_le hbq hsz2)).trans y1; have y2 := (hb5.cell (p := ⟨bq, oq + k * 3 + 1 + 1, none⟩) (by show bq < _; exact Nat.lt_of_lt_of_le hbq hsz2)).trans y2)
          | fail)
        have HB5 : Below w.heap.size w w5 := HB.out.trans ((Below.refl _ wr).drew.trans (hb5.mono hsz2))
        have OW5 : OwnT w5 w.heap.size A' c' out := OwnT.next (w := wr.drew) HO.out hb5
        have HZ5 := HB5.size
        cases v1
        · have HPLa := HPL
          go_wp2
          go_region_held3 (fun W => W.cell? ⟨bp, op + i * 3, none⟩ = some (.int .i64 x.1.1) ∧ W.cell? ⟨bp, op + i * 3 + 1, none⟩ = some (.int .i64 x.1.2) ∧ W.cell? ⟨bp, op + i * 3 + 1 + 1, none⟩ = some (.string (intS x.2)) ∧ W.cell? ⟨bq, oq + k * 3, none⟩ = some (.int .i64 y.1.1) ∧ W.cell? ⟨bq, oq + k * 3 + 1, none⟩ = some (.int .i64 y.1.2) ∧ W.cell? ⟨bq, oq + k * 3 + 1 + 1, none⟩ = some (.string (intS y.2))) (go_keep) (first
            | (go_at_call 144; refine (AY.out _).mono ?_; rintro e w6 ⟨rfl, hb6⟩; have x0 := (hb6.cell (p := ⟨bp, op + i * 3, none⟩) (by show bp < _; exact Nat.lt_of_lt_of_le hbp HZ5)).trans x0; have x1 := (hb6.cell (p := ⟨bp, op + i * 3 + 1, none⟩) (by show bp < _; exact Nat.lt_of_lt_of_le hbp HZ5)).trans x1; have x2 := (hb6.cell (p := ⟨bp, op + i * 3 + 1 + 1, none⟩) (by show bp < _; exact Nat.lt_of_lt_of_le hbp HZ5)).trans x2; have y0 := (hb6.cell (p := ⟨bq, oq + k * 3, none⟩) (by show bq < _; exact Nat.lt_of_lt_of_le hbq HZ5)).trans y0; have y1 := (hb6.cell (p := ⟨bq, oq + k * 3 + 1, none⟩) (by show bq < _; exact Nat.lt_of_lt_of_le hbq HZ5)).trans y1; have y2 := (hb6.cell (p := ⟨bq, oq + k * 3 + 1 + 1, none⟩) (by show bq < _; exact Nat.lt_of_lt_of_le hbq HZ5)).trans y2)
            | fail)
          have HB6 : Below w.heap.size w w6 := HB5.trans ((Below.refl _ w5).drew.trans (hb6.mono HZ5))
          have OW6 : OwnT w6 w.heap.size A' c' out := OwnT.next (w := w5.drew) OW5 hb6
          have HZ6 := HB6.size
          clear hb6 hb5 HB5
          cases v2
          · obtain ⟨S5, hS5⟩ : ∃ s, intS (x.2 + y.2) = s := ⟨_, rfl⟩
            have PL : Hid (∀ W, Calls Tryz.prog 145 #[.string (intS x.2), .string (intS y.2)] W fun e w' => e = .returned (.string S5) ∧ Below W.heap.size W w') := by
              intro W
              obtain ⟨nx, hnx⟩ := Int.eq_ofNat_of_zero_le (Int.le_of_lt HPX.out.1)
              obtain ⟨ny, hny⟩ := Int.eq_ofNat_of_zero_le (Int.le_of_lt HPY.out.1)
              have h1 := HPX.out
              have h2 := HPY.out
              rw [hnx] at h1
              rw [hny] at h2
              have := rplus01_any nx ny (by omega) (by omega) (Nat.lt_trans (by omega : nx + ny < 2000000) (by decide)) W
              rw [Int.natCast_add, ← hnx, ← hny, hS5] at this
              exact this
            have hne5 : (S5.toList == [48]) = false := by
              obtain ⟨nx, hnx⟩ := Int.eq_ofNat_of_zero_le (Int.le_of_lt HPX.out.1)
              obtain ⟨ny, hny⟩ := Int.eq_ofNat_of_zero_le (Int.le_of_lt HPY.out.1)
              have h1 := HPX.out
              rw [hnx] at h1
              rw [← hS5, hnx, hny, ← Int.natCast_add]
              exact intS_ne0 (by omega)
            have HS5 := Lib.hid hS5
            have HPL : Hid (R = (out ++ [(x.1, x.2 + y.2)]) ++ plusP (p.drop (i + 1)) (q.drop (k + 1))) := by
              have h3 := HPLa.out
              have h1 := HPX.out
              have h2 := HPY.out
              rw [plusP_both HV1.out HV2.out (by omega)] at h3
              rw [Hid, h3, List.append_assoc]; rfl
            clear hS5
            go_wp2
            go_region_held3 (fun W => W.cell? ⟨bp, op + i * 3, none⟩ = some (.int .i64 x.1.1) ∧ W.cell? ⟨bp, op + i * 3 + 1, none⟩ = some (.int .i64 x.1.2) ∧ W.cell? ⟨bp, op + i * 3 + 1 + 1, none⟩ = some (.string (intS x.2)) ∧ W.cell? ⟨bq, oq + k * 3, none⟩ = some (.int .i64 y.1.1) ∧ W.cell? ⟨bq, oq + k * 3 + 1, none⟩ = some (.int .i64 y.1.2) ∧ W.cell? ⟨bq, oq + k * 3 + 1 + 1, none⟩ = some (.string (intS y.2))) (go_keep) (first
              | (go_at_call 145; refine (PL.out _).mono ?_; rintro e w7 ⟨rfl, hb7⟩; have x0 := (hb7.cell (p := ⟨bp, op + i * 3, none⟩) (by show bp < _; exact Nat.lt_of_lt_of_le hbp HZ6)).trans x0; have x1 := (hb7.cell (p := ⟨bp, op + i * 3 + 1, none⟩) (by show bp < _; exact Nat.lt_of_lt_of_le hbp HZ6)).trans x1; have x2 := (hb7.cell (p := ⟨bp, op + i * 3 + 1 + 1, none⟩) (by show bp < _; exact Nat.lt_of_lt_of_le hbp HZ6)).trans x2; have y0 := (hb7.cell (p := ⟨bq, oq + k * 3, none⟩) (by show bq < _; exact Nat.lt_of_lt_of_le hbq HZ6)).trans y0; have y1 := (hb7.cell (p := ⟨bq, oq + k * 3 + 1, none⟩) (by show bq < _; exact Nat.lt_of_lt_of_le hbq HZ6)).trans y1; have y2 := (hb7.cell (p := ⟨bq, oq + k * 3 + 1 + 1, none⟩) (by show bq < _; exact Nat.lt_of_lt_of_le hbq HZ6)).trans y2)
              | fail)
            have HB7 : Below w.heap.size w w7 := HB6.trans ((Below.refl _ w6).drew.trans (hb7.mono HZ6))
            have OW7 : OwnT w7 w.heap.size A' c' out := OwnT.next (w := w6.drew) OW6 hb7
            have HZ7 := HB7.size
            clear hb7 HB6 OW6 OW5
            go_wp2
            have HBa : Below w.heap.size w7 (w7.drew.alloc (.cells #[.int .i64 x.1.1, .int .i64 x.1.2, .string S5] 72)) := (Below.refl _ w7).drew.alloc (by exact HZ7) _
            have hO8 : OwnT (w7.drew.alloc (.cells #[.int .i64 x.1.1, .int .i64 x.1.2, .string S5] 72)) w.heap.size A' c' out := OwnT.alloc (w := w7.drew) OW7 _
            have HRd := Lib.hid (Reads.boxN w7.drew #[.int .i64 x.1.1, .int .i64 x.1.2, .string S5] 72)
            have X0a := (HBa.cell (p := ⟨bp, op + i * 3, none⟩) hbp).trans x0
            have X1a := (HBa.cell (p := ⟨bp, op + i * 3 + 1, none⟩) hbp).trans x1
            refine wp_region_held_drew (S := (fun W : World => W.cell? ⟨bp, op + i * 3, none⟩ = some (.int .i64 x.1.1) ∧ W.cell? ⟨bp, op + i * 3 + 1, none⟩ = some (.int .i64 x.1.2))) (by kernel_rfl) ⟨x0, x1⟩ (fun hSw => ?_)
            refine h_take (i := 0) (.slice A' out.length c') rfl (by kernel_rfl) (by kernel_rfl) (by kernel_rfl) (fun _ _ _ h => h) (by kernel_rfl) hSw ?_ ?_
            · intro w hw; (try dsimp only at hw); go_split_ands; go_simp
            refine h_take (i := 1) (.slice (some ⟨bp, op, none⟩) P c) rfl (by kernel_rfl) (by kernel_rfl) (by kernel_rfl) (fun _ _ _ h => h) (by kernel_rfl) hSw ?_ ?_
            · intro w hw; (try dsimp only at hw); go_split_ands; go_simp
            refine h_take (i := 2) (.int .i64 i) rfl (by kernel_rfl) (by kernel_rfl) (by kernel_rfl) (fun _ _ _ h => h) (by kernel_rfl) hSw ?_ ?_
            · intro w hw; (try dsimp only at hw); go_split_ands; go_simp
            refine h_take (i := 3) (.pointer (some ⟨bp, op + i * 3, none⟩)) rfl (by kernel_rfl) (by kernel_rfl) (by kernel_rfl) (fun _ _ _ h => h) (by kernel_rfl) hSw ?_ ?_
            · intro w hw; (try dsimp only at hw); go_split_ands; go_simp
            refine h_take (i := 4) (.pointer (some ⟨bp, op + i * 3, none⟩)) rfl (by kernel_rfl) (by kernel_rfl) (by kernel_rfl) (fun _ _ _ h => h) (by kernel_rfl) hSw ?_ ?_
            · intro w hw; (try dsimp only at hw); go_split_ands; go_simp
            refine h_take (i := 5) (.int .i64 x.1.1) rfl (by kernel_rfl) (by kernel_rfl) (by kernel_rfl) (fun _ _ _ h => h) (by kernel_rfl) hSw ?_ ?_
            · intro w hw; (try dsimp only at hw); go_split_ands; go_simp
            refine h_take (i := 6) (.slice (some ⟨bp, op, none⟩) P c) rfl (by kernel_rfl) (by kernel_rfl) (by kernel_rfl) (fun _ _ _ h => h) (by kernel_rfl) hSw ?_ ?_
            · intro w hw; (try dsimp only at hw); go_split_ands; go_simp
            refine h_take (i := 7) (.int .i64 i) rfl (by kernel_rfl) (by kernel_rfl) (by kernel_rfl) (fun _ _ _ h => h) (by kernel_rfl) hSw ?_ ?_
            · intro w hw; (try dsimp only at hw); go_split_ands; go_simp
            refine h_take (i := 8) (.pointer (some ⟨bp, op + i * 3, none⟩)) rfl (by kernel_rfl) (by kernel_rfl) (by kernel_rfl) (fun _ _ _ h => h) (by kernel_rfl) hSw ?_ ?_
            · intro w hw; (try dsimp only at hw); go_split_ands; go_simp
            refine h_take (i := 9) (.pointer (some ⟨bp, op + i * 3 + 1, none⟩)) rfl (by kernel_rfl) (by kernel_rfl) (by kernel_rfl) (fun _ _ _ h => h) (by kernel_rfl) hSw ?_ ?_
            · intro w hw; (try dsimp only at hw); go_split_ands; go_simp
            refine h_take (i := 10) (.int .i64 x.1.2) rfl (by kernel_rfl) (by kernel_rfl) (by kernel_rfl) (fun _ _ _ h => h) (by kernel_rfl) hSw ?_ ?_
            · intro w hw; (try dsimp only at hw); go_split_ands; go_simp
            refine h_take (i := 11) (.string S5) rfl (by kernel_rfl) (by kernel_rfl) (by kernel_rfl) (fun _ _ _ h => h) (by kernel_rfl) hSw ?_ ?_
            · intro w hw; (try dsimp only at hw); go_split_ands; go_simp
            refine h_take (i := 12) (.agg #[.int .i64 x.1.1, .int .i64 x.1.2, .string S5]) rfl (by kernel_rfl) (by kernel_rfl) (by kernel_rfl) (fun _ _ _ h => h) (by kernel_rfl) hSw ?_ ?_
            · intro w hw; (try dsimp only at hw); go_split_ands; go_simp
            refine h_step (i := 13) rfl (by kernel_rfl) (by kernel_rfl) ?_
            intro K hK
            go_simp
            refine hK _ _ ⟨X0a, X1a⟩ ?_
            clear hK K hSw
            have hSw : (fun W : World => W.cell? ⟨bp, op + i * 3, none⟩ = some (.int .i64 x.1.1) ∧ W.cell? ⟨bp, op + i * 3 + 1, none⟩ = some (.int .i64 x.1.2)) (w7.drew.alloc (.cells #[.int .i64 x.1.1, .int .i64 x.1.2, .string S5] 72)) := ⟨X0a, X1a⟩
            refine h_step (i := 14) rfl (by kernel_rfl) (by kernel_rfl) ?_
            intro K hK
            refine append_wp rfl (.tmp 86) (.tmp 99) _ rfl w.heap.size 72 Tryz.underlying36 info_tm rfl (by omega) A' c' out.length _ rfl hO8 _ [.int .i64 x.1.1, .int .i64 x.1.2, .string S5] rfl HRd.out (by intro u hu; simp at hu; rcases hu with rfl | rfl | rfl <;> rfl) (by omega) (by simp; omega) ?_
            intro A8 c8 w8 hown8 hg8 hb8 _
            have X0b := (hb8.cell (p := ⟨bp, op + i * 3, none⟩) hbp).trans X0a
            have X1b := (hb8.cell (p := ⟨bp, op + i * 3 + 1, none⟩) hbp).trans X1a
            refine hK _ _ ⟨X0b, X1b⟩ ?_
            clear hK K hSw
            have hSw : (fun W : World => W.cell? ⟨bp, op + i * 3, none⟩ = some (.int .i64 x.1.1) ∧ W.cell? ⟨bp, op + i * 3 + 1, none⟩ = some (.int .i64 x.1.2)) w8 := ⟨X0b, X1b⟩
            refine h_take (i := 15) (.slice A8 (out.length + 1) c8) rfl (by kernel_rfl) (by kernel_rfl) (by kernel_rfl) (fun _ _ _ h => h) (by kernel_rfl) hSw ?_ ?_
            · intro w hw; (try dsimp only at hw); go_split_ands; go_simp
            refine wpAnyH_done (by kernel_rfl) ?_ _
            go_simp
            go_wp2
            have HB8 : Below w.heap.size w w8 := HB7.trans (HBa.trans hb8)
            have OW8 : OwnT w8 w.heap.size A8 c8 (out ++ [(x.1, x.2 + y.2)]) := by
              unfold OwnT
              rw [tmCells_append, List.length_append]
              show w8.ownsRow w.heap.size _ 3 _ _ (_ ++ [.int .i64 x.1.1, .int .i64 x.1.2, .string (intS (x.2 + y.2))])
              rw [HS5.out]
              exact hown8
            go_roundw
            case rel => exact ⟨i + 1, k + 1, out ++ [(x.1, x.2 + y.2)], A8, c8, by omega, by omega, by go_num, by go_num, by rw [List.length_append]; rfl, HPL, by rw [List.length_append, List.length_singleton]; omega, OW8, HB8⟩
            case measure => simp [intOf]; omega
          · have HPL : Hid (R = (out ++ [y]) ++ plusP (p.drop i) (q.drop (k + 1))) := by
              have := HPLa.out
              rw [plusP_right (.inr ⟨x, _, rfl, HV1.out, HV2.out⟩)] at this
              rw [Hid, this, drop_cons (show p[i]? = some x from HPI.out), List.append_assoc]; rfl
            go_wp2_with (first | (at_builtin; refine push_tm rfl (.tmp 64) (.tmp 69) _ rfl Tryz.underlying36 w.heap.size A' c' out y.1.1 y.1.2 y.2 rfl OW6 rfl rfl (by omega) HZ6 ?_; intro A6 c6 w9 hown6 hg6 hb6) | fail)
            have HB9 : Below w.heap.size w w9 := HB6.trans hb6
            go_roundw
            case rel => exact ⟨i, k + 1, out ++ [y], A6, c6, by omega, by omega, rfl, by go_num, by rw [List.length_append]; rfl, HPL, by rw [List.length_append, List.length_singleton]; omega, hown6, HB9⟩
            case measure => simp [intOf]; omega
        · have HPL : Hid (R = (out ++ [x]) ++ plusP (p.drop (i + 1)) (q.drop k)) := by
            have := HPL.out
            rw [plusP_left (.inr ⟨y, _, rfl, HV1.out⟩)] at this
            rw [Hid, this, drop_cons (show q[k]? = some y from HQK.out), List.append_assoc]; rfl
          go_wp2_with (first | (at_builtin; refine push_tm rfl (.tmp 40) (.tmp 45) _ rfl Tryz.underlying36 w.heap.size A' c' out x.1.1 x.1.2 x.2 rfl OW5 rfl rfl (by omega) HZ5 ?_; intro A6 c6 w9 hown6 hg6 hb6) | fail)
          have HB9 : Below w.heap.size w w9 := HB5.trans hb6
          go_roundw
          case rel => exact ⟨i + 1, k, out ++ [x], A6, c6, by omega, by omega, by go_num, rfl, by rw [List.length_append]; rfl, HPL, by rw [List.length_append, List.length_singleton]; omega, hown6, HB9⟩
          case measure => simp [intOf]; omega
      · have hek : ((k : Int) == (Q : Int)) = true := by simp; omega
        have HPL : Hid (R = (out ++ [x]) ++ plusP (p.drop (i + 1)) (q.drop k)) := by
          have := HPL.out
          rw [plusP_left (.inl (List.drop_eq_nil_of_le (by rw [HQ.out]; omega)))] at this
          rw [Hid, this, List.append_assoc]; rfl
        go_wp2
        go_quiet (fail)
        go_wp2_with (first | (at_builtin; refine push_tm rfl (.tmp 40) (.tmp 45) _ rfl Tryz.underlying36 w.heap.size A' c' out x.1.1 x.1.2 x.2 rfl (by exact HO.out) rfl rfl (by omega) (by exact hsz2) ?_; intro A6 c6 w9 hown6 hg6 hb6) | fail)
        have HB9 : Below w.heap.size w w9 := (below_drewN HB.out _).trans hb6
        go_roundw
        case rel => exact ⟨i + 1, k, out ++ [x], A6, c6, by omega, by omega, by go_num, rfl, by rw [List.length_append]; rfl, HPL, by rw [List.length_append, List.length_singleton]; omega, hown6, HB9⟩
        case measure => simp [intOf]; omega
    · obtain rfl : i = P := by omega
      have hi1 : ¬ (i : Int) < (i : Int) := by omega
      have hei : ((i : Int) == (i : Int)) = true := by simp
      by_cases hkQ : k < Q
      · have hk1 : (k : Int) < (Q : Int) := by omega
        have hdk : decide ((k : Int) < (Q : Int)) = true := decide_eq_true hk1
        have hek : ((k : Int) == (Q : Int)) = false := by simp; omega
        obtain ⟨y, hy⟩ : ∃ y, q[k]? = some y := ⟨_, List.getElem?_eq_getElem (by rw [HQ.out]; exact hkQ)⟩
        obtain ⟨bq, oq, rfl, hbq, y0, y1, y2⟩ := (HS.out.below HB.out).tm hy
        have hdy := drop_cons hy
        rw [hdy] at HPL
        have HPL : Hid (R = (out ++ [y]) ++ plusP (p.drop i) (q.drop (k + 1))) := by
          have := HPL.out
          rw [plusP_right (.inl (List.drop_eq_nil_of_le (by rw [HP.out]; omega)))] at this
          rw [Hid, this, List.append_assoc]; rfl
        clear hdy hy
        go_wp2
        go_quiet (fail)
        go_wp2
        go_quiet (fail)
        go_wp2_with (first | (at_builtin; refine push_tm rfl (.tmp 64) (.tmp 69) _ rfl Tryz.underlying36 w.heap.size A' c' out y.1.1 y.1.2 y.2 rfl (by exact HO.out) rfl rfl (by omega) (by exact hsz2) ?_; intro A6 c6 w9 hown6 hg6 hb6) | fail)
        have HB9 : Below w.heap.size w w9 := (below_drewN HB.out _).trans hb6
        go_roundw
        case rel => exact ⟨i, k + 1, out ++ [y], A6, c6, by omega, by omega, rfl, by go_num, by rw [List.length_append]; rfl, HPL, by rw [List.length_append, List.length_singleton]; omega, hown6, HB9⟩
        case measure => simp [intOf]; omega
      · obtain rfl : k = Q := by omega
        have hk1 : ¬ (k : Int) < (k : Int) := by omega
        have hfin : Hid (R = out) := by
          rw [Hid, HPL.out, List.drop_eq_nil_of_le (by rw [HP.out]; exact Nat.le_refl _), List.drop_eq_nil_of_le (by rw [HQ.out]; exact Nat.le_refl _), plusP, List.append_nil]
        clear HPL
        go_wp2
        go_ret
        have hfo := hfin.out
        subst hfo
        exact ⟨A', c', rfl, HO.out, HB.out⟩
end Go.Proofs.YtplgbapbgcipdaaGreatDoor

