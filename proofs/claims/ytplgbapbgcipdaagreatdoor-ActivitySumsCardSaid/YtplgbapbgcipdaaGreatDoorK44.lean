/-
  Texts of this claim, put together: Ear31, RAdd01, Awake31.
-/
import Derived.Test.YtplgbapbgcipdaaGreatDoorK43
import Derived.Test.YtplgbapbgcipdaaGreatDoorK38
import Derived.Test.YtplgbapbgcipdaaGreatDoorK41
import Derived.Test.YtplgbapbgcipdaaGreatDoorK10
import Derived.Test.YtplgbapbgcipdaaGreatDoorK07
/-! The examples of chapter 31, each by itself. -/
namespace Go.Proofs.YtplgbapbgcipdaaGreatDoor
open Go.RowKit
def tri31 : List E3 := [(0, 1, 1), (0, 2, 1), (1, 2, 1)]
theorem a31_i : intE 3 tri31 [0, 1] = ([0, 1], 0) := by decide +kernel
theorem a31_x : extE 3 tri31 [1, 2] = ([0], 0) := by decide +kernel
theorem a31_j : joinErr 3 tri31 = 0 := by decide +kernel
theorem a31_m : (endsL tri31).length ≤ 8 := by decide +kernel
theorem a31_l : (tallE 3 tri31).1.length ≤ 16384 := by decide +kernel
theorem a31_w : wtL 3 (endsL tri31) = [(2, 0), (1, 0), (0, 1)] := by decide +kernel
theorem a31_p : polyE 3 tri31 = ([((2, 0), 1), ((1, 0), 1), ((0, 1), 1)], 0) := by
  unfold polyE
  rw [if_neg (fun hc => hc a31_j), show (3 : Int).toNat = 3 from rfl, a31_w]
  simp [sumP, plusP, abv]
theorem a31_t : intvE 3 tri31 [0, 1, 2] = ([1, 2], 0) := by decide +kernel
theorem a31_u : intvE 3 tri31 [] = ([0, 1], 0) := by decide +kernel
theorem Blk.newB {w : World} {g : Nat} {t : TypeId} {cs : Array Value} (hg : g = w.heap.size) : Blk (w.alloc (.cells cs t)) g t cs := by subst hg; exact Blk.new w t cs
theorem row_litB {W : World} {g : Nat} {xs : List Int} (h : Blk W g 3 (ints xs).toArray) : Reads W W.heap.size 1 (some ⟨g, 0, none⟩) xs.length (ints xs) :=
  ⟨by simp [ints], fun _ => ⟨g, 0, rfl, h.lt, fun j u hu => by rw [Nat.zero_add, h.cell j]; simpa using hu⟩⟩
theorem tms_litB {W : World} {g : Nat} {p : List Tm} (h : Blk W g 72 (tmCells p).toArray) : Reads W W.heap.size 3 (some ⟨g, 0, none⟩) p.length (tmCells p) :=
  ⟨by rw [tmCells_length], fun _ => ⟨g, 0, rfl, h.lt, fun j u hu => by rw [Nat.zero_add, h.cell j]; simpa using hu⟩⟩
theorem below_al {w w' : World} {o : Obj} (h : Below (w.alloc o).heap.size (w.alloc o) w') : Below w.heap.size w w' := ((Below.refl _ _).alloc (Nat.le_refl _) o).trans (h.mono (by simp))
set_option maxHeartbeats 1000000 in
theorem tri31_any (w : World) : Calls Tryz.prog 42 #[] w fun e w' => ∃ A c, e = .returned (.agg #[.int .i64 3, .slice A 3 c]) ∧ Reads w' w'.heap.size 3 A tri31.length (edgeCells tri31) ∧ Below w.heap.size w w' := by
  go_enter Tryz.func42, Tryz.ntmps42
  go_wp2
  refine bodyPost_ret (results_g rfl rfl ((Blk.new w 24 #[.int .i64 3, .slice (some ⟨w.heap.size + 1, 0, none⟩) 3 3]).alloc _) rfl) rfl ?_
  have hB := Blk.new (w.alloc (.cells #[.int .i64 3, .slice (some ⟨w.heap.size + 1, 0, none⟩) 3 3] 24)) 106 (edgeCells tri31).toArray
  rw [show (w.alloc (.cells #[.int .i64 3, .slice (some ⟨w.heap.size + 1, 0, none⟩) 3 3] 24)).heap.size = w.heap.size + 1 from by simp] at hB
  refine ⟨some ⟨w.heap.size + 1, 0, none⟩, 3, rfl, ⟨by simp [edgeCells_length], fun _ => ⟨w.heap.size + 1, 0, rfl, by simp, fun j u hu => ?_⟩⟩, ((Below.refl _ _).alloc (Nat.le_refl _) _).alloc (by simp) _⟩
  rw [Nat.zero_add]
  refine (hB.cell j).trans ?_
  rw [← hu, List.getElem?_toArray]
theorem c31_int (A : Option Addr) (c : Nat) (w : World) (h : Reads w w.heap.size 3 A tri31.length (edgeCells tri31)) : Calls Tryz.prog 12 #[.agg #[.int .i64 3, .slice A 3 c], .slice (some ⟨w.heap.size, 0, none⟩) 2 2] (w.alloc (.cells (ints [0, 1]).toArray 3)) fun e w' => ∃ A1 c1, e = .returned (.tuple #[.slice A1 2 c1, .int .i64 0]) ∧ Reads w' w'.heap.size 1 A1 2 (ints [0, 1]) ∧ Below w.heap.size w w' := by
  have hb := internal_any 3 A c tri31 (by decide) (some ⟨w.heap.size, 0, none⟩) 2 [0, 1] (by decide) (w.alloc (.cells (ints [0, 1]).toArray 3)) ((h.alloc (Nat.le_refl _) _).more (by simp)) (row_litB (xs := [0, 1]) (Blk.newB rfl))
  rw [a31_i] at hb
  refine hb.mono ?_
  rintro e w' ⟨A1, c1, he, o, hb⟩
  exact ⟨A1, c1, he, o.reads, below_al hb⟩
theorem c31_ext (A : Option Addr) (c : Nat) (w : World) (h : Reads w w.heap.size 3 A tri31.length (edgeCells tri31)) : Calls Tryz.prog 14 #[.agg #[.int .i64 3, .slice A 3 c], .slice (some ⟨w.heap.size, 0, none⟩) 2 2] (w.alloc (.cells (ints [1, 2]).toArray 3)) fun e w' => ∃ A1 c1, e = .returned (.tuple #[.slice A1 1 c1, .int .i64 0]) ∧ Reads w' w'.heap.size 1 A1 1 (ints [0]) ∧ Below w.heap.size w w' := by
  have hb := external_any 3 A c tri31 (by decide) (some ⟨w.heap.size, 0, none⟩) 2 [1, 2] (by decide) (w.alloc (.cells (ints [1, 2]).toArray 3)) ((h.alloc (Nat.le_refl _) _).more (by simp)) (row_litB (xs := [1, 2]) (Blk.newB rfl))
  rw [a31_x] at hb
  refine hb.mono ?_
  rintro e w' ⟨A1, c1, he, o, hb⟩
  exact ⟨A1, c1, he, o.reads, below_al hb⟩
theorem c31_poly (A : Option Addr) (c : Nat) (w : World) (h : Reads w w.heap.size 3 A tri31.length (edgeCells tri31)) : Calls Tryz.prog 18 #[.agg #[.int .i64 3, .slice A 3 c]] w fun e w' => ∃ A1 c1, e = .returned (.tuple #[.slice A1 3 c1, .int .i64 0]) ∧ Reads w' w'.heap.size 3 A1 3 (tmCells [((2, 0), 1), ((1, 0), 1), ((0, 1), 1)]) ∧ Below w.heap.size w w' := by
  have hb := polynomial_any 3 A c tri31 (by decide) (fun _ => ⟨by decide, a31_m⟩) w h
  rw [a31_p] at hb
  refine hb.mono ?_
  rintro e w' ⟨A1, c1, he, o, hb⟩
  exact ⟨A1, c1, he, o.reads, hb⟩
theorem c31_tv (A : Option Addr) (c : Nat) (w : World) (h : Reads w w.heap.size 3 A tri31.length (edgeCells tri31)) : Calls Tryz.prog 21 #[.agg #[.int .i64 3, .slice A 3 c], .slice (some ⟨w.heap.size, 0, none⟩) 3 3] (w.alloc (.cells (ints [0, 1, 2]).toArray 3)) fun e w' => ∃ A1 c1, e = .returned (.tuple #[.slice A1 2 c1, .int .i64 0]) ∧ Reads w' w'.heap.size 1 A1 2 (ints [1, 2]) ∧ Below w.heap.size w w' := by
  have hb := interval_any 3 A c tri31 (by decide) a31_l (fun _ => Nat.le_trans a31_m (by omega)) (some ⟨w.heap.size, 0, none⟩) 3 [0, 1, 2] (by decide) (w.alloc (.cells (ints [0, 1, 2]).toArray 3)) ((h.alloc (Nat.le_refl _) _).more (by simp)) (row_litB (xs := [0, 1, 2]) (Blk.newB rfl))
  rw [a31_t] at hb
  refine hb.mono ?_
  rintro e w' ⟨A1, c1, he, o, hb⟩
  exact ⟨A1, c1, he, o, below_al hb⟩
theorem c31_uv (A : Option Addr) (c : Nat) (w : World) (h : Reads w w.heap.size 3 A tri31.length (edgeCells tri31)) : Calls Tryz.prog 21 #[.agg #[.int .i64 3, .slice A 3 c], .slice none 0 0] w fun e w' => ∃ A1 c1, e = .returned (.tuple #[.slice A1 2 c1, .int .i64 0]) ∧ Reads w' w'.heap.size 1 A1 2 (ints [0, 1]) ∧ Below w.heap.size w w' := by
  have hb := interval_any 3 A c tri31 (by decide) a31_l (fun _ => Nat.le_trans a31_m (by omega)) none 0 [] (by decide) w h Reads.nil_
  rw [a31_u] at hb
  exact hb
theorem c31_eq (l : List Int) (hl : l.length ≤ 100) (A : Option Addr) (c : Nat) (w : World) (h : Reads w w.heap.size 1 A l.length (ints l)) : Calls Tryz.prog 43 #[.slice A l.length c, .slice (some ⟨w.heap.size, 0, none⟩) l.length l.length] (w.alloc (.cells (ints l).toArray 3)) fun e w' => e = .returned (.bool true) ∧ Below w.heap.size w w' := by
  have hb := iequal_any A c l (some ⟨w.heap.size, 0, none⟩) l.length l (by omega) (w.alloc (.cells (ints l).toArray 3)) ((h.alloc (Nat.le_refl _) _).more (by simp)) (row_litB (xs := l) (Blk.newB rfl))
  refine hb.mono ?_
  rintro e w' ⟨he, hb⟩
  exact ⟨by rw [he, decide_eq_true rfl], below_al hb⟩
theorem c31_same (p : List Tm) (hl : p.length ≤ 100) (A : Option Addr) (c : Nat) (w : World) (h : Reads w w.heap.size 3 A p.length (tmCells p)) : Calls Tryz.prog 20 #[.slice A p.length c, .slice (some ⟨w.heap.size, 0, none⟩) p.length p.length] (w.alloc (.cells (tmCells p).toArray 72)) fun e w' => e = .returned (.bool true) ∧ Below w.heap.size w w' := by
  have hb := rsame06_any A c p (some ⟨w.heap.size, 0, none⟩) p.length (by omega) (w.alloc (.cells (tmCells p).toArray 72)) ((h.alloc (Nat.le_refl _) _).more (by simp)) (tms_litB (p := p) (Blk.newB rfl))
  refine hb.mono ?_
  rintro e w' ⟨he, hb⟩
  exact ⟨he, below_al hb⟩
end Go.Proofs.YtplgbapbgcipdaaGreatDoor

/-! The reference's sum of digits. -/
namespace Go.Proofs.YtplgbapbgcipdaaGreatDoor
open Go.RowKit

set_option maxHeartbeats 1000000 in
theorem rdigit01_any (A : Option Addr) (c : Nat) (l : List Nat) (j : Nat) (w : World) (h : Reads w w.heap.size 1 A l.length (ints (nI l))) :
    Calls Tryz.prog 210 #[.slice A l.length c, .int .i64 j] w fun e w' => e = .returned (.int .i64 ((l.getD j 0 : Nat) : Int)) ∧ w' = w := by
  obtain ⟨n, hn⟩ : ∃ n, l.length = n := ⟨_, rfl⟩
  rw [hn] at h ⊢
  by_cases hj : j < n
  · obtain ⟨d, hd⟩ : ∃ d, l[j]? = some d := ⟨_, List.getElem?_eq_getElem (by omega)⟩
    have hg : l.getD j 0 = d := by rw [List.getD_eq_getElem?_getD, hd]; rfl
    obtain ⟨b, off, rfl, hb, hcell⟩ := h.at_ (ints_at (show (nI l)[j]? = some (d : Int) by simp [nI, hd]))
    have hi : (j : Int) < (n : Int) := by omega
    rw [hg]
    clear h hn hd hg
    go_enter Tryz.func210, Tryz.ntmps210
    go_wp2
    go_ret
    exact ⟨rfl, rfl⟩
  · have hg : l.getD j 0 = 0 := by rw [List.getD_eq_getElem?_getD, List.getElem?_eq_none (by omega)]; rfl
    have hi : ¬ (j : Int) < (n : Int) := by omega
    rw [hg]
    clear h hn hg
    go_enter Tryz.func210, Tryz.ntmps210
    go_wp2
    go_ret
    exact ⟨rfl, rfl⟩
theorem carB_pow {x y j : Nat} (h : 0 < carB 10 x y j) : 10 ^ j ≤ x + y := by
  have h1 := car_split (B := 10) (by omega) x y j
  rcases Nat.lt_or_ge (x + y) (10 ^ j) with h2 | h2
  · rw [Nat.div_eq_of_lt h2, Nat.div_eq_of_lt (show x < 10 ^ j by omega), Nat.div_eq_of_lt (show y < 10 ^ j by omega)] at h1
    omega
  · exact h2
theorem dig_pow {x j : Nat} (h : j < (digB 10 x).length) : 10 ^ j ≤ x := by
  have h0 : 0 < x := by
    rcases Nat.eq_zero_or_pos x with h0 | h0
    · subst h0; rw [digB_zero] at h; simp at h
    · exact h0
  exact Nat.le_trans (Nat.pow_le_pow_right (by omega) (by omega)) ((digB_len (B := 10) (by omega) x).2 h0)
theorem add_done {x y j : Nat} (hx : (digB 10 x).length ≤ j) (hy : (digB 10 y).length ≤ j) (hc : carB 10 x y j = 0) (hj : j = 0 ∨ 10 ^ (j - 1) ≤ x + y) : lowB 10 (x + y) j = digB 10 (x + y) := by
  have h1 : x < 10 ^ j := Nat.lt_of_lt_of_le (digB_len (B := 10) (by omega) x).1 (Nat.pow_le_pow_right (by omega) hx)
  have h2 : y < 10 ^ j := Nat.lt_of_lt_of_le (digB_len (B := 10) (by omega) y).1 (Nat.pow_le_pow_right (by omega) hy)
  have h3 := car_split (B := 10) (by omega) x y j
  rw [Nat.div_eq_of_lt h1, Nat.div_eq_of_lt h2, hc] at h3
  have h4 : x + y < 10 ^ j := by
    rcases Nat.lt_or_ge (x + y) (10 ^ j) with h | h
    · exact h
    · have := Nat.div_pos h (Nat.pow_pos (by omega)); omega
  have h5 := low_cut (B := 10) (by omega) h4 (Nat.le_refl j) (fun i hi hi2 => by omega) (by
    rcases hj with hj | hj
    · exact .inl hj
    · by_cases hj0 : j = 0
      · exact .inl hj0
      · right
        obtain ⟨k, rfl⟩ : ∃ k, j = k + 1 := ⟨j - 1, by omega⟩
        rw [Nat.add_sub_cancel] at hj ⊢
        unfold dgt
        have h6 : 1 ≤ (x + y) / 10 ^ k := Nat.div_pos hj (Nat.pow_pos (by omega))
        have h7 : (x + y) / 10 ^ k < 10 := by
          rw [Nat.div_lt_iff_lt_mul (Nat.pow_pos (by omega)), Nat.mul_comm, ← Nat.pow_succ]; exact h4
        omega)
  rwa [List.take_of_length_le (by rw [lowB_length]; exact Nat.le_refl _)] at h5
set_option maxRecDepth 100000 in
set_option maxHeartbeats 2000000 in
theorem radded01_any (x y : Nat) (K : Nat) (hK : x + y < 10 ^ K) (hKl : K ≤ 1000) (A : Option Addr) (c : Nat) (B : Option Addr) (d : Nat) (w : World) (h : Reads w w.heap.size 1 A (digB 10 x).length (ints (nI (digB 10 x)))) (h' : Reads w w.heap.size 1 B (digB 10 y).length (ints (nI (digB 10 y)))) :
    Calls Tryz.prog 182 #[.slice A (digB 10 x).length c, .slice B (digB 10 y).length d] w fun e w' => ∃ A' c', e = .returned (.slice A' (digB 10 (x + y)).length c') ∧ OwnI w' w.heap.size A' c' (nI (digB 10 (x + y))) ∧ Below w.heap.size w w' := by
  have XC : Hid (∀ (j : Nat) (W : World), Below w.heap.size w W → Calls Tryz.prog 210 #[.slice A (digB 10 x).length c, .int .i64 j] W fun e w' => e = .returned (.int .i64 ((dgt 10 x j : Nat) : Int)) ∧ w' = W) := fun j W hB => by
    have := rdigit01_any A c (digB 10 x) j W ((h.below hB).more hB.size)
    rwa [digB_at (by omega)] at this
  have YC : Hid (∀ (j : Nat) (W : World), Below w.heap.size w W → Calls Tryz.prog 210 #[.slice B (digB 10 y).length d, .int .i64 j] W fun e w' => e = .returned (.int .i64 ((dgt 10 y j : Nat) : Int)) ∧ w' = W) := fun j W hB => by
    have := rdigit01_any B d (digB 10 y) j W ((h'.below hB).more hB.size)
    rwa [digB_at (by omega)] at this
  have hpx : ∀ j, j < (digB 10 x).length → 10 ^ j ≤ x + y := fun j hj => by have := dig_pow hj; omega
  have hpy : ∀ j, j < (digB 10 y).length → 10 ^ j ≤ x + y := fun j hj => by have := dig_pow hj; omega
  have hdone : ∀ j, (digB 10 x).length ≤ j → (digB 10 y).length ≤ j → carB 10 x y j = 0 → (j = 0 ∨ 10 ^ (j - 1) ≤ x + y) → lowB 10 (x + y) j = digB 10 (x + y) := fun j h1 h2 h3 h4 => add_done h1 h2 h3 h4
  have hKj : ∀ j, 10 ^ j ≤ x + y → j < K := fun j hj => by
    rcases Nat.lt_or_ge j K with h1 | h1
    · exact h1
    · have := Nat.pow_le_pow_right (n := 10) (by omega) h1
      omega
  obtain ⟨lx, hlx⟩ : ∃ n, (digB 10 x).length = n := ⟨_, rfl⟩
  obtain ⟨ly, hly⟩ : ∃ n, (digB 10 y).length = n := ⟨_, rfl⟩
  rw [hlx] at XC hpx hdone ⊢
  rw [hly] at YC hpy hdone ⊢
  obtain ⟨R, hR⟩ : ∃ R, digB 10 (x + y) = R := ⟨_, rfl⟩
  rw [hR] at hdone ⊢
  have HPX := Lib.hid hpx
  have HPY := Lib.hid hpy
  have HDN := Lib.hid hdone
  have HKJ := Lib.hid hKj
  clear hpx hpy hdone hKj hlx hly hR h h' hK
  go_enter Tryz.func182, Tryz.ntmps182
  go_wp2
  go_loopw [5, 6, 7] (fun o cv i wr => ∃ (j C : Nat) (A' : Option Addr) (c' : Nat), j ≤ K ∧ i = .int .i64 j ∧ cv = .int .i64 C ∧ Hid (C = carB 10 x y j) ∧ Hid (j = 0 ∨ 10 ^ (j - 1) ≤ x + y) ∧ o = .slice A' j c' ∧ Hid (OwnI wr w.heap.size A' c' (nI (lowB 10 (x + y) j))) ∧ Hid (Below w.heap.size w wr)) (fun _ _ i _ => K - (intOf i).toNat)
  case atStart => exact ⟨0, 0, none, 0, by omega, rfl, rfl, by rw [Hid, carB_zero], .inl rfl, rfl, OwnI.nil_ _ _, Below.refl _ _⟩
  case round =>
    obtain ⟨j, C, A', c', hj, rfl, rfl, HC, HJ, rfl, HO, HB⟩ := hrel
    have hsz2 := HB.out.size
    have hC1 : C ≤ 1 := by rw [HC.out]; exact carB_le (by omega) x y j
    by_cases hgo : j < lx ∨ j < ly ∨ 0 < C
    · have hpow : 10 ^ j ≤ x + y := by
        rcases hgo with hg | hg | hg
        · exact HPX.out j hg
        · exact HPY.out j hg
        · exact carB_pow (by rw [← HC.out]; exact hg)
      have hjK := HKJ.out j hpow
      have HP := Lib.hid hpow
      have X1 := Lib.hid (XC.out j wr HB.out)
      have Y1 := Lib.hid (YC.out j wr HB.out)
      have hcs := car_step (B := 10) (by omega) x y j
      have hdx := dgt_lt (B := 10) (by omega) x j
      have hdy := dgt_lt (B := 10) (by omega) y j
      rw [← HC.out] at hcs
      have hsn := lowB_snoc (B := 10) (x + y) j
      obtain ⟨dx, hx1⟩ : ∃ v, dgt 10 x j = v := ⟨_, rfl⟩
      obtain ⟨dy, hy1⟩ : ∃ v, dgt 10 y j = v := ⟨_, rfl⟩
      rw [hx1] at X1 hdx hcs
      rw [hy1] at Y1 hdy hcs
      obtain ⟨s, hs⟩ : ∃ s, C + (dx + dy) = s := ⟨_, rfl⟩
      rw [show C + dx + dy = s by omega] at hcs
      have hs20 : s ≤ 19 := by omega
      have hw1 : IntKind.i64.wrap ((dx : Int) + (dy : Int)) = (dx : Int) + (dy : Int) := IntWalk.i64_in _ (by omega)
      have hw2 : IntKind.i64.wrap ((C : Int) + ((dx : Int) + (dy : Int))) = (s : Int) := by rw [IntWalk.i64_in _ (by omega)]; omega
      have HCS := Lib.hid hcs
      have HSN := Lib.hid hsn
      obtain ⟨r, hr⟩ : ∃ r, dgt 10 (x + y) j = r := ⟨_, rfl⟩
      obtain ⟨C2, hC2⟩ : ∃ r, carB 10 x y (j + 1) = r := ⟨_, rfl⟩
      rw [hr, hC2] at hcs
      have hrem : ((s : Int)).tmod 10 = (r : Int) := by rw [← hcs.1]; simp [Int.tmod]
      have hquo : ((s : Int)).tdiv 10 = (C2 : Int) := by rw [← hcs.2]; simp [Int.tdiv]
      have hquo2 : ((s : Int)) / 10 = (C2 : Int) := by rw [← hcs.2]; simp
      have hr10 : r < 10 := by rw [← hcs.1]; omega
      have hc21 : C2 ≤ 1 := by rw [← hcs.2]; omega
      have HC2 := Lib.hid hC2
      rw [hr] at hsn
      have HSN := Lib.hid hsn
      obtain ⟨S2, hS2⟩ : ∃ S, lowB 10 (x + y) j = S := ⟨_, rfl⟩
      have hsl : S2.length = j := by rw [← hS2, lowB_length]
      rw [hS2] at HO HSN
      have OX : wr.ownsRow w.heap.size 3 1 (.slice A' j c') j (ints (nI S2)) := by have := HO.out; unfold OwnI at this; rw [nI_length, hsl] at this; exact this
      have HSL := Lib.hid hsl
      have HG := Lib.hid hgo
      have hj3 : j ≤ 1000 := by omega
      clear hgo hpow hcs hdx hdy hx1 hy1 hs hr hC2 hsn hS2 hsl
      by_cases hg1 : j < lx
      · have hi1 : (j : Int) < (lx : Int) := by omega
        have hd1 : decide ((j : Int) < (lx : Int)) = true := decide_eq_true hi1
        go_wp2_with fail
        refine (X1.out).mono ?_
        rintro e wh ⟨rfl, rfl⟩
        go_wp2_with fail
        refine (Y1.out).mono ?_
        rintro e wh ⟨rfl, rfl⟩
        go_wp2_with (first | (at_builtin; refine append_go rfl (.tmp 33) (.tmp 36) _ rfl w.heap.size 3 Tryz.underlying25 info_int rfl (by omega) A' c' j (ints (nI S2)) rfl (World.ownsRow.alloc OX _) _ [.int .i64 r] rfl (Reads.box _ _ _) (by simp [Value.oneCell']) (by omega) (by simp; omega) ?_; intro A6 c6 w6 hown6 hg6 hb6 hw6) | fail)
        have B6 : Below w.heap.size w w6 := (HB.out.alloc hsz2 _).trans hb6
        have O6 : OwnI w6 w.heap.size A6 c6 (nI (S2 ++ [r])) := by unfold OwnI; rw [nI_length, List.length_append, nI_snoc9, ints_snoc, HSL.out]; exact hown6
        go_roundw
        case rel => exact ⟨j + 1, C2, A6, c6, by omega, by go_num, by first | rfl | simp, HC2.out.symm, .inr HP.out, rfl, by rw [HSN.out]; exact O6, B6⟩
        case measure => simp [intOf]; omega
      · have hi1 : ¬ (j : Int) < (lx : Int) := by omega
        have hd1 : decide ((j : Int) < (lx : Int)) = false := decide_eq_false hi1
        by_cases hg2 : j < ly
        · have hi2 : (j : Int) < (ly : Int) := by omega
          have hd2 : decide ((j : Int) < (ly : Int)) = true := decide_eq_true hi2
          go_wp2_with fail
          refine (X1.out).mono ?_
          rintro e wh ⟨rfl, rfl⟩
          go_wp2_with fail
          refine (Y1.out).mono ?_
          rintro e wh ⟨rfl, rfl⟩
          go_wp2_with (first | (at_builtin; refine append_go rfl (.tmp 33) (.tmp 36) _ rfl w.heap.size 3 Tryz.underlying25 info_int rfl (by omega) A' c' j (ints (nI S2)) rfl (World.ownsRow.alloc OX _) _ [.int .i64 r] rfl (Reads.box _ _ _) (by simp [Value.oneCell']) (by omega) (by simp; omega) ?_; intro A6 c6 w6 hown6 hg6 hb6 hw6) | fail)
          have B6 : Below w.heap.size w w6 := (HB.out.alloc hsz2 _).trans hb6
          have O6 : OwnI w6 w.heap.size A6 c6 (nI (S2 ++ [r])) := by unfold OwnI; rw [nI_length, List.length_append, nI_snoc9, ints_snoc, HSL.out]; exact hown6
          go_roundw
          case rel => exact ⟨j + 1, C2, A6, c6, by omega, by go_num, by first | rfl | simp, HC2.out.symm, .inr HP.out, rfl, by rw [HSN.out]; exact O6, B6⟩
          case measure => simp [intOf]; omega
        · have hi2 : ¬ (j : Int) < (ly : Int) := by omega
          have hd2 : decide ((j : Int) < (ly : Int)) = false := decide_eq_false hi2
          have hi3 : (0 : Int) < (C : Int) := by rcases HG.out with h | h | h <;> omega
          have hd3 : decide ((0 : Int) < (C : Int)) = true := decide_eq_true hi3
          go_wp2_with fail
          refine (X1.out).mono ?_
          rintro e wh ⟨rfl, rfl⟩
          go_wp2_with fail
          refine (Y1.out).mono ?_
          rintro e wh ⟨rfl, rfl⟩
          go_wp2_with (first | (at_builtin; refine append_go rfl (.tmp 33) (.tmp 36) _ rfl w.heap.size 3 Tryz.underlying25 info_int rfl (by omega) A' c' j (ints (nI S2)) rfl (World.ownsRow.alloc OX _) _ [.int .i64 r] rfl (Reads.box _ _ _) (by simp [Value.oneCell']) (by omega) (by simp; omega) ?_; intro A6 c6 w6 hown6 hg6 hb6 hw6) | fail)
          have B6 : Below w.heap.size w w6 := (HB.out.alloc hsz2 _).trans hb6
          have O6 : OwnI w6 w.heap.size A6 c6 (nI (S2 ++ [r])) := by unfold OwnI; rw [nI_length, List.length_append, nI_snoc9, ints_snoc, HSL.out]; exact hown6
          go_roundw
          case rel => exact ⟨j + 1, C2, A6, c6, by omega, by go_num, by first | rfl | simp, HC2.out.symm, .inr HP.out, rfl, by rw [HSN.out]; exact O6, B6⟩
          case measure => simp [intOf]; omega
    · have hi1 : ¬ (j : Int) < (lx : Int) := by omega
      have hi2 : ¬ (j : Int) < (ly : Int) := by omega
      have hi3 : ¬ (0 : Int) < (C : Int) := by omega
      have hC0 : C = 0 := by omega
      have HF := Lib.hid (HDN.out j (by omega) (by omega) (by rw [← HC.out]; exact hC0) HJ.out)
      have hlow : (lowB 10 (x + y) j).length = j := lowB_length _ _
      rw [HF.out] at HO hlow
      have HLW := Lib.hid hlow
      have hd1 : decide ((j : Int) < (lx : Int)) = false := decide_eq_false hi1
      have hd2 : decide ((j : Int) < (ly : Int)) = false := decide_eq_false hi2
      have hd3 : decide ((0 : Int) < (C : Int)) = false := decide_eq_false hi3
      clear hgo hlow
      go_wp2
      go_ret
      exact ⟨A', c', by rw [HLW.out]; rfl, HO.out, HB.out⟩
end Go.Proofs.YtplgbapbgcipdaaGreatDoor

/-! The example of chapter 31 holds (awake of sandpilelaw31). -/
namespace Go.Proofs.YtplgbapbgcipdaaGreatDoor
open Go.RowKit
theorem one31 : (⟨#[49]⟩ : ByteArray) = intS 1 := by decide +kernel
set_option maxRecDepth 100000 in
set_option maxHeartbeats 8000000 in
theorem awake31_any (w : World) : Calls Tryz.prog 11 #[] w fun e w' => e = .returned (.bool true) ∧ Below w.heap.size w w' := by
  go_enter Tryz.func11, Tryz.ntmps11
  go_wp2_with fail
  refine (tri31_any w).mono ?_
  rintro e w1 ⟨A, c, rfl, r1, b1⟩
  have gg : Blk (w1.alloc (.cells #[.int .i64 3, .slice A 3 c] 24)) w1.heap.size 24 #[.int .i64 3, .slice A 3 c] := Blk.newB rfl
  have bg : Below w1.heap.size w1 (w1.alloc (.cells #[.int .i64 3, .slice A 3 c] 24)) := (Below.refl _ _).alloc (Nat.le_refl _) _
  obtain ⟨gb, hgb⟩ : ∃ gb, w1.heap.size = gb := ⟨_, rfl⟩
  have r2 := (r1.below bg).more bg.size
  have hB := b1.trans (bg.mono b1.size)
  obtain ⟨W2, hW2⟩ : ∃ W2, w1.alloc (.cells #[.int .i64 3, .slice A 3 c] 24) = W2 := ⟨_, rfl⟩
  rw [hW2, hgb] at gg
  rw [hW2] at r2 hB
  have HW2 := Lib.hid hW2
  have HGB := Lib.hid hgb
  have hz2 : gb + 1 = W2.heap.size := by rw [← hW2]; simp [hgb]
  have HZ2 := Lib.hid hz2
  clear bg b1 r1 hW2 hgb hz2
  have c0 : ∀ o, ((w1.alloc (.cells #[.int .i64 3, .slice A 3 c] 24)).alloc o).cell? ⟨w1.heap.size, 0, none⟩ = some (.int .i64 3) := fun o => by rw [HW2.out, HGB.out]; exact (gg.alloc o).cell 0
  have c1 : ∀ o, ((w1.alloc (.cells #[.int .i64 3, .slice A 3 c] 24)).alloc o).cell? ⟨w1.heap.size, 1, none⟩ = some (.slice A 3 c) := fun o => by rw [HW2.out, HGB.out]; exact (gg.alloc o).cell 1
  have C := c31_int A c W2 r2
  rw [← HZ2.out] at C
  have C := Lib.hid C
  go_wp2_with fail
  try rw [HW2.out]
  try rw [HGB.out]
  refine (C.out).mono ?_
  rintro e v0 ⟨A0, d0, rfl, q0, b⟩
  rw [HZ2.out] at b
  have gg := gg.next b
  have r2 := r2.next b
  have hB := hB.trans (b.mono hB.size)
  clear b c0 c1 C
  have c0 := gg.cell 0
  have c1 := gg.cell 1
  have C := Lib.hid (c31_ext A c v0 r2)
  go_wp2_with fail
  refine (C.out).mono ?_
  rintro e v1 ⟨A1, d1, rfl, q1, b⟩
  have q0 := q0.next b
  have gg := gg.next b
  have r2 := r2.next b
  have hB := hB.trans (b.mono hB.size)
  clear b c0 c1 C
  have c0 := gg.cell 0
  have c1 := gg.cell 1
  have C := Lib.hid (c31_poly A c v1 r2)
  go_wp2_with fail
  refine (C.out).mono ?_
  rintro e v2 ⟨A2, d2, rfl, q2, b⟩
  have q0 := q0.next b
  have q1 := q1.next b
  have gg := gg.next b
  have r2 := r2.next b
  have hB := hB.trans (b.mono hB.size)
  clear b c0 c1 C
  have c0 := gg.cell 0
  have c1 := gg.cell 1
  have C := Lib.hid (c31_tv A c v2 r2)
  go_wp2_with fail
  refine (C.out).mono ?_
  rintro e v3 ⟨A3, d3, rfl, q3, b⟩
  have q0 := q0.next b
  have q1 := q1.next b
  have q2 := q2.next b
  have gg := gg.next b
  have r2 := r2.next b
  have hB := hB.trans (b.mono hB.size)
  clear b c0 c1 C
  have c0 := gg.cell 0
  have c1 := gg.cell 1
  have C := Lib.hid (c31_uv A c v3 r2)
  go_wp2_with fail
  refine (C.out).mono ?_
  rintro e v4 ⟨A4, d4, rfl, q4, b⟩
  have q0 := q0.next b
  have q1 := q1.next b
  have q2 := q2.next b
  have q3 := q3.next b
  have gg := gg.next b
  have r2 := r2.next b
  have hB := hB.trans (b.mono hB.size)
  clear b c0 c1 C
  have C := Lib.hid (c31_eq [0, 1] (by decide) A0 d0 v4 q0)
  go_wp2_with fail
  refine (C.out).mono ?_
  rintro e v5 ⟨rfl, b⟩
  have q1 := q1.next b
  have q2 := q2.next b
  have q3 := q3.next b
  have q4 := q4.next b
  have hB := hB.trans (b.mono hB.size)
  clear b C
  have C := Lib.hid (c31_eq [0] (by decide) A1 d1 v5 q1)
  go_wp2_with fail
  refine (C.out).mono ?_
  rintro e v6 ⟨rfl, b⟩
  have q2 := q2.next b
  have q3 := q3.next b
  have q4 := q4.next b
  have hB := hB.trans (b.mono hB.size)
  clear b C
  have C := Lib.hid (c31_same [((2, 0), 1), ((1, 0), 1), ((0, 1), 1)] (by decide) A2 d2 v6 q2)
  have C : Hid (Calls Tryz.prog 20 #[.slice A2 3 d2, .slice (some ⟨v6.heap.size, 0, none⟩) 3 3] (v6.alloc (.cells #[.int .i64 2, .int .i64 0, .string ⟨#[49]⟩, .int .i64 1, .int .i64 0, .string ⟨#[49]⟩, .int .i64 0, .int .i64 1, .string ⟨#[49]⟩] 72)) fun e w' => e = .returned (.bool true) ∧ Below v6.heap.size v6 w') := by rw [one31]; exact C
  go_wp2_with fail
  refine (C.out).mono ?_
  rintro e v7 ⟨rfl, b⟩
  have q3 := q3.next b
  have q4 := q4.next b
  have hB := hB.trans (b.mono hB.size)
  clear b C
  have C := Lib.hid (c31_eq [1, 2] (by decide) A3 d3 v7 q3)
  go_wp2_with fail
  refine (C.out).mono ?_
  rintro e v8 ⟨rfl, b⟩
  have q4 := q4.next b
  have hB := hB.trans (b.mono hB.size)
  clear b C
  have C := Lib.hid (c31_eq [0, 1] (by decide) A4 d4 v8 q4)
  go_wp2_with fail
  refine (C.out).mono ?_
  rintro e v9 ⟨rfl, b⟩
  have hB := hB.trans (b.mono hB.size)
  clear b C
  go_wp2
  go_ret
  exact ⟨rfl, hB⟩
end Go.Proofs.YtplgbapbgcipdaaGreatDoor

