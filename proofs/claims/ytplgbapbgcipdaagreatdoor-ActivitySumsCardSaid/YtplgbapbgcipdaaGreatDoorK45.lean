/-
  Texts of this claim, put together: RPlus01.
-/
import Derived.Test.YtplgbapbgcipdaaGreatDoorK44
import Derived.Laws.IdiomStrings
/-! The reference's text of digits, its sign, and its sum of positive numerals. -/
namespace Go.Proofs.YtplgbapbgcipdaaGreatDoor
open Go.RowKit

/-- The text of the lowest digits. -/
def lowS (D : List Nat) (i : Nat) : ByteArray := ⟨((D.take i).reverse.map asc).toArray⟩
theorem lowS_end {n : Nat} (h : 0 < n) : lowS (digB 10 n) (digB 10 n).length = intS n := by
  have h1 := intS_dig h
  unfold lowS
  rw [List.take_length, ← h1]
set_option maxRecDepth 100000 in
set_option maxHeartbeats 2000000 in
theorem rtext01_any (n : Nat) (h0 : 0 < n) (hn : (digB 10 n).length ≤ 1000) (A : Option Addr) (c : Nat) (w : World) (h : Reads w w.heap.size 1 A (digB 10 n).length (ints (nI (digB 10 n)))) :
    Calls Tryz.prog 181 #[.slice A (digB 10 n).length c, .bool false] w fun e w' => e = .returned (.string (intS n)) ∧ Below w.heap.size w w' := by
  have hend := lowS_end h0
  obtain ⟨D, hD⟩ : ∃ D, digB 10 n = D := ⟨_, rfl⟩
  have hlt : ∀ d ∈ D, d < 10 := fun d hd => by rw [← hD] at hd; exact digB_lt (by omega) hd
  have hne : D ≠ [] := by rw [← hD]; intro hc; have := (digB_nil (B := 10) (by omega)).1 hc; omega
  have hlp := List.length_pos_iff.2 hne
  rw [hD] at h hn hend ⊢
  obtain ⟨L, hL⟩ : ∃ L, D.length = L := ⟨_, rfl⟩
  rw [hL] at h hn hend hlp ⊢
  have HL := Lib.hid hL
  have HLT := Lib.hid hlt
  have HEND := Lib.hid hend
  have HR := Lib.hid h
  have hLz : ((L : Int) == 0) = false := by simp; omega
  clear hlt hne hD hend h hL
  go_enter Tryz.func181, Tryz.ntmps181
  go_wp2
  go_loopw [5, 6] (fun sv i wr => ∃ k : Nat, k ≤ L ∧ i = .int .i64 k ∧ sv = .string (lowS D k) ∧ Below w.heap.size w wr) (fun _ i _ => L - (intOf i).toNat)
  case atStart => exact ⟨0, by omega, rfl, rfl, Below.refl _ _⟩
  case round =>
    obtain ⟨k, hk, rfl, rfl, hb⟩ := hrel
    by_cases hlt : k < L
    · have hi : (k : Int) < (L : Int) := by omega
      obtain ⟨d, hd⟩ : ∃ d, D[k]? = some d := ⟨_, List.getElem?_eq_getElem (by rw [HL.out]; exact hlt)⟩
      have hd10 := HLT.out d (List.mem_of_getElem? hd)
      obtain ⟨b', off', rfl, hb', hcell⟩ := (HR.out.below hb).at_ (ints_at (show (nI D)[k]? = some (d : Int) by simp [nI, hd]))
      have htk : D.take (k + 1) = D.take k ++ [d] := take_snoc hd
      obtain ⟨s, hs⟩ : ∃ s, lowS D k = s := ⟨_, rfl⟩
      rw [hs]
      have hab := asc_nat hd10
      obtain ⟨b, hbb⟩ : ∃ b, 48 + d = b := ⟨_, rfl⟩
      rw [hbb] at hab
      have hw48 : IntKind.i64.wrap (48 + (d : Int)) = (b : Int) := by rw [IntWalk.i64_in _ (by omega)]; omega
      have hu8 : IntKind.u8.wrap (b : Int) = (b : Int) := by simp [IntKind.wrap, IntKind.bits, IntKind.signed]; omega
      have hcv : (convert 144 9 (.slice (some ⟨wr.heap.size, 0, none⟩) 1 1)).run Tryz.prog (wr.alloc (.cells #[.int .u8 (b : Int)] 5)) = .ok (.string ⟨#[asc d]⟩) (wr.alloc (.cells #[.int .u8 (b : Int)] 5)) := by
        have h1 := run_convert_bytes_back (P := Tryz.prog) (wr.alloc (.cells #[.int .u8 (b : Int)] 5)) 144 9 5 ⟨wr.heap.size, 0, none⟩ 1 [asc d] Tryz.underlying144 Tryz.underlying5 Tryz.underlying9 (fun j hj => by
          have hj0 : j = 0 := by simp at hj; omega
          subst hj0
          have := (Blk.new wr 5 #[.int .u8 (b : Int)]).cell 0
          simp only [List.getElem_cons_zero, hab]
          exact this)
        exact h1
      have HSN : Hid (lowS D (k + 1) = ⟨#[asc d] ++ (lowS D k).data⟩) := by
        rw [Hid]
        unfold lowS
        rw [htk, List.reverse_append]
        simp
      rw [hs] at HSN
      have HTK := Lib.hid htk
      have HS := Lib.hid hs
      have hsz : s.size = k := by
        rw [← hs]
        unfold lowS
        rw [Lib.size_eq]
        simp [HL.out]
        omega
      have hbig : ¬ 9223372036854775807 < 1 + s.size := by rw [hsz]; omega
      have HAP : Hid ((⟨#[asc d]⟩ : ByteArray) ++ s = ⟨#[asc d] ++ s.data⟩) := ByteArray.ext (by simp [ByteArray.data_append])
      have hB6 : Below w.heap.size w (wr.alloc (.cells #[.int .u8 (b : Int)] 5)) := hb.alloc hb.size _
      clear htk hs hd hd10 hab hbb hsz
      go_wp2
      go_roundw
      case rel => exact ⟨k + 1, by omega, by go_num, by rw [HSN.out, ← HAP.out], hB6⟩
      case measure => simp [intOf]; omega
    · obtain rfl : k = L := by omega
      have hf : ¬ (k : Int) < (k : Int) := by omega
      rw [HEND.out]
      go_wp2
      go_ret
      exact ⟨rfl, hb⟩
set_option maxHeartbeats 1000000 in
theorem rminus01_any (n : Nat) (h0 : 0 < n) (w : World) : Calls Tryz.prog 180 #[.string (intS n)] w fun e w' => e = .returned (.bool false) ∧ w' = w := by
  have hs := intS_dig h0
  have hlt : ∀ d ∈ digB 10 n, d < 10 := fun d hd => digB_lt (by omega) hd
  obtain ⟨D, hD⟩ : ∃ D, digB 10 n = D := ⟨_, rfl⟩
  have hne : D ≠ [] := by rw [← hD]; intro hc; have := (digB_nil (B := 10) (by omega)).1 hc; omega
  rw [hD] at hs hlt
  have hlp := List.length_pos_iff.2 hne
  obtain ⟨d, hd⟩ : ∃ d, D[D.length - 1]? = some d := ⟨_, List.getElem?_eq_getElem (by omega)⟩
  have hd10 := hlt d (List.mem_of_getElem? hd)
  have h1 : (D.reverse.map asc)[0]? = some (asc d) := by
    rw [List.getElem?_map, List.getElem?_reverse (by omega), show D.length - 1 - 0 = D.length - 1 by omega, hd]
    rfl
  have hab := asc_nat hd10
  have hat := fun W => str_at2 60 Tryz.underlying60 W hs h1
  obtain ⟨b, hb⟩ : ∃ b, (asc d).toNat = b := ⟨_, rfl⟩
  rw [hb] at hat hab
  have hat : ∀ W, (Instr.index 60 (.string (intS n)) (.int .i64 0)).run Tryz.prog W = .ok (.int .u8 (b : Int)) W := hat
  have h45 : ((b : Int) == 45) = false := by simp; omega
  obtain ⟨s, hss⟩ : ∃ s, intS n = s := ⟨_, rfl⟩
  rw [hss] at hat ⊢
  clear hs hlt hD hne hlp hd hd10 h1 hab hb hss
  go_enter Tryz.func180, Tryz.ntmps180
  go_wp2
  go_ret
  exact ⟨rfl, rfl⟩
set_option maxRecDepth 100000 in
set_option maxHeartbeats 2000000 in
theorem rplus01_any (x y : Nat) (hx : 0 < x) (hy : 0 < y) (hb : x + y < 10 ^ 100) (w : World) :
    Calls Tryz.prog 145 #[.string (intS x), .string (intS y)] w fun e w' => e = .returned (.string (intS ((x + y : Nat) : Int))) ∧ Below w.heap.size w w' := by
  have hdl : ∀ n, n < 10 ^ 100 → (digB 10 n).length ≤ 100 := fun n hn => by
    rcases Nat.eq_zero_or_pos n with h0 | h0
    · subst h0; rw [digB_zero]; simp
    · have h1 := (digB_len (B := 10) (by omega) n).2 h0
      rcases Nat.lt_or_ge 100 (digB 10 n).length with h2 | h2
      · have := Nat.pow_le_pow_right (n := 10) (by omega) (show 100 ≤ (digB 10 n).length - 1 by omega)
        omega
      · exact h2
  have DX := Lib.hid (rdigits01_any x hx (by have := hdl x (by omega); omega))
  have DY := Lib.hid (rdigits01_any y hy (by have := hdl y (by omega); omega))
  have MX := Lib.hid (rminus01_any x hx)
  have MY := Lib.hid (rminus01_any y hy)
  have AD := Lib.hid (fun A c B d W h h' => radded01_any x y 100 hb (by omega) A c B d W h h')
  have TX := Lib.hid (fun A c W h => rtext01_any (x + y) (by omega) (by have := hdl (x + y) hb; omega) A c W h)
  obtain ⟨dx, hdx⟩ : ∃ l, digB 10 x = l := ⟨_, rfl⟩
  obtain ⟨dy, hdy⟩ : ∃ l, digB 10 y = l := ⟨_, rfl⟩
  obtain ⟨ds, hds⟩ : ∃ l, digB 10 (x + y) = l := ⟨_, rfl⟩
  rw [hdx] at DX AD
  rw [hdy] at DY AD
  rw [hds] at AD TX
  obtain ⟨sx, hsx⟩ : ∃ s, intS x = s := ⟨_, rfl⟩
  obtain ⟨sy, hsy⟩ : ∃ s, intS y = s := ⟨_, rfl⟩
  obtain ⟨ss, hss⟩ : ∃ s, intS ((x + y : Nat) : Int) = s := ⟨_, rfl⟩
  rw [hsx] at DX MX
  rw [hsy] at DY MY
  rw [hss] at TX
  rw [hsx, hsy, hss]
  clear hdl hx hy hb hdx hdy hds hsx hsy hss
  obtain ⟨nx, hnx⟩ : ∃ n, dx.length = n := ⟨_, rfl⟩
  obtain ⟨ny, hny⟩ : ∃ n, dy.length = n := ⟨_, rfl⟩
  obtain ⟨ns, hns⟩ : ∃ n, ds.length = n := ⟨_, rfl⟩
  rw [hnx] at DX AD
  rw [hny] at DY AD
  rw [hns] at AD TX
  have HX := Lib.hid hnx
  have HY := Lib.hid hny
  have HS := Lib.hid hns
  clear hnx hny hns
  go_enter Tryz.func145, Tryz.ntmps145
  go_wp2_with fail
  refine (DX.out _).mono ?_
  rintro e w1 ⟨A1, c1, rfl, o1, hB⟩
  have r1 := o1.reads
  rw [nI_length, HX.out] at r1
  clear o1
  go_wp2_with fail
  refine (DY.out _).mono ?_
  rintro e w2 ⟨A2, c2, rfl, o2, hb2⟩
  have r1 := r1.next hb2
  have r2 := o2.reads
  rw [nI_length, HY.out] at r2
  have hB := hB.trans (hb2.mono hB.size)
  clear o2 hb2
  go_wp2_with fail
  refine (MX.out _).mono ?_
  rintro e wh ⟨rfl, rfl⟩
  go_wp2_with fail
  refine (MY.out _).mono ?_
  rintro e wh ⟨rfl, rfl⟩
  go_wp2_with fail
  refine (AD.out _ _ _ _ _ r1 r2).mono ?_
  rintro e w3 ⟨A3, c3, rfl, o3, hb3⟩
  have r3 := o3.reads
  rw [nI_length, HS.out] at r3
  have hB := hB.trans (hb3.mono hB.size)
  clear o3 hb3
  go_wp2_with fail
  refine (MX.out _).mono ?_
  rintro e wh ⟨rfl, rfl⟩
  go_wp2_with fail
  refine (TX.out _ _ _ r3).mono ?_
  rintro e w4 ⟨rfl, hb4⟩
  have hB := hB.trans (hb4.mono hB.size)
  go_wp2
  go_ret
  exact ⟨rfl, hB⟩
end Go.Proofs.YtplgbapbgcipdaaGreatDoor

