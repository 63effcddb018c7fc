/-
  slices.Grow of nothing, and slices.Concat of lists of ints; slices.Collect and Sorted.
-/
import Derived.Test.YthbannpmfdflaaaSeq
namespace Go.Proofs.Ythbannpmfdflaaa
open Go.RowKit Go.Shelf

set_option maxHeartbeats 1000000 in
theorem grow_any (n : Nat) (h1 : 1 ≤ n) (h2 : n ≤ 1000) (w : World) :
    Calls Try.prog 92 #[.slice none 0 0, .int .i64 n] w fun e w' => ∃ A c, e = .returned (.slice A 0 c) ∧ OwnI w' w.heap.size A c [] ∧ Below w.heap.size w w' := by
  have hp : (0 : Int) < (n : Int) := by omega
  have hp2 : 0 < n := by omega
  have hp3 : (0 : Int) ≤ (n : Int) := by omega
  have hbb : ¬ (281474976710656 : Int) < (n : Int) * (Try.t3.bytes : Int) := by rw [show Try.t3.bytes = 8 from by kernel_rfl]; omega
  have hnc : Builtin.nextslicecap n 0 = n := by unfold Builtin.nextslicecap; rw [if_pos (by omega)]
  have hbn : ¬ 281474976710656 < Builtin.nextslicecap n 0 * Try.t3.bytes := by rw [hnc, show Try.t3.bytes = 8 from by kernel_rfl]; omega
  clear hnc
  have hn0 : ¬ n = 0 := by omega
  have hnm : (n : Int) ≤ 9223372036854775807 := by omega
  have hk1 := grownCap_ge w n 0 3
  have hk2 := grownCap_le_maxLen w n 0 3 (by simp [maxLen]; omega)
  have hkd : grownCap w n 0 3 = (Question.appendCap n 0 3).cut (w.tape w.drawn (Question.appendCap n 0 3)) := rfl
  obtain ⟨K, hK⟩ : ∃ K, (Question.appendCap n 0 3).cut (w.tape w.drawn (Question.appendCap n 0 3)) = K := ⟨_, rfl⟩
  rw [hkd, hK] at hk1 hk2
  have HK := Lib.hid hK
  clear hkd hK
  have o1 : OwnI (w.alloc (.cells (Builtin.zeroCells #[.int .i64 0] n ++ Builtin.zeroCells #[.int .i64 0] (K - n)) 3)) w.heap.size (some ⟨w.heap.size, 0, none⟩) K [] :=
    ⟨by simp [ints], .inr ⟨w.heap.size, K, _, rfl, Nat.le_refl _, Blk.new w 3 _, Nat.zero_le _, hk2, by simp [size_zeroCells]; omega, by simp [ints]⟩⟩
  go_enter Try.func92, Try.ntmps92
  go_wp2
  rw [HK.out]
  go_ret
  exact ⟨_, _, rfl, o1.drew, ((Below.refl _ _).alloc (Nat.le_refl _) _).drew⟩

set_option maxHeartbeats 1000000 in
theorem collect_any (A : Option Addr) (c : Nat) (xs : List Int) (hn : xs.length ≤ 12) (bw : Nat) (w : World) (h1 : Blk w bw 25 #[.slice A xs.length c]) (h3 : Reads w w.heap.size 1 A xs.length (ints xs)) (hA : ∀ k, blockOf A k → k < w.heap.size) :
    Calls Try.prog 89 #[.func (.func 91) #[] #[.pointer (some ⟨bw, 0, none⟩)]] w fun e w' => ∃ Ar cr, e = .returned (.slice Ar xs.length cr) ∧ OwnI w' w.heap.size Ar cr xs ∧ Below w.heap.size w w' := by
  have AC := Lib.hid (appendseq_any A c xs hn bw w h1 h3 hA)
  clear h1 h3 hA
  go_enter Try.func89, Try.ntmps89
  go_wp2_with fail
  refine (AC.out).mono ?_
  rintro e w1 ⟨Ar, cr, rfl, o, hb⟩
  go_wp2
  go_ret
  exact ⟨Ar, cr, rfl, o, hb⟩
set_option maxHeartbeats 1000000 in
theorem sorted_any (A : Option Addr) (c : Nat) (xs : List Int) (h0 : 1 ≤ xs.length) (hn : xs.length ≤ 12) (bw : Nat) (w : World) (h1 : Blk w bw 25 #[.slice A xs.length c]) (h3 : Reads w w.heap.size 1 A xs.length (ints xs)) (hA : ∀ k, blockOf A k → k < w.heap.size) :
    Calls Try.prog 44 #[.func (.func 91) #[] #[.pointer (some ⟨bw, 0, none⟩)]] w fun e w' => ∃ Ar cr ys, ys.Perm xs ∧ ys.Pairwise (· ≤ ·) ∧ e = .returned (.slice Ar ys.length cr) ∧ OwnI w' w.heap.size Ar cr ys ∧ Below w.heap.size w w' := by
  have CC := Lib.hid (collect_any A c xs hn bw w h1 h3 hA)
  have SC := Lib.hid (fun A c w base h => sort_any A c xs h0 hn w base h)
  clear h1 h3 hA
  go_enter Try.func44, Try.ntmps44
  go_wp2_with fail
  refine (CC.out).mono ?_
  rintro e w1 ⟨Ar, cr, rfl, o, hb⟩
  go_wp2_with fail
  refine (SC.out _ _ _ _ o).mono ?_
  rintro e w2 ⟨rfl, ys, hp, hs, o2, hb2⟩
  have hpw : Hid (ys.Pairwise (· ≤ ·)) := by
    rw [Hid, List.pairwise_iff_getElem]
    intro i j hi hj hij
    exact hs i j hij (by omega) (by omega) _ _ (List.getElem?_eq_getElem hi) (List.getElem?_eq_getElem hj)
  have hl := hp.length_eq
  have HP := Lib.hid hp
  have HL := Lib.hid hl
  clear hp hs hl
  go_wp2
  go_ret
  exact ⟨Ar, cr, ys, HP.out, hpw.out, by rw [HL.out]; rfl, o2, hb.trans hb2⟩

set_option maxRecDepth 100000 in
set_option maxHeartbeats 4000000 in
theorem concat_any (A : Option Addr) (c : Nat) (xss : List (List Int)) (hn : xss.length ≤ 20) (h0 : 1 ≤ xss.flatten.length) (hs : xss.flatten.length ≤ 100) (w : World) (h : RowsR w w.heap.size A xss) :
    Calls Try.prog 46 #[.slice A xss.length c] w fun e w' => ∃ Ar cr, e = .returned (.slice Ar xss.flatten.length cr) ∧ OwnI w' w.heap.size Ar cr xss.flatten ∧ Below w.heap.size w w' := by
  have htk : ∀ k xs, xss[k]? = some xs → (xss.take (k + 1)).flatten = (xss.take k).flatten ++ xs := fun k xs hx => by rw [take_snoc hx]; simp
  have hle : ∀ k, (xss.take k).flatten.length ≤ xss.flatten.length := fun k => by
    have h1 : xss.flatten = (xss.take k).flatten ++ (xss.drop k).flatten := by rw [← List.flatten_append, List.take_append_drop]
    rw [h1, List.length_append]; omega
  have HTK := Lib.hid htk
  have HLE := Lib.hid hle
  obtain ⟨F, hF⟩ : ∃ F, xss.flatten = F := ⟨_, rfl⟩
  have HF := Lib.hid hF
  rw [hF] at HLE h0 hs ⊢
  clear htk hle hF
  go_enter Try.func46, Try.ntmps46
  go_wp2
  go_loopw [3, 5, 11] (fun s t5 i wr => ∃ (k m : Nat), k ≤ xss.length ∧ i = .int .i64 k ∧ s = .int .i64 m ∧ Hid (m = (xss.take k).flatten.length) ∧ m ≤ 100 ∧ w = wr) (fun _ _ i _ => xss.length - (intOf i).toNat)
  case atStart => exact ⟨0, 0, by omega, rfl, rfl, by simp [Hid], by omega, rfl⟩
  case round =>
    obtain ⟨k, m, hk, rfl, rfl, HM, hm, rfl⟩ := hrel
    by_cases hlt : k < xss.length
    · obtain ⟨xs, hx⟩ := get_of_lt hlt
      obtain ⟨b, off, A1, c1, rfl, hb, hcell, hrd⟩ := h.at_ hx
      have hi : (k : Int) < (xss.length : Int) := by omega
      have hnx := HTK.out k xs hx
      have hln := congrArg List.length hnx
      rw [List.length_append, ← HM.out] at hln
      have hl2 := HLE.out (k + 1)
      have HM2 : Hid (m + xs.length = (xss.take (k + 1)).flatten.length) := hln.symm
      have hmx : m + xs.length ≤ 100 := by omega
      have hge : (0 : Int) ≤ (m : Int) + (xs.length : Int) := by omega
      have hng : ¬ (m : Int) + (xs.length : Int) < 0 := by omega
      clear hx hnx hln hl2 hrd
      go_wp2
      go_roundw
      case rel => exact ⟨k + 1, m + xs.length, by omega, by go_num, by go_num, HM2.out, hmx, trivial⟩
      case measure => simp [intOf]; omega
    · obtain rfl : k = xss.length := by omega
      have hmF : m = F.length := by rw [HM.out, List.take_length, HF.out]
      subst hmF
      clear HM hm
      go_wp2_with fail
      refine (grow_any F.length h0 (by omega) w).mono ?_
      rintro e w1 ⟨A1, c1, rfl, o1, hb1⟩
      go_wp2
      go_loopw [6, 8, 27] (fun s t8 i wr => ∃ (k : Nat) (A2 : Option Addr) (c2 : Nat) (r : List Int), k ≤ xss.length ∧ i = .int .i64 k ∧ s = .slice A2 r.length c2 ∧ Hid (r = (xss.take k).flatten) ∧ r.length ≤ 100 ∧ OwnI wr w.heap.size A2 c2 r ∧ Below w.heap.size w wr) (fun _ _ i _ => xss.length - (intOf i).toNat)
      case atStart => exact ⟨0, A1, c1, [], by omega, rfl, rfl, by simp [Hid], by simp, o1, hb1⟩
      case round =>
        obtain ⟨k, A2, c2, r, hk, rfl, rfl, HR, hr, o2, hb2⟩ := hrel
        clear o1 hb1
        have hsz := hb2.size
        by_cases hlt : k < xss.length
        · obtain ⟨xs, hx⟩ := get_of_lt hlt
          obtain ⟨b, off, A3, c3, rfl, hb, hcell, hrd⟩ := (h.below hb2).at_ hx
          have hi : (k : Int) < (xss.length : Int) := by omega
          have hnx := HTK.out k xs hx
          rw [← HR.out] at hnx
          have hl2 := HLE.out (k + 1)
          rw [hnx, List.length_append] at hl2
          have HR2 : Hid (r ++ xs = (xss.take (k + 1)).flatten) := hnx.symm
          have hrx : r.length + xs.length ≤ 100 := by omega
          clear hx hnx hl2
          go_wp2_with (at_builtin; refine append_go rfl (.tmp 31) (.tmp 32) _ rfl w.heap.size 3 Try.underlying25 info_int rfl (by omega) A2 c2 r.length (ints r) rfl o2 _ (ints xs) rfl hrd (by simp [ints, Value.oneCell']) (by omega) (by omega) ?_; intro A7 c7 w7 hown7 hg7 hb7 hw7)
          go_roundw
          case rel =>
            refine ⟨k + 1, A7, c7, r ++ xs, by omega, by go_num, by rw [List.length_append], HR2.out, by rw [List.length_append]; omega, ?_, hb2.trans hb7⟩
            unfold OwnI
            rw [List.length_append, show ints (r ++ xs) = ints r ++ ints xs from by simp [ints]]
            exact hown7
          case measure => simp [intOf]; omega
        · obtain rfl : k = xss.length := by omega
          have hrF : r = F := by rw [HR.out, List.take_length, HF.out]
          subst hrF
          clear HR
          go_wp2
          go_ret
          exact ⟨A2, c2, rfl, o2, hb2⟩
end Go.Proofs.Ythbannpmfdflaaa
