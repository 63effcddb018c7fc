/-
  ref18.Moved.
-/
import Derived.Test.YthbannpmfdflaaaRMove
namespace Go.Proofs.Ythbannpmfdflaaa
open Go.RowKit

theorem moveTo_bd {es : List E3} {N : Int} (hok : ∀ e ∈ es, okE N e) {s : List Int} (hs : ∀ x, 0 ≤ s.getD x 0 ∧ s.getD x 0 ≤ 1) {v : Nat} {M : Int} (hM : 0 ≤ M) {xs : List Int} (h : Bd M xs) (k : Nat) : Bd (M + 50 * k) (sendTo es s v xs k) := by
  induction k with
  | zero => simpa [sendTo] using h
  | succ k ih =>
    have ht := btw_bd hok v k
    have h1 := hs k
    have h2 := hs v
    rw [sendTo]
    split
    · exact ih.mono (by push_cast; omega)
    · have hd : -50 ≤ btw es v k * (s.getD k 0 - s.getD v 0) ∧ btw es v k * (s.getD k 0 - s.getD v 0) ≤ 50 := by
        obtain ⟨y, hy⟩ : ∃ y, s.getD k 0 - s.getD v 0 = y := ⟨_, rfl⟩
        rw [hy]
        have : y = -1 ∨ y = 0 ∨ y = 1 := by omega
        rcases this with rfl | rfl | rfl <;> omega
      exact (ih.addAt_ (by omega) v hd (by omega)).mono (by push_cast; omega)
theorem moveAll_bd {es : List E3} {N : Int} (hok : ∀ e ∈ es, okE N e) {s : List Int} (hs : ∀ x, 0 ≤ s.getD x 0 ∧ s.getD x 0 ≤ 1) {n : Nat} (hn : n ≤ 12) {M : Int} (hM : 0 ≤ M) {xs : List Int} (h : Bd M xs) (k : Nat) : Bd (M + 600 * k) (moveTo es s n xs k) := by
  induction k with
  | zero => simpa [moveTo] using h
  | succ k ih =>
    rw [moveTo]
    exact (moveTo_bd hok hs (by omega) ih n).mono (by push_cast; omega)
theorem getD_of {xs : List Int} {k : Nat} {x : Int} (h : xs[k]? = some x) : xs.getD k 0 = x := by simp [List.getD_eq_getElem?_getD, h]

set_option maxRecDepth 100000 in
set_option maxHeartbeats 4000000 in
theorem moved_any (n : Nat) (hn12 : n ≤ 12) (hn1 : 1 ≤ n) (A : Option Addr) (c : Nat) (es : List E3) (hn : es.length ≤ 1048576) (N : Int) (hok : ∀ e ∈ es, okE N e) (B : Option Addr) (d : Nat) (cs : List Int) (hcl : cs.length = n) (M : Int) (hM : 0 ≤ M ∧ M ≤ 1000000000000) (hbd : Bd M cs)
    (D : Option Addr) (f : Nat) (ss : List Int) (hsl : ss.length = n) (hss : ∀ x, 0 ≤ ss.getD x 0 ∧ ss.getD x 0 ≤ 1) (w : World)
    (h : Reads w w.heap.size 3 A es.length (edgeCells es)) (h' : Reads w w.heap.size 1 B cs.length (ints cs)) (h'' : Reads w w.heap.size 1 D ss.length (ints ss)) :
    Calls Try.prog 119 #[.agg #[.int .i64 n, .slice A es.length c], .slice B cs.length d, .slice D ss.length f] w fun e w' => ∃ g c', e = .returned (.slice (some ⟨g, 0, none⟩) n c') ∧ OwnI w' w.heap.size (some ⟨g, 0, none⟩) c' (moveTo es ss n cs n) ∧ Below w.heap.size w w' := by
  have HO := Lib.hid hok
  have HBD := Lib.hid hbd
  have HSS := Lib.hid hss
  have HSL := Lib.hid hsl
  have HCL := Lib.hid hcl
  have g0 := (Blk.new w 24 #[.int .i64 n, .slice A es.length c]).alloc (.cells #[] 3)
  have hown0 : ((w.alloc (.cells #[.int .i64 n, .slice A es.length c] 24)).alloc (.cells #[] 3)).ownsRow (w.heap.size + 1) 3 1 (.slice (some ⟨w.heap.size + 1, 0, none⟩) 0 0) 0 [] := by
    have := World.ownsRow_made (w.alloc (.cells #[.int .i64 n, .slice A es.length c] 24)) (e := 3) (size := 1) #[] 0 (Nat.le_refl _) (by simp [maxLen]) (by simp)
    rw [show (w.alloc (.cells #[.int .i64 n, .slice A es.length c] 24)).heap.size = w.heap.size + 1 from by simp] at this
    exact this
  have hr : Reads ((w.alloc (.cells #[.int .i64 n, .slice A es.length c] 24)).alloc (.cells #[] 3)) w.heap.size 1 B cs.length (ints cs) := (h'.alloc (Nat.le_refl _) _).alloc (by simp) _
  have hb0 : Below w.heap.size w ((w.alloc (.cells #[.int .i64 n, .slice A es.length c] 24)).alloc (.cells #[] 3)) := ((Below.refl _ _).alloc (Nat.le_refl _) _).alloc (by simp) _
  have hcm : cs.length ≤ 12 := by omega
  clear hok hbd hss hsl hcl
  go_enter Try.func119, Try.ntmps119
  go_wp2_with (at_builtin; refine append_go rfl (.tmp 10) (.tmp 11) _ rfl (w.heap.size + 1) 3 Try.underlying26 info_int rfl (by omega) (some ⟨w.heap.size + 1, 0, none⟩) 0 0 [] rfl hown0 w.heap.size (ints cs) rfl hr (by simp [ints, Value.oneCell']) (by omega) (by simp) ?_; intro A' c' w1 hown' hg1 hb1 _
               rw [Nat.zero_add, List.nil_append] at hown'
               have ho : OwnI w1 (w.heap.size + 1) A' c' cs := hown'
               obtain ⟨gb, rfl, hgb, _, _⟩ := ho.block (by have := HCL.out; omega)
               have hbel1 : Below w.heap.size w w1 := hb0.trans (hb1.mono (by simp))
               have g1 := g0.grown hg1 (own_blk_ne hown0 g0 (by decide))
               rw [Nat.zero_add])
  clear g0 hown0 hr hb0 hg1 hb1 hown' h'
  go_loopw [8] (fun i wr => ∃ k : Nat, k ≤ n ∧ i = .int .i64 k ∧ Below w.heap.size w wr ∧ Blk wr w.heap.size 24 #[.int .i64 n, .slice A es.length c] ∧ OwnI wr (w.heap.size + 1) (some ⟨gb, 0, none⟩) c' (moveTo es ss n cs k)) (fun i _ => n - (intOf i).toNat)
  case atStart => exact ⟨0, by omega, rfl, hbel1, g1, ho⟩
  case round =>
    obtain ⟨v, hv, rfl, hbel, g2, o2⟩ := hrel
    obtain ⟨wo, rfl⟩ : ∃ wo : World, wo = wr := ⟨_, rfl⟩
    clear hbel1 g1 ho
    have c0 := g2.cell 0
    by_cases hvn : v < n
    · have hi : (v : Int) < (n : Int) := by omega
      have hsucc : moveTo es ss n cs (v + 1) = sendTo es ss v (moveTo es ss n cs v) n := rfl
      have hbm := moveAll_bd HO.out HSS.out (n := n) hn12 hM.1 HBD.out v
      have hml : (moveTo es ss n cs v).length = n := by rw [moveTo_length]; exact HCL.out
      obtain ⟨xs, hxs⟩ : ∃ xs, moveTo es ss n cs v = xs := ⟨_, rfl⟩
      rw [hxs] at hsucc hbm hml o2
      have HSU := Lib.hid hsucc
      have HBM := Lib.hid hbm
      have HML := Lib.hid hml
      clear hsucc hbm hml hxs
      go_wp2
      go_loopw [9] (fun i wr => ∃ k : Nat, k ≤ n ∧ i = .int .i64 k ∧ Below w.heap.size w wr ∧ Blk wr w.heap.size 24 #[.int .i64 n, .slice A es.length c] ∧ OwnI wr (w.heap.size + 1) (some ⟨gb, 0, none⟩) c' (sendTo es ss v xs k)) (fun i _ => n - (intOf i).toNat)
      case atStart => exact ⟨0, by omega, rfl, hbel, g2, o2⟩
      case round =>
        obtain ⟨k, hk, rfl, hbel, g3, o3⟩ := hrel
        clear g2 o2 c0
        have c0 := g3.cell 0
        have c1 := g3.cell 1
        have hsz := hbel.size
        by_cases hkn : k < n
        · have hki : (k : Int) < (n : Int) := by omega
          have hss : sendTo es ss v xs (k + 1) = if v = k then sendTo es ss v xs k else addAt (sendTo es ss v xs k) v (btw es v k * (ss.getD k 0 - ss.getD v 0)) := rfl
          by_cases hvk : v = k
          · have hne : ((v : Int) != (k : Int)) = false := by simp; omega
            rw [if_pos hvk] at hss
            have HN := Lib.hid hss
            clear hss hvk
            go_wp2
            go_roundw
            case rel => exact ⟨k + 1, by omega, by go_num, hbel, g3, by rw [HN.out]; exact o3⟩
            case measure => simp [intOf]; omega
          · have hne : ((v : Int) != (k : Int)) = true := by simp; omega
            rw [if_neg hvk] at hss
            have hbs := moveTo_bd HO.out HSS.out (v := v) (by have := hM.1; omega) HBM.out k
            have hls : (sendTo es ss v xs k).length = n := by rw [sendTo_length]; exact HML.out
            obtain ⟨ys, hys⟩ : ∃ ys, sendTo es ss v xs k = ys := ⟨_, rfl⟩
            rw [hys] at hss hbs hls o3
            obtain ⟨y, hy⟩ := get_of_lt (xs := ys) (k := v) (by omega)
            have hyb := hbs.at_ hy
            obtain ⟨p, hp⟩ := get_of_lt (xs := ss) (k := k) (by have := HSL.out; omega)
            obtain ⟨r, hr⟩ := get_of_lt (xs := ss) (k := v) (by have := HSL.out; omega)
            have hpb := HSS.out k
            have hrb := HSS.out v
            rw [getD_of hp] at hpb hss
            rw [getD_of hr] at hrb hss
            have hbt := btw_bd HO.out (v : Int) (k : Int)
            have BC := Lib.hid (between_any n A c es hn v k wr.drew (by exact (h.below hbel).more hsz))
            obtain ⟨z, hz⟩ : ∃ z, btw es v k = z := ⟨_, rfl⟩
            rw [hz] at hss hbt BC
            have hadd : addAt ys v (z * (p - r)) = ys.set v (y + z * (p - r)) := by unfold addAt; rw [getD_of hy]
            rw [hadd] at hss
            have hD3 := (h''.below hbel)
            obtain ⟨bd, offd, rfl, hbd1, hcp⟩ := hD3.at_ (ints_at hp)
            obtain ⟨bd', offd', hAd, hbd2, hcr⟩ := hD3.at_ (ints_at hr)
            injection hAd with hAd
            injection hAd with e1 e2
            subst e1 e2
            have hvc : (v : Int) < (cs.length : Int) := by have := HCL.out; omega
            obtain ⟨_, _, q30, q40⟩ := o3.at_ (by omega)
            have e10 := q30 v
            have e20 := q40 v y hy
            have hkl : (k : Int) < (ss.length : Int) := by have := HSL.out; omega
            have hvl : (v : Int) < (ss.length : Int) := by have := HSL.out; omega
            have hmul : -50 ≤ z * (p - r) ∧ z * (p - r) ≤ 50 := by
              have : p - r = -1 ∨ p - r = 0 ∨ p - r = 1 := by omega
              rcases this with e | e | e <;> rw [e] <;> omega
            have hy1 : -1000000100000 ≤ y := by omega
            have hy2 : y ≤ 1000000100000 := by omega
            have hlo := hmul.1
            have hhi := hmul.2
            have hz0 := hbt.1
            have hz1 := hbt.2
            have hp0 := hpb.1
            have hp1 := hpb.2
            have hr0 := hrb.1
            have hr1 := hrb.2
            have HN := Lib.hid hss
            have HLY := Lib.hid hls
            have HY := Lib.hid hy
            clear hss hbs hls hys hy hyb hpb hrb hp hr hbt hz hadd hmul hD3
            go_wp2
            go_region_with (go_at_call 156; refine (BC.out).mono ?_; rintro e w' ⟨rfl, hb'⟩
                            have hb2 : Below wr.heap.size wr w' := (Below.refl _ _).drew.trans hb'
                            have o4 := o3.next hb2
                            obtain ⟨q1, q2, q3, q4⟩ := o4.at_ (by have := HLY.out; omega)
                            have e1 := q3 v
                            have e2 := q4 v y HY.out
                            have e3 := (hb2.cell (p := ⟨bd, offd + k, none⟩) (by show bd < wr.heap.size; omega)).trans hcp
                            have e4 := (hb2.cell (p := ⟨bd, offd + v, none⟩) (by show bd < wr.heap.size; omega)).trans hcr)
            all_goals (
              have BX := (hbel.trans (hb2.mono hsz)).setCell (p := ⟨gb, v, none⟩) (by simp; omega) (.int .i64 (y + z * (p - r)))
              have g4 := g3.next hb2
              have GX := g4.far (p := ⟨gb, v, none⟩) (by simp; omega) (.int .i64 (y + z * (p - r)))
              have OX := o4.put v (y + z * (p - r))
              go_wp2
              go_roundw
              case rel => exact ⟨k + 1, by omega, by go_num, ⟨BX.os, BX.tape, BX.output, BX.size, BX.block⟩, GX, by rw [HN.out]; exact OX⟩
              case measure => simp [intOf]; omega)
        · obtain rfl : k = n := by omega
          go_wp2
          go_roundw
          case rel => exact ⟨v + 1, by omega, by go_num, hbel, g3, by rw [HSU.out]; exact o3⟩
          case measure => simp [intOf]; omega
    · obtain rfl : v = n := by omega
      go_wp2
      go_ret
      have hl := HCL.out
      exact ⟨gb, c', by rw [hl]; rfl, o2.mono (by omega), hbel⟩
end Go.Proofs.Ythbannpmfdflaaa
