/-
  Texts of this claim, put together: TSwap, TPar, EarP.
-/
import Derived.Test.YtepmfbgmkfkmkaaK17
import Derived.Test.YtepmfbgmkfkmkaaK15
import Derived.Test.YtepmfbgmkfkmkaaK09
import Derived.Test.YtepmfbgmkfkmkaaK14
/-! Package tree: Swap. -/
namespace Go.Proofs.Ytepmfbgmkfkmkaa
open Go.RowKit

/-- The list that Swap tries. -/
def tswapL (xs : List Int) (o i : Int) : List Int := sortG ltI ((xs.filter fun x => !decide (x = o)) ++ [i])
/-- What Swap returns. -/
def swapE (n : Int) (es : List E3) (xs : List Int) (o i : Int) : List Int × Int :=
  if treeErr n es xs ≠ 0 then ([], treeErr n es xs) else if ¬ (0 ≤ o ∧ o < ((endsL es).length : Int)) ∨ ¬ (0 ≤ i ∧ i < ((endsL es).length : Int)) then ([], 2) else if o ∉ xs then ([], 6) else if i ∈ xs then ([], 7) else
    if spansB n.toNat (endsL es) (toN (tswapL xs o i)) = true then (tswapL xs o i, 0) else ([], 15)
theorem nI_toN {xs : List Int} (h : ∀ x ∈ xs, 0 ≤ x) : nI (toN xs) = xs := by
  unfold nI toN
  rw [List.map_map]
  conv => rhs; rw [← List.map_id xs]
  refine List.map_congr_left fun x hx => ?_
  have := h x hx
  simp only [Function.comp, id]; omega
theorem swap_mem {xs : List Int} {o i x : Int} (h : x ∈ tswapL xs o i) : x ∈ xs ∨ x = i := by
  have := (sortG_perm _).mem_iff.1 h
  rcases List.mem_append.1 this with h | h
  · exact .inl (List.mem_filter.1 h).1
  · exact .inr (by simpa using h)

set_option maxRecDepth 100000 in
set_option maxHeartbeats 8000000 in
theorem tswap_ok (m : Nat) (A : Option Addr) (c : Nat) (es : List E3) (hn : es.length ≤ 10000) (hel : (endsL es).length ≤ 1000000) (B : Option Addr) (d : Nat) (t : List Nat) (hR : TreeR m es t) (ht : t.length ≤ 11) (o i : Int) (w : World) (h : Reads w w.heap.size 3 A es.length (edgeCells es)) (h' : Reads w w.heap.size 1 B (nI t).length (ints (nI t))) (hj : treeErr m es (nI t) = 0) :
    Calls Try.prog 26 #[.agg #[.int .i64 m, .slice A es.length c], .slice B (nI t).length d, .int .i64 o, .int .i64 i] w fun e w' => ∃ A' c', e = .returned (.tuple #[.slice A' (swapE m es (nI t) o i).1.length c', .int .i64 (swapE m es (nI t) o i).2]) ∧ OwnI w' w.heap.size A' c' (swapE m es (nI t) o i).1 ∧ Below w.heap.size w w' := by
  have hnl := nI_length t
  have hm12 := hR.hi
  have hm1 := hR.lo
  have hm : (nI t).length ≤ 1048576 := by omega
  have GC := Lib.hid (fun (W : World) (hB : Below w.heap.size w W) => checked_any m A c es hn B d (nI t) hm W ((h.below hB).more hB.size) ((h'.below hB).more hB.size))
  have g0 := Blk.new w 24 #[.int .i64 m, .slice A es.length c]
  have hb0 : Below w.heap.size w (w.alloc (.cells #[.int .i64 m, .slice A es.length c] 24)) := (Below.refl _ _).alloc (Nat.le_refl _) _
  have c0 := g0.cell 0
  have c1 := g0.cell 1
  rw [hj] at GC
  have HE : Hid (swapE m es (nI t) o i = if ¬ (0 ≤ o ∧ o < ((endsL es).length : Int)) ∨ ¬ (0 ≤ i ∧ i < ((endsL es).length : Int)) then ([], 2) else if o ∉ nI t then ([], 6) else if i ∈ nI t then ([], 7) else
    if spansB m (endsL es) (toN (tswapL (nI t) o i)) = true then (tswapL (nI t) o i, 0) else ([], 15)) := by
    unfold Hid swapE
    rw [if_neg (fun hc => hc hj), Int.toNat_natCast]
  obtain ⟨P, hP⟩ : ∃ P, swapE m es (nI t) o i = P := ⟨_, rfl⟩
  rw [hP] at HE ⊢
  have hx0 : ∀ W, (Instr.index 31 (.agg #[.int .i64 o, .int .i64 i]) (.int .i64 0)).run Try.prog W = .ok (.int .i64 o) W := fun _ => rfl
  have hx1 : ∀ W, (Instr.index 31 (.agg #[.int .i64 o, .int .i64 i]) (.int .i64 1)).run Try.prog W = .ok (.int .i64 i) W := fun _ => rfl
  have CC := Lib.hid (fun (x : Int) (W : World) (hB : Below w.heap.size w W) => contains_any B d (nI t) hm x W ((h'.below hB).more hB.size))
  have WC := Lib.hid (fun (W : World) (hB : Below w.heap.size w W) => withint_any B d (nI t) o (by omega) W ((h'.below hB).more hB.size))
  have HBD := Lib.hid (bd_ends hR.hG)
  have HTE : Hid (∀ x ∈ nI t, 0 ≤ x ∧ x < ((endsL es).length : Int)) := fun x hx => by
    obtain ⟨y, hy, rfl⟩ := List.mem_map.1 hx
    have := hR.hT.lt y hy
    omega
  have HFL : Hid (((nI t).filter fun x => !decide (x = o)).length ≤ 11) := Nat.le_trans (List.length_filter_le _ _) (by omega)
  obtain ⟨E, hE⟩ : ∃ E, endsL es = E := ⟨_, rfl⟩
  rw [hE] at GC hel HBD HTE HE
  have SP := Lib.hid (fun (Ar : Option Addr) (cr : Nat) (s : List Int) (hs : ∀ x ∈ s, 0 ≤ x ∧ x < (E.length : Int)) (hsl : s.length ≤ 12) (A' : Option Addr) (c' : Nat) (W : World) (hr : Reads W W.heap.size 2 Ar E.length (pair2 E)) (hr2 : Reads W W.heap.size 1 A' s.length (ints s)) =>
    show Calls Try.prog 64 #[.int .i64 m, .slice Ar E.length cr, .slice A' s.length c'] W fun e w' => e = .returned (.bool (spansB m E (toN s))) ∧ Below W.heap.size W w' from by
      have h1 := nI_toN (fun x hx => (hs x hx).1)
      have h2 : (toN s).length = s.length := by simp [toN]
      have := spans_any m hm1 hm12 E HBD.out hel Ar cr (toN s) (fun e he => by obtain ⟨x, hx, rfl⟩ := List.mem_map.1 he; have := hs x hx; omega) (by omega) A' c' W hr (by rw [h1, h2]; exact hr2)
      rw [h2] at this
      exact this)
  rw [hnl] at GC CC WC h' ⊢
  have HEL := Lib.hid hel
  clear hj hR hE hnl hm h h' hel hP
  go_enter Try.func26, Try.ntmps26
  go_wp2_with fail
  refine (GC.out _ hb0).mono ?_
  rintro e w1 ⟨Ar, lr, cr, rfl, hg1, _, hb1⟩
  obtain ⟨rfl, HQ⟩ := hg1 rfl
  have HQ : Hid (OwnQ w1 w.heap.size Ar cr E) := own_rebase2 HQ hb0.size
  have B1 := Lib.hid (hb0.trans (hb1.mono hb0.size))
  have g1 := g0.next hb1
  clear hb1 hb0 g0 c0 c1 GC
  go_wp2_with fail
  go_loopw [13, 27] (fun _ j wr => ∃ (k : Nat), k ≤ 2 ∧ j = .int .i64 k ∧ (1 ≤ k → 0 ≤ o ∧ o < (E.length : Int)) ∧ (2 ≤ k → 0 ≤ i ∧ i < (E.length : Int)) ∧ w1 = wr) (fun _ j _ => 2 - (intOf j).toNat)
  case atStart => exact ⟨0, by omega, rfl, fun h => absurd h (by omega), fun h => absurd h (by omega), rfl⟩
  case round =>
    obtain ⟨k, hk, rfl, hr1, hr2, rfl⟩ := hrel
    rcases (show k = 0 ∨ k = 1 ∨ k = 2 by omega) with rfl | rfl | rfl
    · by_cases h1 : 0 ≤ o
      · by_cases h2 : o < (E.length : Int)
        · have hd1 : ¬ o < 0 := by omega
          have hd2 : ¬ (E.length : Int) ≤ o := by omega
          go_wp2
          go_roundw
          case rel => exact ⟨1, by omega, rfl, fun _ => ⟨h1, h2⟩, fun h => absurd h (by omega), trivial⟩
          case measure => simp [intOf]
        · have hd1 : ¬ o < 0 := by omega
          have hd2 : (E.length : Int) ≤ o := by omega
          have hp : Hid (P = ([], 2)) := HE.out.trans (if_pos (.inl fun hc => h2 hc.2))
          clear h1 h2
          go_wp2
          go_ret2
          exact ⟨none, 0, by rw [hp.out]; rfl, by rw [hp.out]; exact OwnI.nil_ _ _, B1.out⟩
      · have hd1 : o < 0 := by omega
        have hp : Hid (P = ([], 2)) := HE.out.trans (if_pos (.inl fun hc => h1 hc.1))
        clear h1
        go_wp2
        go_ret2
        exact ⟨none, 0, by rw [hp.out]; rfl, by rw [hp.out]; exact OwnI.nil_ _ _, B1.out⟩
    · by_cases h1 : 0 ≤ i
      · by_cases h2 : i < (E.length : Int)
        · have hd1 : ¬ i < 0 := by omega
          have hd2 : ¬ (E.length : Int) ≤ i := by omega
          go_wp2
          go_roundw
          case rel => exact ⟨2, by omega, rfl, fun _ => hr1 (by omega), fun _ => ⟨h1, h2⟩, trivial⟩
          case measure => simp [intOf]
        · have hd1 : ¬ i < 0 := by omega
          have hd2 : (E.length : Int) ≤ i := by omega
          have hp : Hid (P = ([], 2)) := HE.out.trans (if_pos (.inr fun hc => h2 hc.2))
          clear h1 h2
          go_wp2
          go_ret2
          exact ⟨none, 0, by rw [hp.out]; rfl, by rw [hp.out]; exact OwnI.nil_ _ _, B1.out⟩
      · have hd1 : i < 0 := by omega
        have hp : Hid (P = ([], 2)) := HE.out.trans (if_pos (.inr fun hc => h1 hc.1))
        clear h1
        go_wp2
        go_ret2
        exact ⟨none, 0, by rw [hp.out]; rfl, by rw [hp.out]; exact OwnI.nil_ _ _, B1.out⟩
    · have ho := hr1 (by omega)
      have hi := hr2 (by omega)
      have HE := Lib.hid (HE.out.trans (if_neg (by rintro (h | h) <;> contradiction)))
      have HI := Lib.hid hi
      clear hr1 hr2 ho hi
      have C1 := Lib.hid (CC.out o w1 B1.out)
      have C2 := Lib.hid (CC.out i w1 B1.out)
      by_cases hoi : o ∈ nI t
      · rw [decide_eq_true hoi] at C1
        have HE := Lib.hid (HE.out.trans (if_neg (fun hc => hc hoi)))
        by_cases hii : i ∈ nI t
        · rw [decide_eq_true hii] at C2
          have hp : Hid (P = ([], 7)) := HE.out.trans (if_pos hii)
          clear hoi hii
          go_wp2_with (first
            | (go_at_call 31; (with_reducible refine (C1.out).mono ?_); rintro e w5 ⟨rfl, rfl⟩)
            | (go_at_call 31; (with_reducible refine (C2.out).mono ?_); rintro e w5 ⟨rfl, rfl⟩))
          go_ret2
          exact ⟨none, 0, by rw [hp.out]; rfl, by rw [hp.out]; exact OwnI.nil_ _ _, B1.out⟩
        · rw [decide_eq_false hii] at C2
          have HE := Lib.hid (HE.out.trans (if_neg hii))
          clear hoi hii
          have W1 := Lib.hid (WC.out w1 B1.out)
          obtain ⟨fs, hfs⟩ : ∃ fs, ((nI t).filter fun x => !decide (x = o)) = fs := ⟨_, rfl⟩
          have HFS : Hid (∀ x ∈ fs, 0 ≤ x ∧ x < (E.length : Int)) := fun x hx => HTE.out x (by rw [← hfs] at hx; exact (List.mem_filter.1 hx).1)
          rw [hfs] at W1 HFL
          have HSW : Hid (tswapL (nI t) o i = sortG ltI (fs ++ [i])) := by unfold Hid tswapL; rw [hfs]
          rw [HSW.out] at HE
          have SC : Hid (∀ (A' : Option Addr) (c' : Nat) (W : World), OwnI W w1.heap.size A' c' (fs ++ [i]) → Calls Try.prog 55 #[.slice A' (fs.length + 1) c'] W fun e w' => e = .returned (.tuple #[]) ∧ OwnI w' w1.heap.size A' c' (sortG ltI (fs ++ [i])) ∧ Below w1.heap.size W w') := by
            intro A' c' W hO
            have h1 : (fs ++ [i]).length = fs.length + 1 := by simp
            have := sortx_any A' c' (fs ++ [i]) (by omega) (by have := HFL.out; omega) W w1.heap.size hO
            rw [h1] at this
            exact this
          have HSl : Hid ((sortG ltI (fs ++ [i])).length = fs.length + 1) := by
            unfold Hid
            rw [(sortG_perm _).length_eq]; simp
          have HSM : Hid (∀ x ∈ sortG ltI (fs ++ [i]), 0 ≤ x ∧ x < (E.length : Int)) := fun x hx => by
            rcases List.mem_append.1 ((sortG_perm _).mem_iff.1 hx) with h | h
            · exact HFS.out x h
            · rw [show x = i by simpa using h]; exact HI.out
          obtain ⟨S, hS⟩ : ∃ S, sortG ltI (fs ++ [i]) = S := ⟨_, rfl⟩
          rw [hS] at SC HSl HSM HE
          obtain ⟨r, hr⟩ : ∃ r, spansB m E (toN S) = r := ⟨_, rfl⟩
          have HR := Lib.hid hr
          rw [hr] at HE
          have c0 := g1.cell 0
          clear hfs HSW hS hr
          go_wp2_with (first
            | (go_at_call 31; (with_reducible refine (C1.out).mono ?_); rintro e w5 ⟨rfl, rfl⟩)
            | (go_at_call 31; (with_reducible refine (C2.out).mono ?_); rintro e w5 ⟨rfl, rfl⟩)
            | fail)
          refine (W1.out).mono ?_
          rintro e w2 ⟨A2, c2, rfl, o2, hb2⟩
          have HF2 := HFL.out
          have hz2 := hb2.size
          go_wp2_with (first | (at_builtin; refine push_int rfl (.tmp 50) (.tmp 52) _ rfl Try.underlying25 w1.heap.size A2 c2 fs i rfl o2 rfl rfl (by omega) hz2 ?_; intro A3 c3 w3 o3 _ hb3) | fail)
          have S3 := Lib.hid (SC.out A3 c3 w3 o3)
          have B3 := Lib.hid (hb2.trans hb3)
          clear o2 hb2 hb3 o3
          refine (S3.out).mono ?_
          rintro e w4 ⟨rfl, o4, hb4⟩
          have B4 := Lib.hid (B3.out.trans hb4)
          have g4 := g1.next B4.out
          have k0 := g4.cell 0
          have R4 : Hid (Reads w4 w4.heap.size 2 Ar E.length (pair2 E)) := (OwnQ.reads HQ.out).next B4.out
          have SP4 := Lib.hid (SP.out Ar cr S HSM.out (by have := HSl.out; have := HFL.out; omega) A3 c3 w4 R4.out o4.reads)
          rw [HSl.out, HR.out] at SP4
          have O4 := Lib.hid o4
          clear o4 hb4
          go_wp2_with fail
          refine (SP4.out).mono ?_
          rintro e w5 ⟨rfl, hb5⟩
          have B5 := Lib.hid (B1.out.trans ((B4.out.mono B1.out.size).trans (hb5.mono (Nat.le_trans B1.out.size B4.out.size))))
          have O5 : Hid (OwnI w5 w.heap.size A3 c3 S) := (O4.out.next hb5).mono B1.out.size
          clear hb5
          cases r
          · have hp : Hid (P = ([], 15)) := HE.out.trans (if_neg (by decide))
            go_wp2
            go_ret2
            exact ⟨none, 0, by rw [hp.out]; rfl, by rw [hp.out]; exact OwnI.nil_ _ _, B5.out⟩
          · have hp : Hid (P = (S, 0)) := HE.out.trans (if_pos rfl)
            go_wp2
            go_ret2
            exact ⟨A3, c3, by rw [hp.out]; dsimp only; rw [HSl.out]; rfl, by rw [hp.out]; exact O5.out, B5.out⟩
      · rw [decide_eq_false hoi] at C1
        have hp : Hid (P = ([], 6)) := HE.out.trans (if_pos hoi)
        clear hoi
        go_wp2_with (go_at_call 31; (with_reducible refine (C1.out).mono ?_); rintro e w5 ⟨rfl, rfl⟩)
        go_ret2
        exact ⟨none, 0, by rw [hp.out]; rfl, by rw [hp.out]; exact OwnI.nil_ _ _, B1.out⟩

set_option maxRecDepth 100000 in
set_option maxHeartbeats 4000000 in
theorem tswap_err (n : Int) (A : Option Addr) (c : Nat) (es : List E3) (hn : es.length ≤ 10000) (B : Option Addr) (d : Nat) (xs : List Int) (hm : xs.length ≤ 1048576) (o i : Int) (w : World) (h : Reads w w.heap.size 3 A es.length (edgeCells es)) (h' : Reads w w.heap.size 1 B xs.length (ints xs)) (hj : treeErr n es xs ≠ 0) :
    Calls Try.prog 26 #[.agg #[.int .i64 n, .slice A es.length c], .slice B xs.length d, .int .i64 o, .int .i64 i] w fun e w' => ∃ A' c', e = .returned (.tuple #[.slice A' (swapE n es xs o i).1.length c', .int .i64 (swapE n es xs o i).2]) ∧ OwnI w' w.heap.size A' c' (swapE n es xs o i).1 ∧ Below w.heap.size w w' := by
  have GC := Lib.hid (fun (W : World) (hB : Below w.heap.size w W) => checked_any n A c es hn B d xs hm W ((h.below hB).more hB.size) ((h'.below hB).more hB.size))
  have g0 := Blk.new w 24 #[.int .i64 n, .slice A es.length c]
  have hb0 : Below w.heap.size w (w.alloc (.cells #[.int .i64 n, .slice A es.length c] 24)) := (Below.refl _ _).alloc (Nat.le_refl _) _
  have c0 := g0.cell 0
  have c1 := g0.cell 1
  have HE : Hid (swapE n es xs o i = ([], treeErr n es xs)) := by unfold Hid swapE; rw [if_pos hj]
  rw [HE.out]
  obtain ⟨z, hzz⟩ : ∃ z, treeErr n es xs = z := ⟨_, rfl⟩
  rw [hzz] at GC hj ⊢
  have hb : (z != 0) = true := by simpa using hj
  have HZ := Lib.hid hj
  clear hj hzz HE
  go_enter Try.func26, Try.ntmps26
  go_wp2_with fail
  refine (GC.out _ hb0).mono ?_
  rintro e w1 ⟨Ar, lr, cr, rfl, _, hg2, hb1⟩
  obtain ⟨rfl, rfl⟩ := hg2 HZ.out
  go_wp2
  go_ret2
  exact ⟨none, 0, rfl, OwnI.nil_ _ _, hb0.trans (hb1.mono hb0.size)⟩

theorem tswap_any (n : Int) (A : Option Addr) (c : Nat) (es : List E3) (hn : es.length ≤ 10000) (hel : (endsL es).length ≤ 1000000) (B : Option Addr) (d : Nat) (xs : List Int) (hm : xs.length ≤ 11) (o i : Int) (w : World) (h : Reads w w.heap.size 3 A es.length (edgeCells es)) (h' : Reads w w.heap.size 1 B xs.length (ints xs)) :
    Calls Try.prog 26 #[.agg #[.int .i64 n, .slice A es.length c], .slice B xs.length d, .int .i64 o, .int .i64 i] w fun e w' => ∃ A' c', e = .returned (.tuple #[.slice A' (swapE n es xs o i).1.length c', .int .i64 (swapE n es xs o i).2]) ∧ OwnI w' w.heap.size A' c' (swapE n es xs o i).1 ∧ Below w.heap.size w w' := by
  by_cases hj : treeErr n es xs = 0
  · obtain ⟨m, t, rfl, rfl, hR⟩ := treeR_of hj
    exact tswap_ok m A c es hn hel B d t hR (by rw [nI_length] at hm; exact hm) o i w h h' hj
  · exact tswap_err n A c es hn B d xs (by omega) o i w h h' hj
end Go.Proofs.Ytepmfbgmkfkmkaa

/-! Package tree: Parents. -/
namespace Go.Proofs.Ytepmfbgmkfkmkaa
open Go.RowKit

set_option maxRecDepth 100000 in
set_option maxHeartbeats 4000000 in
theorem tparents_any (n : Int) (A : Option Addr) (c : Nat) (es : List E3) (hn : es.length ≤ 10000) (B : Option Addr) (d : Nat) (xs : List Int) (hm : xs.length ≤ 1048576) (r : Int) (w : World) (h : Reads w w.heap.size 3 A es.length (edgeCells es)) (h' : Reads w w.heap.size 1 B xs.length (ints xs)) :
    Calls Try.prog 18 #[.agg #[.int .i64 n, .slice A es.length c], .slice B xs.length d, .int .i64 r] w fun e w' => ∃ A' c', e = .returned (.tuple #[.slice A' (parentsE n es xs r).1.length c', .int .i64 (parentsE n es xs r).2]) ∧ OwnI w' w.heap.size A' c' (parentsE n es xs r).1 ∧ Below w.heap.size w w' := by
  have GC := Lib.hid (fun (W : World) (hB : Below w.heap.size w W) => checked_any n A c es hn B d xs hm W ((h.below hB).more hB.size) ((h'.below hB).more hB.size))
  have g0 := Blk.new w 24 #[.int .i64 n, .slice A es.length c]
  have hb0 : Below w.heap.size w (w.alloc (.cells #[.int .i64 n, .slice A es.length c] 24)) := (Below.refl _ _).alloc (Nat.le_refl _) _
  have c0 := g0.cell 0
  have c1 := g0.cell 1
  have VA := Lib.hid (fun W => tvertex_any n r A es.length c W)
  by_cases hj : treeErr n es xs = 0
  · obtain ⟨m, t, rfl, rfl, hR⟩ := treeR_of hj
    rw [hj] at GC
    have HE : Hid (parentsE m es (nI t) r = if vertB m r then (parentsL m (endsL es) t r.toNat, 0) else ([], 2)) := by
      unfold Hid parentsE
      rw [if_neg (fun hc => hc hj), toN_nI, Int.toNat_natCast]
    rw [HE.out]
    have hnl := nI_length t
    by_cases hva : vertB m r = true
    · have h1 := (vertB_true.1 hva)
      obtain ⟨p, rfl⟩ := Int.eq_ofNat_of_zero_le h1.1
      have hpm : p < m := by omega
      have hhi := hR.hi
      rw [hva] at VA
      have WC := Lib.hid (fun (v : Nat) (hv : v < m) (Ar : Option Addr) (cr : Nat) (W : World) (hB : Below w.heap.size w W) (hr : Reads W W.heap.size 2 Ar (endsL es).length (pair2 (endsL es))) => way_any m hR.hi v p hv (endsL es) t hR.hT hR.len (hR.cn hv hpm) Ar cr B d W hr (by rw [← hnl]; exact (h'.below hB).more hB.size))
      have HF : Hid (∀ v, v < m → v ≠ p → ∃ e : Nat, ∃ l, pathL (endsL es) t v p = e :: l ∧ parV (endsL es) t p v = e) := by
        intro v hv hne
        obtain ⟨e, k1, k2, k3, k4⟩ := parE_some hR.hT (hR.cn hv hpm) hne
        exact ⟨e, _, pathL_step hR.hT (hR.cn hv hpm) k2 k3 k4, by unfold parV; rw [if_neg hne, k1]⟩
      have HPR : Hid (parV (endsL es) t p p = -1) := by unfold Hid parV; rw [if_pos rfl]
      rw [hva, if_pos rfl]
      simp only [Int.toNat_natCast]
      obtain ⟨E, hE⟩ : ∃ E, endsL es = E := ⟨_, rfl⟩
      rw [hE] at GC WC HF HPR ⊢
      have HDe : Hid (parTo m E t p m = parentsL m E t p) := parTo_all m E t p
      have hDl := Lib.hid (parentsL_length (n := m) (E := E) (t := t) (r := p))
      rw [hnl] at GC h' ⊢
      have hmk := make_ints m (by omega)
      clear hj hR hva h1 hE HE
      go_enter Try.func18, Try.ntmps18
      go_wp2_with fail
      refine (GC.out _ hb0).mono ?_
      rintro e w1 ⟨Ar, lr, cr, rfl, hg1, _, hb1⟩
      obtain ⟨rfl, HQ⟩ := hg1 rfl
      have HQ : Hid (OwnQ w1 w.heap.size Ar cr E) := own_rebase2 HQ hb0.size
      have B1 := hb0.trans (hb1.mono hb0.size)
      have g1 := g0.next hb1
      have c0 := g1.cell 0
      have c1 := g1.cell 1
      clear g0 hb0 hb1
      go_wp2_with fail
      refine (VA.out _).mono ?_
      rintro e w2 ⟨rfl, hb2⟩
      have g2 := g1.next hb2
      have c0 := g2.cell 0
      have B2 := B1.trans (hb2.mono B1.size)
      have HQ2 : Hid (OwnQ w2 w.heap.size Ar cr E) := own_kept2 HQ.out fun j hj => hb2.block j (World.ownsRow.lt HQ.out j (blockOf_own.2 hj)).2
      have O4 := Blk.new w2 3 (ints (List.replicate m 0)).toArray
      have B4 : Below w2.heap.size w2 (w2.alloc (.cells (ints (List.replicate m 0)).toArray 3)) := (Below.refl _ _).alloc (Nat.le_refl _) _
      have hs2 := B2.size
      clear g1 hb2 B1
      go_wp2_with fail
      go_loopw [11, 30] (fun _ i wl => ∃ v : Nat, i = .int .i64 v ∧ v ≤ m ∧ Hid (Blk wl w2.heap.size 3 (intCells (parTo m E t p v))) ∧ Hid (Below w2.heap.size w2 wl)) (fun _ i _ => m - (intOf i).toNat)
      case atStart => exact ⟨0, rfl, by omega, by rw [Hid, parTo_zero]; exact O4, B4⟩
      case round =>
        obtain ⟨v, rfl, hv, HO, HB⟩ := hrel
        clear O4 B4 hmk
        by_cases hlt : v < m
        · have hi : (v : Int) < (m : Int) := by omega
          have hms := parTo_succ (E := E) (t := t) (r := p) hlt
          obtain ⟨y, hy⟩ := get_of_lt (xs := parTo m E t p v) (k := v) (by rw [parTo_length]; exact hlt)
          have co := (HO.out.cell v).trans (intCells_get hy)
          have cf := HO.out.frozen v
          have O5 := HO.out.set_ v (.int .i64 (-1))
          rw [intCells_set] at O5
          have B5 := HB.out.setCell (p := ⟨w2.heap.size, v, none⟩) (Nat.le_refl _) (.int .i64 (-1))
          by_cases hvp : v = p
          · have hne : ((v : Int) != (p : Int)) = false := by simp [hvp]
            have HO5 : Hid (Blk (wr.setCell ⟨w2.heap.size, v, none⟩ (.int .i64 (-1))) w2.heap.size 3 (intCells (parTo m E t p (v + 1)))) := by
              have e1 : parV E t p v = -1 := by rw [hvp]; exact HPR.out
              rw [Hid, hms, e1]; exact O5
            have HB5 := Lib.hid B5
            clear hms hy O5 B5 hvp
            go_wp2
            go_roundw
            case rel => exact ⟨v + 1, by go_num, by omega, HO5, HB5⟩
            case measure => simp [intOf]; omega
          · have hne : ((v : Int) != (p : Int)) = true := by rw [bne_iff_ne]; omega
            obtain ⟨e, l, hpl, hpv⟩ := HF.out v hlt hvp
            rw [hpv] at hms
            have HQ5 : Hid (OwnQ (wr.setCell ⟨w2.heap.size, v, none⟩ (.int .i64 (-1))) w.heap.size Ar cr E) := own_kept2 HQ2.out fun j hj => B5.block j (World.ownsRow.lt HQ2.out j (blockOf_own.2 hj)).2
            have WC1 := WC.out v hlt Ar cr (wr.setCell ⟨w2.heap.size, v, none⟩ (.int .i64 (-1))) (B2.trans (B5.mono hs2)) (OwnQ.reads HQ5.out)
            rw [hpl] at WC1
            obtain ⟨R, hRR⟩ : ∃ R, e :: l = R := ⟨_, rfl⟩
            have hR0 : Hid (R[0]? = some e) := by rw [Hid, ← hRR]; rfl
            have hRl : 0 < R.length := by rw [← hRR]; simp
            rw [hRR] at WC1
            have WC1 := Lib.hid WC1
            have HMS := Lib.hid hms
            have HO5 := Lib.hid O5
            have HB5 := Lib.hid B5
            have hR1 : (0 : Int) < (R.length : Int) := by omega
            clear hms hy O5 B5 hvp hpl hpv hRR
            go_wp2_with fail
            refine (WC1.out).mono ?_
            rintro e' w6 ⟨A6, c6, rfl, o6, hb6⟩
            obtain ⟨b6, off6, rfl, hb6l, q6⟩ := o6.reads.at_ (ints_at (nI_at hR0.out))
            rw [Nat.add_zero] at q6
            have O6 := HO5.out.next hb6
            have cf6 := O6.frozen v
            obtain ⟨y6, hy6⟩ := get_of_lt (xs := (parTo m E t p v).set v (-1)) (k := v) (by rw [List.length_set, parTo_length]; exact hlt)
            have co6 := (O6.cell v).trans (intCells_get hy6)
            have O7 := O6.set_ v (.int .i64 (e : Int))
            rw [intCells_set, List.set_set, ← HMS.out] at O7
            have HO7 := Lib.hid O7
            have HB7 := Lib.hid ((HB5.out.trans (hb6.mono HB5.out.size)).setCell (p := ⟨w2.heap.size, v, none⟩) (Nat.le_refl _) (.int .i64 (e : Int)))
            clear hy6 O6 O7 o6 hb6
            go_wp2
            go_roundw
            case rel => exact ⟨v + 1, by go_num, by omega, HO7, HB7⟩
            case measure => simp [intOf]; omega
        · obtain rfl : v = m := by omega
          have hO := HO.out
          rw [HDe.out] at hO
          have HB9 := Lib.hid (B2.trans (HB.out.mono hs2))
          go_wp2
          go_ret2
          refine ⟨some ⟨w2.heap.size, 0, none⟩, v, ?_, ?_, HB9.out⟩
          · rw [hDl.out]; rfl
          · have := OwnI.of_blk hO hs2 (by rw [hDl.out]; simp [maxLen]; omega)
            rw [hDl.out] at this
            exact this
    · have hva' : vertB m r = false := by simpa using hva
      rw [hva'] at VA
      rw [hva', if_neg (by simp)]
      obtain ⟨E, hE⟩ : ∃ E, endsL es = E := ⟨_, rfl⟩
      rw [hE] at GC
      rw [hnl] at GC h' ⊢
      clear hj hR hva hva' hE HE
      go_enter Try.func18, Try.ntmps18
      go_wp2_with fail
      refine (GC.out _ hb0).mono ?_
      rintro e w1 ⟨Ar, lr, cr, rfl, hg1, _, hb1⟩
      obtain ⟨rfl, HQ⟩ := hg1 rfl
      have B1 := hb0.trans (hb1.mono hb0.size)
      have g1 := g0.next hb1
      have c0 := g1.cell 0
      have c1 := g1.cell 1
      clear g0 hb0 hb1 HQ
      go_wp2_with fail
      refine (VA.out _).mono ?_
      rintro e w2 ⟨rfl, hb2⟩
      go_wp2
      go_ret2
      exact ⟨none, 0, rfl, OwnI.nil_ _ _, B1.trans (hb2.mono B1.size)⟩
  · have HE : Hid (parentsE n es xs r = ([], treeErr n es xs)) := by unfold Hid parentsE; rw [if_pos hj]
    rw [HE.out]
    obtain ⟨z, hzz⟩ : ∃ z, treeErr n es xs = z := ⟨_, rfl⟩
    rw [hzz] at GC hj ⊢
    have hb : (z != 0) = true := by simpa using hj
    have HZ := Lib.hid hj
    clear hj hzz HE
    go_enter Try.func18, Try.ntmps18
    go_wp2_with fail
    refine (GC.out _ hb0).mono ?_
    rintro e w1 ⟨Ar, lr, cr, rfl, _, hg2, hb1⟩
    obtain ⟨rfl, rfl⟩ := hg2 HZ.out
    go_wp2
    go_ret2
    exact ⟨none, 0, rfl, OwnI.nil_ _ _, hb0.trans (hb1.mono hb0.size)⟩
end Go.Proofs.Ytepmfbgmkfkmkaa

/-! The example of chapter 13, reckoned. -/
namespace Go.Proofs.Ytepmfbgmkfkmkaa

/-- The graph of the chapter. -/
def ear : List E3 := [(0, 1, 2), (0, 2, 1), (1, 2, 1)]
set_option maxRecDepth 100000
theorem ear_join : joinErr 3 ear = 0 := by decide
theorem ear_trees : treesT 3 (endsL ear) = [[0, 2], [0, 3], [1, 2], [1, 3], [2, 3]] := by decide
theorem ear_cyc1 : cycleE 3 ear [0, 3] 1 = ([0, 1], 0) := by decide
theorem ear_cyc2 : cycleE 3 ear [0, 3] 2 = ([0, 2, 3], 0) := by decide
theorem ear_cut0 : cutsetE 3 ear [0, 3] 0 = ([0, 1, 2], 0) := by decide
theorem ear_cut3 : cutsetE 3 ear [0, 3] 3 = ([2, 3], 0) := by decide
theorem ear_path : pathE 3 ear [0, 3] 2 0 = ([3, 0], 0) := by decide
theorem ear_par : parentsE 3 ear [0, 3] 0 = ([-1, 0, 3], 0) := by decide
theorem ear_swap : swapE 3 ear [0, 3] 3 2 = ([0, 2], 0) := by decide
end Go.Proofs.Ytepmfbgmkfkmkaa

