/-
  Texts of this claim, put together: SameL, Ear30, Awake30.
-/
import Derived.Test.YtghigdcpinengaaGreatK01
import Derived.Test.YtghigdcpinengaaGreatK03
import Derived.Test.YtghigdcpinengaaGreatK09
import Derived.Deep.QuietTactic
import Derived.BigQuiet
import Derived.Test.YtghigdcpinengaaGreatK40
import Derived.Test.YtghigdcpinengaaGreatK19
/-! ref08.SameInts and ref10.SameLists: whether lists, and lists of lists, are the same. -/
namespace Go.Proofs.YtghigdcpinengaaGreat
open Go.RowKit

set_option maxHeartbeats 800000 in
theorem rsameints_any (A : Option Addr) (c : Nat) (xs : List Int) (B : Option Addr) (d : Nat) (ys : List Int) (hn : xs.length ≤ 1048576) (w : World) (h : Reads w w.heap.size 1 A xs.length (ints xs)) (h' : Reads w w.heap.size 1 B ys.length (ints ys)) :
    Calls Tryz.prog 53 #[.slice A xs.length c, .slice B ys.length d] w fun e w' => e = .returned (.bool (decide (xs = ys))) ∧ Below w.heap.size w w' := by
  by_cases hl : xs.length = ys.length
  · have HL := Lib.hid hl
    have hb : ((xs.length : Int) != (ys.length : Int)) = false := by simp; omega
    clear hl
    go_enter Tryz.func53, Tryz.ntmps53
    go_wp2
    clear hb
    go_loopw [5] (fun i wr => ∃ k : Nat, k ≤ xs.length ∧ i = .int .i64 k ∧ Below w.heap.size w wr ∧ Hid (xs.take k = ys.take k)) (fun i _ => xs.length - (intOf i).toNat)
    case atStart => exact ⟨0, by omega, rfl, Below.refl _ _, by simp [Hid]⟩
    case round =>
      obtain ⟨k, hk, rfl, hbel, HS⟩ := hrel
      by_cases hlt : k < xs.length
      · obtain ⟨x, hx⟩ := get_of_lt hlt
        obtain ⟨y, hy⟩ := get_of_lt (xs := ys) (k := k) (by have := HL.out; omega)
        have HX := Lib.hid hx
        have HY := Lib.hid hy
        obtain ⟨b, off, rfl, hb, hcell⟩ := (h.below hbel).at_ (ints_at hx)
        obtain ⟨b', off', rfl, hb', hcell'⟩ := (h'.below hbel).at_ (ints_at hy)
        have hi : (k : Int) < (xs.length : Int) := by omega
        have hi' : (k : Int) < (ys.length : Int) := by have := HL.out; omega
        clear hx hy h h'
        by_cases hxy : x = y
        · subst hxy
          go_wp2
          go_quiet (fail)
          go_wp2
          go_roundw
          case rel => exact ⟨k + 1, by omega, by go_num, below_drewN hbel _, by rw [Hid, take_snoc HX.out, take_snoc HY.out, HS.out]⟩
          case measure => simp [intOf]; omega
        · have hbx : (x != y) = true := by simpa using hxy
          go_wp2
          go_quiet (fail)
          go_wp2
          go_ret
          refine ⟨ret_bool ?_, below_drewN hbel _⟩
          have : ¬ xs = ys := fun e => hxy (by have h1 := HX.out; rw [e, HY.out] at h1; injection h1 with h1; exact h1.symm)
          simp [this]
      · go_wp2
        go_ret
        refine ⟨ret_bool ?_, hbel⟩
        have e : xs = ys := by have h1 := HS.out; rw [show k = xs.length from by omega, List.take_length, HL.out, List.take_length] at h1; exact h1
        simp [e]
  · have hb : ((xs.length : Int) != (ys.length : Int)) = true := by simp; omega
    go_enter Tryz.func53, Tryz.ntmps53
    go_wp2
    go_ret
    have : ¬ xs = ys := fun e => hl (by rw [e])
    exact ⟨ret_bool (by simp [this]), Below.refl _ _⟩
set_option maxRecDepth 100000 in
set_option maxHeartbeats 4000000 in
theorem samelists_any (A : Option Addr) (c : Nat) (xss : List (List Int)) (B : Option Addr) (d : Nat) (yss : List (List Int)) (hn : ∀ xs ∈ xss, xs.length ≤ 1048576) (hn2 : xss.length ≤ 1048576) (w : World) (h : RowsR w w.heap.size A xss) (h' : RowsR w w.heap.size B yss) :
    Calls Tryz.prog 16 #[.slice A xss.length c, .slice B yss.length d] w fun e w' => e = .returned (.bool (decide (xss = yss))) ∧ Below w.heap.size w w' := by
  by_cases hl : xss.length = yss.length
  · have hb : ((xss.length : Int) != (yss.length : Int)) = false := by simp; omega
    obtain ⟨vs, hv, hrow⟩ := h
    obtain ⟨us, hu, hrow'⟩ := h'
    have HV := Lib.hid hv
    have HU := Lib.hid hu
    have HR := Lib.hid hrow
    have HR' := Lib.hid hrow'
    have HN := Lib.hid hn
    have HL := Lib.hid hl
    rw [← hl]
    clear hv hu hrow hrow' hn hl
    go_enter Tryz.func16, Tryz.ntmps16
    go_wp2_with fail
    go_loopw [5] (fun i wl => ∃ k : Nat, i = .int .i64 k ∧ k ≤ xss.length ∧ Hid (∀ j, j < k → xss[j]? = yss[j]?) ∧ Hid (Below w.heap.size w wl)) (fun i _ => xss.length - (intOf i).toNat)
    case atStart => exact ⟨0, rfl, by omega, fun j hj => by omega, Below.refl _ _⟩
    case round =>
      obtain ⟨k, rfl, hk, HE, HW⟩ := hrel
      have hwz := HW.out.size
      by_cases hlt : k < xss.length
      · have hi : (k : Int) < (xss.length : Int) := by omega
        obtain ⟨xs, hx⟩ := get_of_lt hlt
        obtain ⟨ys, hy⟩ := get_of_lt (xs := yss) (k := k) (by have := HL.out; omega)
        obtain ⟨A1, c1, hvk, hr1⟩ := HR.out k xs hx
        obtain ⟨A2, c2, huk, hr2⟩ := HR'.out k ys hy
        obtain ⟨b1, o1, hA, _, e1⟩ := (HV.out.below HW.out).at_ hvk
        subst hA
        obtain ⟨b2, o2, hB, _, e2⟩ := (HU.out.below HW.out).at_ huk
        subst hB
        have DS := Lib.hid (rsameints_any A1 c1 xs A2 c2 ys (HN.out xs (List.mem_of_getElem? hx)) wr.drew (by exact (hr1.below HW.out).more hwz) (by exact (hr2.below HW.out).more hwz))
        have HX := Lib.hid hx
        have HY := Lib.hid hy
        have hi2 : (k : Int) < (yss.length : Int) := by have := HL.out; omega
        clear hx hy hvk huk hr1 hr2
        by_cases he : xs = ys
        · rw [decide_eq_true he] at DS
          have HS : Hid (xss[k]? = yss[k]?) := by rw [Hid, HX.out, HY.out, he]
          clear he
          go_wp2_with fail
          refine region_tail 8 (by kernel_rfl) (by kernel_rfl) ?_
          simp only [List.take_succ_cons, List.take_zero, List.drop_succ_cons, List.drop_zero]
          repeat still_step
          refine wpStill_nil ?_
          go_wp2_with fail
          refine (DS.out).mono ?_
          rintro e w5 ⟨rfl, hw5⟩
          have HW5 : Hid (Below w.heap.size w w5) := (below_drewN HW.out 1).trans (hw5.mono hwz)
          clear hw5
          go_wp2
          go_roundw
          case rel => exact ⟨k + 1, by go_num, by omega, fun j hj => by
            by_cases hjk : j = k
            · rw [hjk]; exact HS.out
            · exact HE.out j (by omega), HW5.out⟩
          case measure => simp [intOf]; omega
        · rw [decide_eq_false he] at DS
          have HF : Hid (decide (xss = yss) = false) := by
            rw [Hid, decide_eq_false_iff_not]
            intro hh
            rw [hh, HY.out] at HX
            have := HX.out
            injection this with this
            exact he this.symm
          clear he
          go_wp2_with fail
          refine region_tail 8 (by kernel_rfl) (by kernel_rfl) ?_
          simp only [List.take_succ_cons, List.take_zero, List.drop_succ_cons, List.drop_zero]
          repeat still_step
          refine wpStill_nil ?_
          go_wp2_with fail
          refine (DS.out).mono ?_
          rintro e w5 ⟨rfl, hw5⟩
          have HW5 : Hid (Below w.heap.size w w5) := (below_drewN HW.out 1).trans (hw5.mono hwz)
          clear hw5
          go_wp2
          go_ret
          exact ⟨by rw [HF.out]; rfl, HW5.out⟩
      · have hkl : k = xss.length := by omega
        subst hkl
        have HF : Hid (decide (xss = yss) = true) := by
          rw [Hid, decide_eq_true_iff]
          apply List.ext_getElem?
          intro i
          by_cases hi : i < xss.length
          · exact HE.out i hi
          · have := HL.out
            rw [List.getElem?_eq_none (by omega), List.getElem?_eq_none (by omega)]
        go_wp2
        go_ret
        exact ⟨by rw [HF.out]; rfl, HW.out⟩
  · have hb : ((xss.length : Int) != (yss.length : Int)) = true := by simp; omega
    have HF : Hid (decide (xss = yss) = false) := by
      rw [Hid, decide_eq_false_iff_not]
      exact fun hh => hl (by rw [hh])
    go_enter Tryz.func16, Tryz.ntmps16
    go_wp2
    go_ret
    exact ⟨by rw [HF.out]; rfl, Below.refl _ _⟩
end Go.Proofs.YtghigdcpinengaaGreat

/-! The examples of chapter 30, each by itself. -/
namespace Go.Proofs.YtghigdcpinengaaGreat
open Go.RowKit

theorem Blk.newA {w : World} {g : Nat} {t : TypeId} {cs : Array Value} (hg : g = w.heap.size) : Blk (w.alloc (.cells cs t)) g t cs := by subst hg; exact Blk.new w t cs
set_option maxHeartbeats 1000000 in
theorem ear30_any (w : World) : Calls Tryz.prog 49 #[] w fun e w' => ∃ A c, e = .returned (.agg #[.int .i64 3, .slice A 3 c]) ∧ Reads w' w'.heap.size 3 A ear.length (edgeCells ear) ∧ Below w.heap.size w w' := by
  go_enter Tryz.func49, Tryz.ntmps49
  go_wp2
  refine bodyPost_ret (results_g rfl rfl ((Blk.new w 24 #[.int .i64 3, .slice (some ⟨w.heap.size + 1, 0, none⟩) 3 3]).alloc _) rfl) rfl ?_
  have hB := Blk.new (w.alloc (.cells #[.int .i64 3, .slice (some ⟨w.heap.size + 1, 0, none⟩) 3 3] 24)) 104 (edgeCells ear).toArray
  rw [show (w.alloc (.cells #[.int .i64 3, .slice (some ⟨w.heap.size + 1, 0, none⟩) 3 3] 24)).heap.size = w.heap.size + 1 from by simp] at hB
  refine ⟨some ⟨w.heap.size + 1, 0, none⟩, 3, rfl, ⟨by simp [edgeCells_length], fun _ => ⟨w.heap.size + 1, 0, rfl, by simp, fun j u hu => ?_⟩⟩, ((Below.refl _ _).alloc (Nat.le_refl _) _).alloc (by simp) _⟩
  rw [Nat.zero_add]
  refine (hB.cell j).trans ?_
  rw [← hu, List.getElem?_toArray]
theorem rows_litA {W : World} {g : Nat} {t : TypeId} {vs : List Value} {xss : List (List Int)} (h : Blk W g t vs.toArray) (hl : vs.length = xss.length) (hr : ∀ (i : Nat) (xs : List Int), xss[i]? = some xs → ∃ A' c', vs[i]? = some (.slice A' xs.length c') ∧ Reads W W.heap.size 1 A' xs.length (ints xs)) : RowsR W W.heap.size (some ⟨g, 0, none⟩) xss :=
  ⟨vs, ⟨by rw [hl]; simp, fun _ => ⟨g, 0, rfl, h.lt, fun j u hu => by rw [Nat.zero_add, h.cell j]; simpa using hu⟩⟩, hr⟩
theorem row_litA {W : World} {g : Nat} {xs : List Int} (h : Blk W g 3 (ints xs).toArray) : Reads W W.heap.size 1 (some ⟨g, 0, none⟩) xs.length (ints xs) :=
  ⟨by simp [ints], fun _ => ⟨g, 0, rfl, h.lt, fun j u hu => by rw [Nat.zero_add, h.cell j]; simpa using hu⟩⟩
theorem a30_tr1 : treeFE 3 ear 0 [0, 1, 0] = ([1, 2], [0, 1, 2], 0) := by decide +kernel
theorem a30_tr2 : treeFE 3 ear 0 [0, 0, 1] = ([0, 3], [0, 1, 2], 0) := by decide +kernel
theorem a30_st : stepsE 3 ear 0 [0, 0, 1] = ([0, 2, 3], 0) := by decide +kernel
theorem a30_un1 : unusedFE 3 ear 0 [1, 2] = ([3], 0) := by decide +kernel
theorem a30_cf : confFE 3 ear 0 [0, 2] = ([0, 0, 0], 0) := by decide +kernel
theorem a30_un2 : unusedFE 3 ear 0 [0, 2] = ([1, 3], 0) := by decide +kernel
theorem a30_rc : recFE 3 ear 0 [0, 2] = ([0, 2, 1], 0) := by decide +kernel
theorem c30_tr1 (A : Option Addr) (c : Nat) (B : Option Addr) (d : Nat) (w : World) (h : Reads w w.heap.size 3 A ear.length (edgeCells ear)) (h' : Reads w w.heap.size 1 B 3 (ints [0, 1, 0])) : Calls Tryz.prog 14 #[.agg #[.int .i64 3, .slice A 3 c], .int .i64 0, .slice B 3 d] w fun e w' => ∃ A1 c1 A2 c2, e = .returned (.tuple #[.slice A1 2 c1, .slice A2 3 c2, .int .i64 0]) ∧ Reads w' w'.heap.size 1 A1 2 (ints [1, 2]) ∧ Reads w' w'.heap.size 1 A2 3 (ints [0, 1, 2]) ∧ Below w.heap.size w w' := by
  have hb := ttree30_any 3 0 A c ear (by decide) (by decide) B d [0, 1, 0] (by decide) w h h'
  rw [a30_tr1] at hb
  refine hb.mono ?_
  rintro e w' ⟨A1, c1, A2, c2, he, o1, o2, hb⟩
  exact ⟨A1, c1, A2, c2, he, o1.reads, o2.reads, hb⟩
theorem c30_tr2 (A : Option Addr) (c : Nat) (B : Option Addr) (d : Nat) (w : World) (h : Reads w w.heap.size 3 A ear.length (edgeCells ear)) (h' : Reads w w.heap.size 1 B 3 (ints [0, 0, 1])) : Calls Tryz.prog 14 #[.agg #[.int .i64 3, .slice A 3 c], .int .i64 0, .slice B 3 d] w fun e w' => ∃ A1 c1 A2 c2, e = .returned (.tuple #[.slice A1 2 c1, .slice A2 3 c2, .int .i64 0]) ∧ Reads w' w'.heap.size 1 A1 2 (ints [0, 3]) ∧ Reads w' w'.heap.size 1 A2 3 (ints [0, 1, 2]) ∧ Below w.heap.size w w' := by
  have hb := ttree30_any 3 0 A c ear (by decide) (by decide) B d [0, 0, 1] (by decide) w h h'
  rw [a30_tr2] at hb
  refine hb.mono ?_
  rintro e w' ⟨A1, c1, A2, c2, he, o1, o2, hb⟩
  exact ⟨A1, c1, A2, c2, he, o1.reads, o2.reads, hb⟩
theorem c30_st (A : Option Addr) (c : Nat) (B : Option Addr) (d : Nat) (w : World) (h : Reads w w.heap.size 3 A ear.length (edgeCells ear)) (h' : Reads w w.heap.size 1 B 3 (ints [0, 0, 1])) : Calls Tryz.prog 13 #[.agg #[.int .i64 3, .slice A 3 c], .int .i64 0, .slice B 3 d] w fun e w' => ∃ A1 c1, e = .returned (.tuple #[.slice A1 3 c1, .int .i64 0]) ∧ Reads w' w'.heap.size 1 A1 3 (ints [0, 2, 3]) ∧ Below w.heap.size w w' := by
  have hb := steps30_any 3 0 A c ear (by decide) (by decide) B d [0, 0, 1] (by decide) w h h'
  rw [a30_st] at hb
  refine hb.mono ?_
  rintro e w' ⟨A1, c1, he, o1, hb⟩
  exact ⟨A1, c1, he, o1.reads, hb⟩
theorem c30_un1 (A : Option Addr) (c : Nat) (B : Option Addr) (d : Nat) (w : World) (h : Reads w w.heap.size 3 A ear.length (edgeCells ear)) (h' : Reads w w.heap.size 1 B 2 (ints [1, 2])) : Calls Tryz.prog 20 #[.agg #[.int .i64 3, .slice A 3 c], .int .i64 0, .slice B 2 d] w fun e w' => ∃ A1 c1, e = .returned (.tuple #[.slice A1 1 c1, .int .i64 0]) ∧ Reads w' w'.heap.size 1 A1 1 (ints [3]) ∧ Below w.heap.size w w' := by
  have hb := unused30_any 3 0 A c ear (by decide) (by decide) B d [1, 2] (by decide) w h h'
  rw [a30_un1] at hb
  refine hb.mono ?_
  rintro e w' ⟨A1, c1, he, o1, hb⟩
  exact ⟨A1, c1, he, o1.reads, hb⟩
theorem c30_cf (A : Option Addr) (c : Nat) (B : Option Addr) (d : Nat) (w : World) (h : Reads w w.heap.size 3 A ear.length (edgeCells ear)) (h' : Reads w w.heap.size 1 B 2 (ints [0, 2])) : Calls Tryz.prog 18 #[.agg #[.int .i64 3, .slice A 3 c], .int .i64 0, .slice B 2 d] w fun e w' => ∃ A1 c1, e = .returned (.tuple #[.slice A1 3 c1, .int .i64 0]) ∧ Reads w' w'.heap.size 1 A1 3 (ints [0, 0, 0]) ∧ Below w.heap.size w w' := by
  have hb := config30_any 3 0 A c ear (by decide) (by decide) B d [0, 2] (by decide) w h h'
  rw [a30_cf] at hb
  refine hb.mono ?_
  rintro e w' ⟨A1, c1, he, o1, hb⟩
  exact ⟨A1, c1, he, o1.reads, hb⟩
theorem c30_un2 (A : Option Addr) (c : Nat) (B : Option Addr) (d : Nat) (w : World) (h : Reads w w.heap.size 3 A ear.length (edgeCells ear)) (h' : Reads w w.heap.size 1 B 2 (ints [0, 2])) : Calls Tryz.prog 20 #[.agg #[.int .i64 3, .slice A 3 c], .int .i64 0, .slice B 2 d] w fun e w' => ∃ A1 c1, e = .returned (.tuple #[.slice A1 2 c1, .int .i64 0]) ∧ Reads w' w'.heap.size 1 A1 2 (ints [1, 3]) ∧ Below w.heap.size w w' := by
  have hb := unused30_any 3 0 A c ear (by decide) (by decide) B d [0, 2] (by decide) w h h'
  rw [a30_un2] at hb
  refine hb.mono ?_
  rintro e w' ⟨A1, c1, he, o1, hb⟩
  exact ⟨A1, c1, he, o1.reads, hb⟩
theorem c30_rc (A : Option Addr) (c : Nat) (B : Option Addr) (d : Nat) (w : World) (h : Reads w w.heap.size 3 A ear.length (edgeCells ear)) (h' : Reads w w.heap.size 1 B 2 (ints [0, 2])) : Calls Tryz.prog 22 #[.agg #[.int .i64 3, .slice A 3 c], .int .i64 0, .slice B 2 d] w fun e w' => ∃ A1 c1, e = .returned (.tuple #[.slice A1 3 c1, .int .i64 0]) ∧ Reads w' w'.heap.size 1 A1 3 (ints [0, 2, 1]) ∧ Below w.heap.size w w' := by
  have hb := recur30_any 3 0 A c ear (by decide) (by decide) B d [0, 2] (by decide) w h h'
  rw [a30_rc] at hb
  refine hb.mono ?_
  rintro e w' ⟨A1, c1, he, o1, hb⟩
  exact ⟨A1, c1, he, o1.reads, hb⟩

end Go.Proofs.YtghigdcpinengaaGreat

/-! The examples of chapter 30: awake. -/
namespace Go.Proofs.YtghigdcpinengaaGreat
open Go.RowKit

set_option maxRecDepth 100000 in
set_option maxHeartbeats 8000000 in
theorem awake30_any (w : World) : Calls Tryz.prog 12 #[] w fun e w' => e = .returned (.bool true) ∧ Below w.heap.size w w' := by
  have SL := Lib.hid (fun Aa ca Ab cb W h h' => samelists_any Aa ca [[1, 2], [0, 1, 2], [0, 3], [0, 2, 3], [3], [0, 0, 0], [1, 3], [0, 2, 1]] Ab cb [[1, 2], [0, 1, 2], [0, 3], [0, 2, 3], [3], [0, 0, 0], [1, 3], [0, 2, 1]] (by decide) (by decide) W h h')
  rw [decide_eq_true rfl] at SL
  go_enter Tryz.func12, Tryz.ntmps12
  go_wp2_with fail
  refine (ear30_any w).mono ?_
  rintro e w1 ⟨A, c, rfl, r1, b1⟩
  have gg : Blk (w1.alloc (.cells #[.int .i64 3, .slice A 3 c] 24)) w1.heap.size 24 #[.int .i64 3, .slice A 3 c] := Blk.newA rfl
  have bg : Below w1.heap.size w1 (w1.alloc (.cells #[.int .i64 3, .slice A 3 c] 24)) := (Below.refl _ _).alloc (Nat.le_refl _) _
  obtain ⟨gb, hgb⟩ : ∃ gb, w1.heap.size = gb := ⟨_, rfl⟩
  have r2 := (r1.below bg).more bg.size
  have hB := b1.trans (bg.mono b1.size)
  obtain ⟨W2, hW2⟩ : ∃ W2, w1.alloc (.cells #[.int .i64 3, .slice A 3 c] 24) = W2 := ⟨_, rfl⟩
  rw [hW2, hgb] at gg
  rw [hW2] at r2 hB
  have HW2 := Lib.hid hW2
  have HGB := Lib.hid hgb
  have hz2 : gb + 1 = W2.heap.size := by rw [← hW2]; simp [hgb]
  clear bg b1 r1 hW2 hgb
  have al0 : Below W2.heap.size W2 (W2.alloc (.cells (ints [0, 1, 0]).toArray 3)) := (Below.refl _ _).alloc (Nat.le_refl _) _
  have rt : Reads (W2.alloc (.cells (ints [0, 1, 0]).toArray 3)) (W2.alloc (.cells (ints [0, 1, 0]).toArray 3)).heap.size 1 (some ⟨gb + 1, 0, none⟩) 3 (ints [0, 1, 0]) := row_litA (xs := [0, 1, 0]) (Blk.newA hz2)
  have r3 := r2.next al0
  have c0 : ∀ o, ((w1.alloc (.cells #[.int .i64 3, .slice A 3 c] 24)).alloc o).cell? ⟨w1.heap.size, 0, none⟩ = some (.int .i64 3) := fun o => by rw [HW2.out, HGB.out]; exact (gg.alloc o).cell 0
  have c1 : ∀ o, ((w1.alloc (.cells #[.int .i64 3, .slice A 3 c] 24)).alloc o).cell? ⟨w1.heap.size, 1, none⟩ = some (.slice A 3 c) := fun o => by rw [HW2.out, HGB.out]; exact (gg.alloc o).cell 1
  have C := Lib.hid (c30_tr1 A c _ 3 _ r3 rt)
  clear rt r3
  go_wp2_with fail
  try rw [HW2.out]
  try rw [HGB.out]
  refine (C.out).mono ?_
  rintro e w10 ⟨A0, d0, X0, y0, rfl, q0, p0, b⟩
  have gg := (gg.alloc _).next b
  have r2 := (r2.next al0).next b
  have hB := hB.trans ((al0.trans (b.mono al0.size)).mono hB.size)
  clear hz2
  clear b al0 c0 c1 C
  have al1 : Below w10.heap.size w10 (w10.alloc (.cells (ints [0, 0, 1]).toArray 3)) := (Below.refl _ _).alloc (Nat.le_refl _) _
  have rt : Reads (w10.alloc (.cells (ints [0, 0, 1]).toArray 3)) (w10.alloc (.cells (ints [0, 0, 1]).toArray 3)).heap.size 1 (some ⟨w10.heap.size, 0, none⟩) 3 (ints [0, 0, 1]) := row_litA (xs := [0, 0, 1]) (Blk.newA rfl)
  have r3 := r2.next al1
  have k0 := gg.cell 0
  have k1 := gg.cell 1
  have c0 : ∀ o, (w10.alloc o).cell? ⟨gb, 0, none⟩ = some (.int .i64 3) := fun o => (gg.alloc o).cell 0
  have c1 : ∀ o, (w10.alloc o).cell? ⟨gb, 1, none⟩ = some (.slice A 3 c) := fun o => (gg.alloc o).cell 1
  have q0 := q0.next al1
  have p0 := p0.next al1
  have C := Lib.hid (c30_tr2 A c _ 3 _ r3 rt)
  clear rt r3
  go_wp2_with fail
  refine (C.out).mono ?_
  rintro e w11 ⟨A1, d1, X1, y1, rfl, q1, p1, b⟩
  have gg := (gg.alloc _).next b
  have r2 := (r2.next al1).next b
  have hB := hB.trans ((al1.trans (b.mono al1.size)).mono hB.size)
  have q0 := q0.next b
  have p0 := p0.next b
  clear b al1 c0 c1 C k0 k1 p1
  have al2 : Below w11.heap.size w11 (w11.alloc (.cells (ints [0, 0, 1]).toArray 3)) := (Below.refl _ _).alloc (Nat.le_refl _) _
  have rt : Reads (w11.alloc (.cells (ints [0, 0, 1]).toArray 3)) (w11.alloc (.cells (ints [0, 0, 1]).toArray 3)).heap.size 1 (some ⟨w11.heap.size, 0, none⟩) 3 (ints [0, 0, 1]) := row_litA (xs := [0, 0, 1]) (Blk.newA rfl)
  have r3 := r2.next al2
  have k0 := gg.cell 0
  have k1 := gg.cell 1
  have c0 : ∀ o, (w11.alloc o).cell? ⟨gb, 0, none⟩ = some (.int .i64 3) := fun o => (gg.alloc o).cell 0
  have c1 : ∀ o, (w11.alloc o).cell? ⟨gb, 1, none⟩ = some (.slice A 3 c) := fun o => (gg.alloc o).cell 1
  have q0 := q0.next al2
  have p0 := p0.next al2
  have q1 := q1.next al2
  have C := Lib.hid (c30_st A c _ 3 _ r3 rt)
  clear rt r3
  go_wp2_with fail
  refine (C.out).mono ?_
  rintro e w12 ⟨A2, d2, rfl, q2, b⟩
  have gg := (gg.alloc _).next b
  have r2 := (r2.next al2).next b
  have hB := hB.trans ((al2.trans (b.mono al2.size)).mono hB.size)
  have q0 := q0.next b
  have p0 := p0.next b
  have q1 := q1.next b
  clear b al2 c0 c1 C k0 k1
  have al3 : Below w12.heap.size w12 (w12.alloc (.cells (ints [1, 2]).toArray 3)) := (Below.refl _ _).alloc (Nat.le_refl _) _
  have rt : Reads (w12.alloc (.cells (ints [1, 2]).toArray 3)) (w12.alloc (.cells (ints [1, 2]).toArray 3)).heap.size 1 (some ⟨w12.heap.size, 0, none⟩) 2 (ints [1, 2]) := row_litA (xs := [1, 2]) (Blk.newA rfl)
  have r3 := r2.next al3
  have k0 := gg.cell 0
  have k1 := gg.cell 1
  have c0 : ∀ o, (w12.alloc o).cell? ⟨gb, 0, none⟩ = some (.int .i64 3) := fun o => (gg.alloc o).cell 0
  have c1 : ∀ o, (w12.alloc o).cell? ⟨gb, 1, none⟩ = some (.slice A 3 c) := fun o => (gg.alloc o).cell 1
  have q0 := q0.next al3
  have p0 := p0.next al3
  have q1 := q1.next al3
  have q2 := q2.next al3
  have C := Lib.hid (c30_un1 A c _ 2 _ r3 rt)
  clear rt r3
  go_wp2_with fail
  refine (C.out).mono ?_
  rintro e w13 ⟨A3, d3, rfl, q3, b⟩
  have gg := (gg.alloc _).next b
  have r2 := (r2.next al3).next b
  have hB := hB.trans ((al3.trans (b.mono al3.size)).mono hB.size)
  have q0 := q0.next b
  have p0 := p0.next b
  have q1 := q1.next b
  have q2 := q2.next b
  clear b al3 c0 c1 C k0 k1
  have al4 : Below w13.heap.size w13 (w13.alloc (.cells (ints [0, 2]).toArray 3)) := (Below.refl _ _).alloc (Nat.le_refl _) _
  have rt : Reads (w13.alloc (.cells (ints [0, 2]).toArray 3)) (w13.alloc (.cells (ints [0, 2]).toArray 3)).heap.size 1 (some ⟨w13.heap.size, 0, none⟩) 2 (ints [0, 2]) := row_litA (xs := [0, 2]) (Blk.newA rfl)
  have r3 := r2.next al4
  have k0 := gg.cell 0
  have k1 := gg.cell 1
  have c0 : ∀ o, (w13.alloc o).cell? ⟨gb, 0, none⟩ = some (.int .i64 3) := fun o => (gg.alloc o).cell 0
  have c1 : ∀ o, (w13.alloc o).cell? ⟨gb, 1, none⟩ = some (.slice A 3 c) := fun o => (gg.alloc o).cell 1
  have q0 := q0.next al4
  have p0 := p0.next al4
  have q1 := q1.next al4
  have q2 := q2.next al4
  have q3 := q3.next al4
  have C := Lib.hid (c30_cf A c _ 2 _ r3 rt)
  clear rt r3
  go_wp2_with fail
  refine (C.out).mono ?_
  rintro e w14 ⟨A4, d4, rfl, q4, b⟩
  have gg := (gg.alloc _).next b
  have r2 := (r2.next al4).next b
  have hB := hB.trans ((al4.trans (b.mono al4.size)).mono hB.size)
  have q0 := q0.next b
  have p0 := p0.next b
  have q1 := q1.next b
  have q2 := q2.next b
  have q3 := q3.next b
  clear b al4 c0 c1 C k0 k1
  have al5 : Below w14.heap.size w14 (w14.alloc (.cells (ints [0, 2]).toArray 3)) := (Below.refl _ _).alloc (Nat.le_refl _) _
  have rt : Reads (w14.alloc (.cells (ints [0, 2]).toArray 3)) (w14.alloc (.cells (ints [0, 2]).toArray 3)).heap.size 1 (some ⟨w14.heap.size, 0, none⟩) 2 (ints [0, 2]) := row_litA (xs := [0, 2]) (Blk.newA rfl)
  have r3 := r2.next al5
  have k0 := gg.cell 0
  have k1 := gg.cell 1
  have c0 : ∀ o, (w14.alloc o).cell? ⟨gb, 0, none⟩ = some (.int .i64 3) := fun o => (gg.alloc o).cell 0
  have c1 : ∀ o, (w14.alloc o).cell? ⟨gb, 1, none⟩ = some (.slice A 3 c) := fun o => (gg.alloc o).cell 1
  have q0 := q0.next al5
  have p0 := p0.next al5
  have q1 := q1.next al5
  have q2 := q2.next al5
  have q3 := q3.next al5
  have q4 := q4.next al5
  have C := Lib.hid (c30_un2 A c _ 2 _ r3 rt)
  clear rt r3
  go_wp2_with fail
  refine (C.out).mono ?_
  rintro e w15 ⟨A5, d5, rfl, q5, b⟩
  have gg := (gg.alloc _).next b
  have r2 := (r2.next al5).next b
  have hB := hB.trans ((al5.trans (b.mono al5.size)).mono hB.size)
  have q0 := q0.next b
  have p0 := p0.next b
  have q1 := q1.next b
  have q2 := q2.next b
  have q3 := q3.next b
  have q4 := q4.next b
  clear b al5 c0 c1 C k0 k1
  have al6 : Below w15.heap.size w15 (w15.alloc (.cells (ints [0, 2]).toArray 3)) := (Below.refl _ _).alloc (Nat.le_refl _) _
  have rt : Reads (w15.alloc (.cells (ints [0, 2]).toArray 3)) (w15.alloc (.cells (ints [0, 2]).toArray 3)).heap.size 1 (some ⟨w15.heap.size, 0, none⟩) 2 (ints [0, 2]) := row_litA (xs := [0, 2]) (Blk.newA rfl)
  have r3 := r2.next al6
  have k0 := gg.cell 0
  have k1 := gg.cell 1
  have c0 : ∀ o, (w15.alloc o).cell? ⟨gb, 0, none⟩ = some (.int .i64 3) := fun o => (gg.alloc o).cell 0
  have c1 : ∀ o, (w15.alloc o).cell? ⟨gb, 1, none⟩ = some (.slice A 3 c) := fun o => (gg.alloc o).cell 1
  have q0 := q0.next al6
  have p0 := p0.next al6
  have q1 := q1.next al6
  have q2 := q2.next al6
  have q3 := q3.next al6
  have q4 := q4.next al6
  have q5 := q5.next al6
  have C := Lib.hid (c30_rc A c _ 2 _ r3 rt)
  clear rt r3
  go_wp2_with fail
  refine (C.out).mono ?_
  rintro e w16 ⟨A6, d6, rfl, q6, b⟩
  have gg := (gg.alloc _).next b
  have r2 := (r2.next al6).next b
  have hB := hB.trans ((al6.trans (b.mono al6.size)).mono hB.size)
  have q0 := q0.next b
  have p0 := p0.next b
  have q1 := q1.next b
  have q2 := q2.next b
  have q3 := q3.next b
  have q4 := q4.next b
  have q5 := q5.next b
  clear b al6 c0 c1 C k0 k1
  obtain ⟨WB, hWWB⟩ : ∃ WB, (((((((((w16.alloc (.cells ([.slice A0 2 d0, .slice X0 3 y0, .slice A1 2 d1, .slice A2 3 d2, .slice A3 1 d3, .slice A4 3 d4, .slice A5 2 d5, .slice A6 3 d6] : List Value).toArray 25)).alloc (.cells (ints [1, 2]).toArray 3)).alloc (.cells (ints [0, 1, 2]).toArray 3)).alloc (.cells (ints [0, 3]).toArray 3)).alloc (.cells (ints [0, 2, 3]).toArray 3)).alloc (.cells (ints [3]).toArray 3)).alloc (.cells (ints [0, 0, 0]).toArray 3)).alloc (.cells (ints [1, 3]).toArray 3)).alloc (.cells (ints [0, 2, 1]).toArray 3)).alloc (.cells ([.slice (some ⟨w16.heap.size + 1, 0, none⟩) 2 2, .slice (some ⟨w16.heap.size + 2, 0, none⟩) 3 3, .slice (some ⟨w16.heap.size + 3, 0, none⟩) 2 2, .slice (some ⟨w16.heap.size + 4, 0, none⟩) 3 3, .slice (some ⟨w16.heap.size + 5, 0, none⟩) 1 1, .slice (some ⟨w16.heap.size + 6, 0, none⟩) 3 3, .slice (some ⟨w16.heap.size + 7, 0, none⟩) 2 2, .slice (some ⟨w16.heap.size + 8, 0, none⟩) 3 3] : List Value).toArray 25) = WB := ⟨_, rfl⟩
  have bW : Below w16.heap.size w16 WB := by rw [← hWWB]; exact ((((((((((Below.refl _ _).alloc (Nat.le_refl _) _).alloc (by simp) _).alloc (by simp; omega) _).alloc (by simp; omega) _).alloc (by simp; omega) _).alloc (by simp; omega) _).alloc (by simp; omega) _).alloc (by simp; omega) _).alloc (by simp; omega) _).alloc (by simp; omega) _
  have lf : Blk WB w16.heap.size 25 ([.slice A0 2 d0, .slice X0 3 y0, .slice A1 2 d1, .slice A2 3 d2, .slice A3 1 d3, .slice A4 3 d4, .slice A5 2 d5, .slice A6 3 d6] : List Value).toArray := by rw [← hWWB]; exact ((((((((((Blk.newA rfl).alloc _).alloc _).alloc _).alloc _).alloc _).alloc _).alloc _).alloc _).alloc _)
  have l0 : Blk WB (w16.heap.size + 1) 3 (ints [1, 2]).toArray := by rw [← hWWB]; exact (((((((((Blk.newA (by simp)).alloc _).alloc _).alloc _).alloc _).alloc _).alloc _).alloc _).alloc _)
  have l1 : Blk WB (w16.heap.size + 2) 3 (ints [0, 1, 2]).toArray := by rw [← hWWB]; exact ((((((((Blk.newA (by simp)).alloc _).alloc _).alloc _).alloc _).alloc _).alloc _).alloc _)
  have l2 : Blk WB (w16.heap.size + 3) 3 (ints [0, 3]).toArray := by rw [← hWWB]; exact (((((((Blk.newA (by simp)).alloc _).alloc _).alloc _).alloc _).alloc _).alloc _)
  have l3 : Blk WB (w16.heap.size + 4) 3 (ints [0, 2, 3]).toArray := by rw [← hWWB]; exact ((((((Blk.newA (by simp)).alloc _).alloc _).alloc _).alloc _).alloc _)
  have l4 : Blk WB (w16.heap.size + 5) 3 (ints [3]).toArray := by rw [← hWWB]; exact (((((Blk.newA (by simp)).alloc _).alloc _).alloc _).alloc _)
  have l5 : Blk WB (w16.heap.size + 6) 3 (ints [0, 0, 0]).toArray := by rw [← hWWB]; exact ((((Blk.newA (by simp)).alloc _).alloc _).alloc _)
  have l6 : Blk WB (w16.heap.size + 7) 3 (ints [1, 3]).toArray := by rw [← hWWB]; exact (((Blk.newA (by simp)).alloc _).alloc _)
  have l7 : Blk WB (w16.heap.size + 8) 3 (ints [0, 2, 1]).toArray := by rw [← hWWB]; exact ((Blk.newA (by simp)).alloc _)
  have lo : Blk WB (w16.heap.size + 9) 25 ([.slice (some ⟨w16.heap.size + 1, 0, none⟩) 2 2, .slice (some ⟨w16.heap.size + 2, 0, none⟩) 3 3, .slice (some ⟨w16.heap.size + 3, 0, none⟩) 2 2, .slice (some ⟨w16.heap.size + 4, 0, none⟩) 3 3, .slice (some ⟨w16.heap.size + 5, 0, none⟩) 1 1, .slice (some ⟨w16.heap.size + 6, 0, none⟩) 3 3, .slice (some ⟨w16.heap.size + 7, 0, none⟩) 2 2, .slice (some ⟨w16.heap.size + 8, 0, none⟩) 3 3] : List Value).toArray := by rw [← hWWB]; exact (Blk.newA (by simp))
  have q0 := q0.next bW
  have p0 := p0.next bW
  have q1 := q1.next bW
  have q2 := q2.next bW
  have q3 := q3.next bW
  have q4 := q4.next bW
  have q5 := q5.next bW
  have q6 := q6.next bW
  have wf : RowsR WB WB.heap.size (some ⟨w16.heap.size, 0, none⟩) [[1, 2], [0, 1, 2], [0, 3], [0, 2, 3], [3], [0, 0, 0], [1, 3], [0, 2, 1]] := rows_litA lf rfl fun i xs hx => by
    match i with
    | 0 => injection hx with hx; subst hx; exact ⟨_, _, rfl, q0⟩
    | 1 => injection hx with hx; subst hx; exact ⟨_, _, rfl, p0⟩
    | 2 => injection hx with hx; subst hx; exact ⟨_, _, rfl, q1⟩
    | 3 => injection hx with hx; subst hx; exact ⟨_, _, rfl, q2⟩
    | 4 => injection hx with hx; subst hx; exact ⟨_, _, rfl, q3⟩
    | 5 => injection hx with hx; subst hx; exact ⟨_, _, rfl, q4⟩
    | 6 => injection hx with hx; subst hx; exact ⟨_, _, rfl, q5⟩
    | 7 => injection hx with hx; subst hx; exact ⟨_, _, rfl, q6⟩
    | i + 8 => cases hx
  have wo : RowsR WB WB.heap.size (some ⟨w16.heap.size + 9, 0, none⟩) [[1, 2], [0, 1, 2], [0, 3], [0, 2, 3], [3], [0, 0, 0], [1, 3], [0, 2, 1]] := rows_litA lo rfl fun i xs hx => by
    match i with
    | 0 => injection hx with hx; subst hx; exact ⟨_, 2, rfl, row_litA l0⟩
    | 1 => injection hx with hx; subst hx; exact ⟨_, 3, rfl, row_litA l1⟩
    | 2 => injection hx with hx; subst hx; exact ⟨_, 2, rfl, row_litA l2⟩
    | 3 => injection hx with hx; subst hx; exact ⟨_, 3, rfl, row_litA l3⟩
    | 4 => injection hx with hx; subst hx; exact ⟨_, 1, rfl, row_litA l4⟩
    | 5 => injection hx with hx; subst hx; exact ⟨_, 3, rfl, row_litA l5⟩
    | 6 => injection hx with hx; subst hx; exact ⟨_, 2, rfl, row_litA l6⟩
    | 7 => injection hx with hx; subst hx; exact ⟨_, 3, rfl, row_litA l7⟩
    | i + 8 => cases hx
  have hB := hB.trans (bW.mono hB.size)
  have SB := Lib.hid (SL.out (some ⟨w16.heap.size, 0, none⟩) 8 (some ⟨w16.heap.size + 9, 0, none⟩) 8 WB wf wo)
  have HWB := Lib.hid hWWB
  clear bW hWWB wf wo lf lo gg r2 l0 l1 l2 l3 l4 l5 l6 l7 q0 p0 q1 q2 q3 q4 q5 q6
  go_wp2_with fail
  try simp only [ints, List.map_cons, List.map_nil] at HWB
  try rw [HWB.out]
  refine (SB.out).mono ?_
  rintro e w50 ⟨rfl, b⟩
  go_wp2
  go_ret
  exact ⟨rfl, hB.trans (b.mono hB.size)⟩
end Go.Proofs.YtghigdcpinengaaGreat

