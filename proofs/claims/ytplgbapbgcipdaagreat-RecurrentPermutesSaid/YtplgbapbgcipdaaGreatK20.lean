/-
  Texts of this claim, put together: SameAll, Lits, Given.
-/
import Derived.Test.YtplgbapbgcipdaaGreatK12
import Derived.Test.YtplgbapbgcipdaaGreatK08
import Derived.Test.YtplgbapbgcipdaaGreatK15
import Derived.Test.YtplgbapbgcipdaaGreatK07
import Derived.Test.YtplgbapbgcipdaaGreatK09
import Derived.Test.YtplgbapbgcipdaaGreatK16
import Derived.Test.YtplgbapbgcipdaaGreatK14
import Derived.Test.YtplgbapbgcipdaaGreatK10
/-! ref17.SameAll, ref24.SameAll. -/
namespace Go.Proofs.YtplgbapbgcipdaaGreat
open Go.RowKit

set_option maxRecDepth 100000 in
set_option maxHeartbeats 4000000 in
theorem sameall_any (A : Option Addr) (c : Nat) (xss : List (List Int)) (B : Option Addr) (d : Nat) (yss : List (List Int)) (hn : ∀ xs ∈ xss, xs.length ≤ 1048576) (hn2 : xss.length ≤ 1048576) (w : World) (b0 : Nat) (h : RowsR w b0 A xss) (h' : RowsR w b0 B yss) :
    Calls Tryz.prog 53 #[.slice A xss.length c, .slice B yss.length d] w fun e w' => e = .returned (.bool (decide (xss = yss))) ∧ ∃ m, w' = w.drewN m := by
  by_cases hl : xss.length = yss.length
  · have hb : ((xss.length : Int) != (yss.length : Int)) = false := by simp; omega
    obtain ⟨vs, hv, hrow⟩ := h
    obtain ⟨us, hu, hrow'⟩ := h'
    have HV := Lib.hid hv
    have HU := Lib.hid hu
    have HR := Lib.hid hrow
    have HR' := Lib.hid hrow'
    have HN := Lib.hid hn
    have HL := Lib.hid hl
    rw [← hl]
    clear hv hu hrow hrow' hn hl
    go_enter Tryz.func53, Tryz.ntmps53
    go_wp2_with fail
    go_loopw [5] (fun i wl => ∃ k : Nat, i = .int .i64 k ∧ k ≤ xss.length ∧ Hid (∀ j, j < k → xss[j]? = yss[j]?) ∧ ∃ m, wl = w.drewN m) (fun i _ => xss.length - (intOf i).toNat)
    case atStart => exact ⟨0, rfl, by omega, fun j hj => by omega, 0, rfl⟩
    case round =>
      obtain ⟨k, rfl, hk, HE, m, rfl⟩ := hrel
      by_cases hlt : k < xss.length
      · have hi : (k : Int) < (xss.length : Int) := by omega
        obtain ⟨xs, hx⟩ := get_of_lt hlt
        obtain ⟨ys, hy⟩ := get_of_lt (xs := yss) (k := k) (by have := HL.out; omega)
        obtain ⟨A1, c1, hvk, hr1⟩ := HR.out k xs hx
        obtain ⟨A2, c2, huk, hr2⟩ := HR'.out k ys hy
        obtain ⟨b1, o1, hA, _, e1⟩ := HV.out.at_ hvk
        subst hA
        obtain ⟨b2, o2, hB, _, e2⟩ := HU.out.at_ huk
        subst hB
        have DS := Lib.hid (dsame_any A1 c1 xs A2 c2 ys (HN.out xs (List.mem_of_getElem? hx)) ((w.drewN m).drew) b0 hr1 hr2)
        have HX := Lib.hid hx
        have HY := Lib.hid hy
        have hi2 : (k : Int) < (yss.length : Int) := by have := HL.out; omega
        clear hx hy hvk huk hr1 hr2
        by_cases he : xs = ys
        · rw [decide_eq_true he] at DS
          have HS : Hid (xss[k]? = yss[k]?) := by rw [Hid, HX.out, HY.out, he]
          clear he
          go_wp2_with fail
          refine region_tail 8 (by kernel_rfl) (by kernel_rfl) ?_
          simp only [List.take_succ_cons, List.take_zero, List.drop_succ_cons, List.drop_zero]
          repeat still_step
          refine wpStill_nil ?_
          go_wp2_with fail
          refine (DS.out).mono ?_
          rintro e w5 ⟨rfl, m5, hw5⟩
          have HW5 : Hid (∃ m', w5 = w.drewN m') := ⟨m + 1 + m5, by rw [hw5]; simp [World.drewN, World.drew, Nat.add_assoc]⟩
          clear hw5
          go_wp2
          go_roundw
          case rel => exact ⟨k + 1, by go_num, by omega, fun j hj => by
            by_cases hjk : j = k
            · rw [hjk]; exact HS.out
            · exact HE.out j (by omega), HW5.out⟩
          case measure => simp [intOf]; omega
        · rw [decide_eq_false he] at DS
          have HF : Hid (decide (xss = yss) = false) := by
            rw [Hid, decide_eq_false_iff_not]
            intro hh
            rw [hh, HY.out] at HX
            have := HX.out
            injection this with this
            exact he this.symm
          clear he
          go_wp2_with fail
          refine region_tail 8 (by kernel_rfl) (by kernel_rfl) ?_
          simp only [List.take_succ_cons, List.take_zero, List.drop_succ_cons, List.drop_zero]
          repeat still_step
          refine wpStill_nil ?_
          go_wp2_with fail
          refine (DS.out).mono ?_
          rintro e w5 ⟨rfl, m5, hw5⟩
          have HW5 : Hid (∃ m', w5 = w.drewN m') := ⟨m + 1 + m5, by rw [hw5]; simp [World.drewN, World.drew, Nat.add_assoc]⟩
          clear hw5
          go_wp2
          go_ret
          exact ⟨by rw [HF.out]; rfl, HW5.out⟩
      · have hkl : k = xss.length := by omega
        subst hkl
        have HF : Hid (decide (xss = yss) = true) := by
          rw [Hid, decide_eq_true_iff]
          apply List.ext_getElem?
          intro i
          by_cases hi : i < xss.length
          · exact HE.out i hi
          · have := HL.out
            rw [List.getElem?_eq_none (by omega), List.getElem?_eq_none (by omega)]
        go_wp2
        go_ret
        exact ⟨by rw [HF.out]; rfl, m, rfl⟩
  · have hb : ((xss.length : Int) != (yss.length : Int)) = true := by simp; omega
    have HF : Hid (decide (xss = yss) = false) := by
      rw [Hid, decide_eq_false_iff_not]
      exact fun hh => hl (by rw [hh])
    go_enter Tryz.func53, Tryz.ntmps53
    go_wp2
    go_ret
    exact ⟨by rw [HF.out]; rfl, 0, rfl⟩
set_option maxHeartbeats 800000 in
theorem rsameall_any (A : Option Addr) (c : Nat) (xss : List (List Int)) (B : Option Addr) (d : Nat) (yss : List (List Int)) (hn : ∀ xs ∈ xss, xs.length ≤ 1048576) (hn2 : xss.length ≤ 1048576) (w : World) (b0 : Nat) (h : RowsR w b0 A xss) (h' : RowsR w b0 B yss) :
    Calls Tryz.prog 25 #[.slice A xss.length c, .slice B yss.length d] w fun e w' => e = .returned (.bool (decide (xss = yss))) ∧ ∃ m, w' = w.drewN m := by
  have HC := Lib.hid (sameall_any A c xss B d yss hn hn2 w b0 h h')
  go_enter Tryz.func25, Tryz.ntmps25
  go_wp2_with fail
  refine (HC.out).mono ?_
  rintro e w1 ⟨rfl, hm⟩
  go_wp2
  go_ret
  exact ⟨rfl, hm⟩
end Go.Proofs.YtplgbapbgcipdaaGreat

/-! Literals of ints, their comparisons; the triangle. -/
namespace Go.Proofs.YtplgbapbgcipdaaGreat
open Go.RowKit

/-- The triangle. -/
def tri : List E3 := [(0, 1, 1), (0, 2, 1), (1, 2, 1)]
theorem reads_lit (w : World) (xs : List Int) : Reads (w.alloc (.cells (ints xs).toArray 3)) (w.alloc (.cells (ints xs).toArray 3)).heap.size 1 (some ⟨w.heap.size, 0, none⟩) xs.length (ints xs) :=
  ⟨by simp [ints], fun _ => ⟨w.heap.size, 0, rfl, by simp, fun j u hu => by
    rw [Nat.zero_add, (Blk.new w 3 (ints xs).toArray).cell j]
    simpa using hu⟩⟩
theorem below_new {w w' : World} {o : Obj} (h : Below (w.alloc o).heap.size (w.alloc o) w') : Below w.heap.size w w' := ((Below.refl _ w).alloc (Nat.le_refl _) o).trans (h.mono (by simp))
/-- A literal of three ints, of two. -/
abbrev obj3 (a b c : Int) : Obj := .cells #[.int .i64 a, .int .i64 b, .int .i64 c] 3
abbrev obj2 (a b : Int) : Obj := .cells #[.int .i64 a, .int .i64 b] 3

theorem ieq3 (A : Option Addr) (c : Nat) (a b d : Int) (w : World) (g : Nat) (hg : g = w.heap.size) (h : Reads w w.heap.size 1 A 3 (ints [a, b, d])) :
    Calls Tryz.prog 34 #[.slice A 3 c, .slice (some ⟨g, 0, none⟩) 3 3] (w.alloc (obj3 a b d)) fun e w' => e = .returned (.bool true) ∧ Below w.heap.size w w' := by
  subst hg
  have h := iequal_any A c [a, b, d] (some ⟨w.heap.size, 0, none⟩) 3 [a, b, d] (by simp) (w.alloc (obj3 a b d)) ((h.alloc (Nat.le_refl _) _).more (by simp)) (reads_lit w [a, b, d])
  exact h.mono fun e w' ⟨he, hb⟩ => ⟨by simpa using he, below_new hb⟩
theorem ieq2 (A : Option Addr) (c : Nat) (a b : Int) (w : World) (g : Nat) (hg : g = w.heap.size) (h : Reads w w.heap.size 1 A 2 (ints [a, b])) :
    Calls Tryz.prog 34 #[.slice A 2 c, .slice (some ⟨g, 0, none⟩) 2 2] (w.alloc (obj2 a b)) fun e w' => e = .returned (.bool true) ∧ Below w.heap.size w w' := by
  subst hg
  have h := iequal_any A c [a, b] (some ⟨w.heap.size, 0, none⟩) 2 [a, b] (by simp) (w.alloc (obj2 a b)) ((h.alloc (Nat.le_refl _) _).more (by simp)) (reads_lit w [a, b])
  exact h.mono fun e w' ⟨he, hb⟩ => ⟨by simpa using he, below_new hb⟩
theorem deq3 (A : Option Addr) (c : Nat) (a b d : Int) (w : World) (g : Nat) (hg : g = w.heap.size) (h : Reads w w.heap.size 1 A 3 (ints [a, b, d])) :
    Calls Tryz.prog 21 #[.slice A 3 c, .slice (some ⟨g, 0, none⟩) 3 3] (w.alloc (obj3 a b d)) fun e w' => e = .returned (.bool true) ∧ Below w.heap.size w w' := by
  subst hg
  have h := dequal_any A c [a, b, d] (some ⟨w.heap.size, 0, none⟩) 3 [a, b, d] (by simp) (w.alloc (obj3 a b d)) ((h.alloc (Nat.le_refl _) _).more (by simp)) (reads_lit w [a, b, d])
  exact h.mono fun e w' ⟨he, hb⟩ => ⟨by simpa using he, below_new hb⟩
theorem seq3 (A : Option Addr) (c : Nat) (a b d : Int) (w : World) (g : Nat) (hg : g = w.heap.size) (h : Reads w w.heap.size 1 A 3 (ints [a, b, d])) :
    Calls Tryz.prog 35 #[.slice A 3 c, .slice (some ⟨g, 0, none⟩) 3 3] (w.alloc (obj3 a b d)) fun e w' => e = .returned (.bool true) ∧ Below w.heap.size w w' := by
  subst hg
  have h := sequal_any A c [a, b, d] (some ⟨w.heap.size, 0, none⟩) 3 [a, b, d] (by simp) (w.alloc (obj3 a b d)) ((h.alloc (Nat.le_refl _) _).more (by simp)) (reads_lit w [a, b, d])
  exact h.mono fun e w' ⟨he, hb⟩ => ⟨by simpa using he, below_new hb⟩

end Go.Proofs.YtplgbapbgcipdaaGreat

/-! Package tree: given, spans, checked, Check; connect.Edges; graph.Size. -/
namespace Go.Proofs.YtplgbapbgcipdaaGreat
open Go.RowKit Go.Shelf
attribute [local go_sem] Oper.semAt_some

/-! What connects, by edges and by single edges. -/
theorem OwnQ.reads {w : World} {base : Nat} {A : Option Addr} {c : Nat} {ps : List (Nat × Nat)} (h : OwnQ w base A c ps) : Reads w w.heap.size 2 A ps.length (pair2 ps) := Reads.of_own h
end Go.Proofs.YtplgbapbgcipdaaGreat

