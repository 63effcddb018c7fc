/-
  right of chapter 23: is a configuration right and small?
-/
import Derived.Test.YthbannpmfdflaaaRFew
import Derived.Test.YthbannpmfdflaaaRConf2
import Derived.WalkKit
namespace Go.Proofs.Ythbannpmfdflaaa
open Go.RowKit

/-- Is a configuration right and small? -/
def rightB (n : Int) (es : List E3) (q : Int) (cs : List Int) : Bool := few23 n es cs && decide (burnErr n es q cs = 0)
set_option maxHeartbeats 1000000 in
theorem right_any (n : Int) (A : Option Addr) (c : Nat) (es : List E3) (q : Int) (B : Option Addr) (d : Nat) (cs : List Int) (w : World) (h : Reads w w.heap.size 3 A es.length (edgeCells es)) (h' : Reads w w.heap.size 1 B cs.length (ints cs)) :
    Calls Try.prog 18 #[.agg #[.int .i64 n, .slice A es.length c], .int .i64 q, .slice B cs.length d] w fun e w' => e = .returned (.bool (rightB n es q cs)) ∧ Below w.heap.size w w' := by
  have FC := Lib.hid (fun w h h' => few23_any n A c es B d cs w h h')
  have g0 := Blk.new w 24 #[.int .i64 n, .slice A es.length c]
  have hb0 : Below w.heap.size w (w.alloc (.cells #[.int .i64 n, .slice A es.length c] 24)) := (Below.refl _ _).alloc (Nat.le_refl _) _
  cases hf : few23 n es cs
  · have HF := Lib.hid hf
    have HR : Hid (rightB n es q cs = false) := by rw [Hid]; unfold rightB; rw [hf]; rfl
    clear hf
    go_enter Try.func18, Try.ntmps18
    go_wp2_with fail
    refine (FC.out _ ((h.alloc (Nat.le_refl _) _).more (by simp)) ((h'.alloc (Nat.le_refl _) _).more (by simp))).mono ?_
    rintro e w1 ⟨he, hb1⟩
    rw [HF.out] at he
    subst he
    go_wp2
    go_ret
    exact ⟨ret_bool HR.out.symm, hb0.trans (hb1.mono hb0.size)⟩
  · obtain ⟨h1, h2, _⟩ := few23_parts hf
    have KC := Lib.hid (fun w h h' => rbcheck_any n A c es (by omega) q B d cs (by omega) w h h')
    have HF := Lib.hid hf
    have HR : Hid (rightB n es q cs = decide (burnErr n es q cs = 0)) := by rw [Hid]; unfold rightB; rw [hf]; rfl
    clear hf
    rw [HR.out]
    clear HR
    obtain ⟨z, hz⟩ : ∃ z, burnErr n es q cs = z := ⟨_, rfl⟩
    rw [hz] at KC ⊢
    clear hz
    go_enter Try.func18, Try.ntmps18
    go_wp2_with fail
    refine (FC.out _ ((h.alloc (Nat.le_refl _) _).more (by simp)) ((h'.alloc (Nat.le_refl _) _).more (by simp))).mono ?_
    rintro e w1 ⟨he, hb1⟩
    rw [HF.out] at he
    subst he
    have g1 := g0.next hb1
    have c0 := g1.cell 0
    have c1 := g1.cell 1
    have hB1 := hb0.trans (hb1.mono hb0.size)
    go_wp2_with fail
    refine (KC.out _ ((h.below hB1).more hB1.size) ((h'.below hB1).more hB1.size)).mono ?_
    rintro e w2 ⟨rfl, hb2⟩
    go_wp2
    go_ret
    exact ⟨rfl, hB1.trans (hb2.mono hB1.size)⟩
theorem right_parts {n : Int} {es : List E3} {q : Int} {cs : List Int} (h : rightB n es q cs = true) : es.length ≤ 40 ∧ cs.length ≤ 24 ∧ n ≤ 6 ∧ (∀ x ∈ cs, x ≤ 60) ∧ burnErr n es q cs = 0 := by
  unfold rightB at h
  rw [Bool.and_eq_true, decide_eq_true_eq] at h
  obtain ⟨h1, h2, h3, h4⟩ := few23_parts h.1
  obtain ⟨hG, _, _, _, _, hbd, _⟩ := conf_zero (burn_zero h.2).1
  have hg : checkG n es = 0 := by
    refine Classical.byContradiction fun hc => ?_
    have h5 := (burn_zero h.2).1
    have h6 : rootErr n es q = checkG n es := by unfold rootErr; rw [if_pos hc]
    unfold confErr at h5
    rw [h6, if_pos hc] at h5
    exact hc h5
  exact ⟨h1, h2, (h3 hg).1, fun x hx => h4 x hx (hbd x hx).2, h.2⟩
end Go.Proofs.Ythbannpmfdflaaa
