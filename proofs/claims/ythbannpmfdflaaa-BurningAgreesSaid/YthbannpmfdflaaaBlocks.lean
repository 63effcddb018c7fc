/-
  Package burning: Blocks.
-/
import Derived.Test.YthbannpmfdflaaaLegal2
import Derived.Test.YthbannpmfdflaaaConf
namespace Go.Proofs.Ythbannpmfdflaaa
open Go.RowKit

theorem setFrom_zero {n : Int} : ∀ {xs : List Int} {p : Option Int}, setFrom n p xs = 0 → ∀ v ∈ xs, 0 ≤ v ∧ v < n
  | [], _, _ => by simp
  | x :: xs, p, h => by
    rw [setFrom.eq_def] at h
    dsimp only at h
    split at h
    · omega
    · rename_i hv
      have hx := vertB_true.1 (by simpa using hv)
      have hr : setFrom n (some x) xs = 0 := by
        rcases p with _ | y
        · exact h
        · dsimp only at h
          split at h
          · omega
          · exact h
      intro v hm
      rcases List.mem_cons.1 hm with rfl | hm
      · exact hx
      · exact setFrom_zero hr v hm
theorem burn_parts {n : Int} {es : List E3} {q : Int} {cs : List Int} (h : burnErr n es q cs = 0) : checkG n es = 0 ∧ divErr cs n = 0 := by
  have h1 := (burn_zero h).1
  rcases conf_cases n es q cs with ⟨k1, hE⟩ | ⟨k1, k2, hE⟩ | ⟨k1, k2, hE⟩
  · exact absurd (hE ▸ h1) k1
  · exact absurd (hE ▸ h1) k2
  · refine ⟨?_, k2⟩
    rcases root_cases n es q with ⟨r1, rE⟩ | ⟨r1, _, rE⟩ | ⟨r1, _, _, rE⟩ | ⟨r1, _, _, rE⟩
    · exact absurd (rE ▸ k1) r1
    · exact r1
    · exact r1
    · exact r1

/-- What Blocks answers. -/
def blkErr (n : Int) (es : List E3) (q : Int) (cs S : List Int) : Int := if burnErr n es q cs ≠ 0 then burnErr n es q cs else subErr n es S
def blkB (n : Int) (es : List E3) (q : Int) (cs S : List Int) : Bool := if blkErr n es q cs S = 0 then legB es cs S && !decide (q ∈ S) else false
set_option maxRecDepth 100000 in
set_option maxHeartbeats 2000000 in
theorem blocks_any (n : Int) (A : Option Addr) (c : Nat) (es : List E3) (hn : es.length ≤ 1048576) (q : Int) (B : Option Addr) (d : Nat) (cs : List Int) (hm : cs.length ≤ 1048576) (D : Option Addr) (f : Nat) (S : List Int) (hs : S.length ≤ 1048576) (w : World)
    (h : Reads w w.heap.size 3 A es.length (edgeCells es)) (h' : Reads w w.heap.size 1 B cs.length (ints cs)) (h'' : Reads w w.heap.size 1 D S.length (ints S)) :
    Calls Try.prog 21 #[.agg #[.int .i64 n, .slice A es.length c], .int .i64 q, .slice B cs.length d, .slice D S.length f] w fun e w' => e = .returned (.tuple #[.bool (blkB n es q cs S), .int .i64 (blkErr n es q cs S)]) ∧ Below w.heap.size w w' := by
  have BC := bcheck_any n A c es hn q B d cs hm
  have SC := subset_any n A c es hn D f S hs
  have g0 := Blk.new w 24 #[.int .i64 n, .slice A es.length c]
  by_cases h1 : burnErr n es q cs = 0
  · have hE : blkErr n es q cs S = subErr n es S := by unfold blkErr; rw [if_neg (fun hc => hc h1)]
    rw [h1] at BC
    have BC := Lib.hid BC
    by_cases h2 : subErr n es S = 0
    · obtain ⟨hk, hdv⟩ := burn_parts h1
      obtain ⟨hG, _, _, _, hlen, _, _⟩ := conf_zero (burn_zero h1).1
      have hlo := hG.lo
      have hB : blkB n es q cs S = (legB es cs S && !decide (q ∈ S)) := by unfold blkB; rw [hE, if_pos h2]
      have hset : setErr n S = 0 := by unfold subErr at h2; rw [if_neg (fun hc => hc hk)] at h2; exact h2
      have hSv := setFrom_zero hset
      have hleg : legErr n es cs S = 0 := by
        have hgv : givErr n es cs = 0 := by unfold givErr; rw [if_neg (fun hc => hc hk)]; exact hdv
        unfold legErr
        rw [if_neg (fun hc => hc hgv)]
        exact h2
      rw [hB, hE, h2]
      rw [h2] at SC
      obtain ⟨m, rfl⟩ := Int.eq_ofNat_of_zero_le (show 0 ≤ n by omega)
      have LC := legal_ok m A c es hn B d cs hm D f S hs hleg hG (by omega) hSv
      have CC := contains_any D f S hs q
      obtain ⟨lr, hlr⟩ : ∃ z, legB es cs S = z := ⟨_, rfl⟩
      rw [hlr] at LC ⊢
      have SC := Lib.hid SC
      have LC := Lib.hid LC
      have CC := Lib.hid CC
      clear h1 h2 hE hk hdv hG hlen hB hset hSv hleg hlr
      go_enter Try.func21, Try.ntmps21
      go_wp2_with fail
      refine (BC.out _ ((h.alloc (Nat.le_refl _) _).more (by simp)) ((h'.alloc (Nat.le_refl _) _).more (by simp))).mono ?_
      rintro e w1 ⟨rfl, hb1⟩
      have hbel1 : Below w.heap.size w w1 := ((Below.refl _ _).alloc (Nat.le_refl _) _).trans (hb1.mono (by simp))
      have g1 := g0.next hb1
      have c0 := g1.cell 0
      have c1 := g1.cell 1
      go_wp2_with fail
      refine (SC.out _ ((h.below hbel1).more hbel1.size) ((h''.below hbel1).more hbel1.size)).mono ?_
      rintro e w2 ⟨rfl, hb2⟩
      have hbel2 := hbel1.trans (hb2.mono hbel1.size)
      have g2 := g1.next hb2
      have d0 := g2.cell 0
      have d1 := g2.cell 1
      go_wp2_with fail
      refine (LC.out _ ((h.below hbel2).more hbel2.size) ((h'.below hbel2).more hbel2.size) ((h''.below hbel2).more hbel2.size)).mono ?_
      rintro e w3 ⟨rfl, hb3⟩
      have hbel3 := hbel2.trans (hb3.mono hbel2.size)
      cases lr
      · go_wp2
        go_ret2
        exact ⟨rfl, hbel3⟩
      · go_wp2_with fail
        refine (CC.out _ ((h''.below hbel3).more hbel3.size)).mono ?_
        rintro e w4 ⟨rfl, rfl⟩
        go_wp2
        go_ret2
        exact ⟨by simp, hbel3⟩
    · have hB : blkB n es q cs S = false := by unfold blkB; rw [hE, if_neg h2]
      rw [hB, hE]
      obtain ⟨z, hz⟩ : ∃ z, subErr n es S = z := ⟨_, rfl⟩
      rw [hz] at SC h2 ⊢
      have hb : (z != 0) = true := by simpa using h2
      have SC := Lib.hid SC
      clear h1 h2 hE hB hz
      go_enter Try.func21, Try.ntmps21
      go_wp2_with fail
      refine (BC.out _ ((h.alloc (Nat.le_refl _) _).more (by simp)) ((h'.alloc (Nat.le_refl _) _).more (by simp))).mono ?_
      rintro e w1 ⟨rfl, hb1⟩
      have hbel1 : Below w.heap.size w w1 := ((Below.refl _ _).alloc (Nat.le_refl _) _).trans (hb1.mono (by simp))
      have g1 := g0.next hb1
      have c0 := g1.cell 0
      have c1 := g1.cell 1
      go_wp2_with fail
      refine (SC.out _ ((h.below hbel1).more hbel1.size) ((h''.below hbel1).more hbel1.size)).mono ?_
      rintro e w2 ⟨rfl, hb2⟩
      go_wp2
      go_ret2
      exact ⟨rfl, hbel1.trans (hb2.mono hbel1.size)⟩
  · have hE : blkErr n es q cs S = burnErr n es q cs := by unfold blkErr; rw [if_pos h1]
    have hB : blkB n es q cs S = false := by unfold blkB; rw [hE, if_neg h1]
    rw [hB, hE]
    obtain ⟨z, hz⟩ : ∃ z, burnErr n es q cs = z := ⟨_, rfl⟩
    rw [hz] at BC h1 ⊢
    have hb : (z != 0) = true := by simpa using h1
    have BC := Lib.hid BC
    clear h1 hE hB hz SC
    go_enter Try.func21, Try.ntmps21
    go_wp2_with fail
    refine (BC.out _ ((h.alloc (Nat.le_refl _) _).more (by simp)) ((h'.alloc (Nat.le_refl _) _).more (by simp))).mono ?_
    rintro e w1 ⟨rfl, hb1⟩
    have hbel1 : Below w.heap.size w w1 := ((Below.refl _ _).alloc (Nat.le_refl _) _).trans (hb1.mono (by simp))
    go_wp2
    go_ret2
    exact ⟨rfl, hbel1⟩
end Go.Proofs.Ythbannpmfdflaaa
