/-
  Texts of this claim, put together: Uniq1, KahnP, UniqueO.
-/
import Derived.Test.YtplgbapbgcipdaaGreatK46
import Derived.Test.YtplgbapbgcipdaaGreatK10
import Derived.Test.YtplgbapbgcipdaaGreatK05
import Derived.Test.YtplgbapbgcipdaaGreatK41
import Derived.Test.YtplgbapbgcipdaaGreatK42
import Derived.Test.YtplgbapbgcipdaaGreatK45
/-! The test of orientation.Unique: acyclic, with the one source q. -/
namespace Go.Proofs.YtplgbapbgcipdaaGreat
open Go.RowKit

section
variable {P : Program} {md : Region.Mode} {Q : Exit → Act → World → Prop} {S : World → Prop} {l : List Oper} {i j : Nat} {o o' : Oper} {fuel : Nat} {listed : Array Bool} {a : Act} {w : World}
theorem h_two (hi : l[i]? = some o) (hj : l[j]? = some o') (hr : Region.ready md l.toArray listed = [i, j]) (hw : Region.wanted o (yielded l.toArray a.tmps) = true) (hw' : Region.wanted o' (yielded l.toArray a.tmps) = true)
    (h : ∀ K : Act → World → Prop, (∀ a w, S w → wpAnyH P md l.toArray Q S fuel (listed.setIfInBounds i true) a w → K a w) → Oper.wp P o a w K Q)
    (h' : ∀ K : Act → World → Prop, (∀ a w, S w → wpAnyH P md l.toArray Q S fuel (listed.setIfInBounds j true) a w → K a w) → Oper.wp P o' a w K Q) : wpAnyH P md l.toArray Q S (fuel + 1) listed a w :=
  wpAnyH_all hr (by simp) fun k hk => by
    have hki : k = i ∨ k = j := by simpa using hk
    unfold Go.wpOp
    rcases hki with rfl | rfl
    · simp only [List.getElem?_toArray, hi]
      rw [if_pos hw]
      exact .inl (h _ fun a w h1 h2 => ⟨h1, h2⟩)
    · simp only [List.getElem?_toArray, hj]
      rw [if_pos hw']
      exact .inl (h' _ fun a w h1 h2 => ⟨h1, h2⟩)
end
/-- Whether an orientation is acyclic with the one source q. -/
def fitB (n q : Nat) (es : List E3) (O : List Bool) : Bool := kahn (arrL (endsL es) O) n (incL n (arrL (endsL es) O)) && decide (srcTo (arrL (endsL es) O) n = [(q : Int)])
set_option maxRecDepth 100000 in
set_option maxHeartbeats 4000000 in
theorem uniq1_any (n q : Nat) (A : Option Addr) (c : Nat) (es : List E3) (hn : es.length ≤ 10000) (hz : checkG n es = 0) (O : List Bool) (hO : O.length = (endsL es).length) (hmx : (endsL es).length ≤ 1000000) (Ao : Option Addr) (co bg bq : Nat) (w : World)
    (hg : Blk w bg 24 #[.int .i64 n, .slice A es.length c]) (hq : Blk w bq 3 #[.int .i64 q])
    (h : Reads w w.heap.size 3 A es.length (edgeCells es)) (h' : Reads w w.heap.size 1 Ao O.length (boolCells O)) :
    Calls Tryz.prog 60 #[.slice Ao O.length co, .pointer (some ⟨bg, 0, none⟩), .pointer (some ⟨bq, 0, none⟩)] w fun e w' => e = .returned (.bool (fitB n q es O)) ∧ Below w.heap.size w w' := by
  have hn12 : n ≤ 12 := by have := (right_of hz).hi; omega
  have TC := Lib.hid (osorted_any n A c es hn hz O hO hmx Ao co w h h')
  have SC := Lib.hid (fun (W : World) (hB : Below w.heap.size w W) => sources_any n A c es hn hz O hO hmx Ao co W ((h.below hB).more hB.size) ((h'.below hB).more hB.size))
  have c0 := hg.cell 0
  have c1 := hg.cell 1
  have cq := hq.cell 0
  have hgl := hg.lt
  have hql := hq.lt
  unfold fitB
  obtain ⟨l, hl⟩ : ∃ l, arrL (endsL es) O = l := ⟨_, rfl⟩
  rw [hl] at TC SC ⊢
  obtain ⟨s, hs⟩ : ∃ s, srcTo l n = s := ⟨_, rfl⟩
  have hsl : s.length ≤ n := by rw [← hs]; exact srcTo_len
  rw [hs] at SC ⊢
  obtain ⟨r, hr⟩ : ∃ r, kahn l n (incL n l) = r := ⟨_, rfl⟩
  rw [hr] at TC ⊢
  clear hO hl hmx hz hs hr
  obtain ⟨m, hm⟩ : ∃ m, O.length = m := ⟨_, rfl⟩
  obtain ⟨el, hel⟩ : ∃ el, es.length = el := ⟨_, rfl⟩
  rw [hm, hel] at TC SC
  rw [hel] at c1
  rw [hm]
  clear hm hel h h' hg hq
  go_enter Tryz.func60, Tryz.ntmps60
  go_wp2_with fail
  refine (TC.out).mono ?_
  rintro e w1 ⟨Ax, lx, cx, rfl, hb1⟩
  have k0 := (hb1.cell (p := ⟨bg, 0, none⟩) hgl).trans c0
  have k1 := (hb1.cell (p := ⟨bg, 1, none⟩) hgl).trans c1
  have kq := (hb1.cell (p := ⟨bq, 0, none⟩) hql).trans cq
  clear c0 c1 cq
  go_upto_region 2 with fail
  have hgl1 := Nat.lt_of_lt_of_le hgl hb1.size
  have hql1 := Nat.lt_of_lt_of_le hql hb1.size
  go_upto_region 2 with fail
  have hgl1 := Nat.lt_of_lt_of_le hgl hb1.size
  have hql1 := Nat.lt_of_lt_of_le hql hb1.size
  have hb1d : Below w.heap.size w w1.drew := below_drewN hb1 1
  cases r
  · refine wp_region_held_drew (S := (fun W => W.cell? ⟨bg, 0, none⟩ = some (.int .i64 n) ∧ W.cell? ⟨bg, 1, none⟩ = some (.slice A el c) ∧ W.cell? ⟨bq, 0, none⟩ = some (.int .i64 q))) (by kernel_rfl) ⟨k0, k1, kq⟩ (fun hSw => ?_)
    refine h_take (i := 0) (.bool false) rfl (by kernel_rfl) (by kernel_rfl) (by kernel_rfl) (fun _ _ _ h => h) (by kernel_rfl) hSw ?_ ?_
    · intro w hw; (try dsimp only at hw); go_split_ands; go_simp
    refine h_take (i := 1) (.bool false) rfl (by kernel_rfl) (by kernel_rfl) (by kernel_rfl) (fun _ _ _ h => h) (by kernel_rfl) hSw ?_ ?_
    · intro w hw; (try dsimp only at hw); go_split_ands; go_simp
    refine h_skip (i := 2) rfl (by kernel_rfl) (by kernel_rfl) (by kernel_rfl) (fun _ _ _ h => h) (by kernel_rfl) hSw ?_
    refine h_skip (i := 3) rfl (by kernel_rfl) (by kernel_rfl) (by kernel_rfl) (fun _ _ _ h => h) (by kernel_rfl) hSw ?_
    refine h_skip (i := 4) rfl (by kernel_rfl) (by kernel_rfl) (by kernel_rfl) (fun _ _ _ h => h) (by kernel_rfl) hSw ?_
    refine h_skip (i := 5) rfl (by kernel_rfl) (by kernel_rfl) (by kernel_rfl) (fun _ _ _ h => h) (by kernel_rfl) hSw ?_
    refine h_skip (i := 6) rfl (by kernel_rfl) (by kernel_rfl) (by kernel_rfl) (fun _ _ _ h => h) (by kernel_rfl) hSw ?_
    refine h_skip (i := 7) rfl (by kernel_rfl) (by kernel_rfl) (by kernel_rfl) (fun _ _ _ h => h) (by kernel_rfl) hSw ?_
    refine h_take (i := 8) (.bool false) rfl (by kernel_rfl) (by kernel_rfl) (by kernel_rfl) (fun _ _ _ h => h) (by kernel_rfl) hSw ?_ ?_
    · intro w hw; (try dsimp only at hw); go_split_ands; go_simp
    refine h_take (i := 9) (.bool false) rfl (by kernel_rfl) (by kernel_rfl) (by kernel_rfl) (fun _ _ _ h => h) (by kernel_rfl) hSw ?_ ?_
    · intro w hw; (try dsimp only at hw); go_split_ands; go_simp
    refine wpAnyH_done (by kernel_rfl) ?_ _
    go_simp
    try go_wp2
    go_ret
    exact ⟨rfl, hb1d⟩
  · refine wp_region_held_drew (S := (fun W => W.cell? ⟨bg, 0, none⟩ = some (.int .i64 n) ∧ W.cell? ⟨bg, 1, none⟩ = some (.slice A el c) ∧ W.cell? ⟨bq, 0, none⟩ = some (.int .i64 q))) (by kernel_rfl) ⟨k0, k1, kq⟩ (fun hSw => ?_)
    refine h_take (i := 0) (.bool true) rfl (by kernel_rfl) (by kernel_rfl) (by kernel_rfl) (fun _ _ _ h => h) (by kernel_rfl) hSw ?_ ?_
    · intro w hw; (try dsimp only at hw); go_split_ands; go_simp
    refine h_take (i := 1) (.bool true) rfl (by kernel_rfl) (by kernel_rfl) (by kernel_rfl) (fun _ _ _ h => h) (by kernel_rfl) hSw ?_ ?_
    · intro w hw; (try dsimp only at hw); go_split_ands; go_simp
    refine h_take (i := 2) (.agg #[.int .i64 n, .slice A el c]) rfl (by kernel_rfl) (by kernel_rfl) (by kernel_rfl) (fun _ _ _ h => h) (by kernel_rfl) hSw ?_ ?_
    · intro w hw; (try dsimp only at hw); go_split_ands; go_simp
    refine h_take (i := 3) (.slice Ao m co) rfl (by kernel_rfl) (by kernel_rfl) (by kernel_rfl) (fun _ _ _ h => h) (by kernel_rfl) hSw ?_ ?_
    · intro w hw; (try dsimp only at hw); go_split_ands; go_simp
    refine h_take (i := 5) (.int .i64 q) rfl (by kernel_rfl) (by kernel_rfl) (by kernel_rfl) (fun _ _ _ h => h) (by kernel_rfl) hSw ?_ ?_
    · intro w hw; (try dsimp only at hw); go_split_ands; go_simp
    refine h_two (i := 4) (j := 6) rfl rfl (by kernel_rfl) (by kernel_rfl) (by kernel_rfl) ?_ ?_
    · intro K hK
      go_simp
      go_at_call 62
      refine (SC.out _ hb1d).mono ?_
      rintro e w2 ⟨A', c', rfl, o2, hb2⟩
      have k02 := (hb2.cell (p := ⟨bg, 0, none⟩) (by exact hgl1)).trans k0
      have k12 := (hb2.cell (p := ⟨bg, 1, none⟩) (by exact hgl1)).trans k1
      have kq2 := (hb2.cell (p := ⟨bq, 0, none⟩) (by exact hql1)).trans kq
      try go_simp
      refine hK _ _ ⟨k02, k12, kq2⟩ ?_
      clear hK K hSw
      have hSw : (fun W => W.cell? ⟨bg, 0, none⟩ = some (.int .i64 n) ∧ W.cell? ⟨bg, 1, none⟩ = some (.slice A el c) ∧ W.cell? ⟨bq, 0, none⟩ = some (.int .i64 q)) w2 := ⟨k02, k12, kq2⟩
      refine h_step (i := 6) rfl (by kernel_rfl) (by kernel_rfl) ?_
      intro K hK
      go_simp
      have hb3 : Below w1.drew.heap.size w1.drew (w2.alloc (.cells #[.int .i64 q] 3)) := hb2.alloc hb2.size _
      have k03 := (hb3.cell (p := ⟨bg, 0, none⟩) (by exact hgl1)).trans k0
      have k13 := (hb3.cell (p := ⟨bg, 1, none⟩) (by exact hgl1)).trans k1
      have kq3 := (hb3.cell (p := ⟨bq, 0, none⟩) (by exact hql1)).trans kq
      try go_simp
      refine hK _ _ ⟨k03, k13, kq3⟩ ?_
      clear hK K hSw
      have hSw : (fun W => W.cell? ⟨bg, 0, none⟩ = some (.int .i64 n) ∧ W.cell? ⟨bg, 1, none⟩ = some (.slice A el c) ∧ W.cell? ⟨bq, 0, none⟩ = some (.int .i64 q)) (w2.alloc (.cells #[.int .i64 q] 3)) := ⟨k03, k13, kq3⟩
      refine h_step (i := 7) rfl (by kernel_rfl) (by kernel_rfl) ?_
      intro K hK
      go_simp
      go_at_call 34
      refine (iequal_any A' c' s (some ⟨w2.heap.size, 0, none⟩) 1 [(q : Int)] (by omega) (w2.alloc (.cells #[.int .i64 q] 3)) ((o2.alloc _).reads) ((Reads.box w2 (.int .i64 q) 3).more (by simp))).mono ?_
      rintro e w4 ⟨rfl, hb4⟩
      replace hb4 := hb3.trans (hb4.mono hb3.size)
      have k04 := (hb4.cell (p := ⟨bg, 0, none⟩) (by exact hgl1)).trans k0
      have k14 := (hb4.cell (p := ⟨bg, 1, none⟩) (by exact hgl1)).trans k1
      have kq4 := (hb4.cell (p := ⟨bq, 0, none⟩) (by exact hql1)).trans kq
      replace hb4 := hb1d.trans (hb4.mono hb1d.size)
      try go_simp
      refine hK _ _ ⟨k04, k14, kq4⟩ ?_
      clear hK K hSw
      have hSw : (fun W => W.cell? ⟨bg, 0, none⟩ = some (.int .i64 n) ∧ W.cell? ⟨bg, 1, none⟩ = some (.slice A el c) ∧ W.cell? ⟨bq, 0, none⟩ = some (.int .i64 q)) w4 := ⟨k04, k14, kq4⟩
      refine h_take (i := 8) (.bool (decide (s = [(q : Int)]))) rfl (by kernel_rfl) (by kernel_rfl) (by kernel_rfl) (fun _ _ _ h => h) (by kernel_rfl) hSw ?_ ?_
      · intro w hw; (try dsimp only at hw); go_split_ands; go_simp
      refine h_take (i := 9) (.bool (decide (s = [(q : Int)]))) rfl (by kernel_rfl) (by kernel_rfl) (by kernel_rfl) (fun _ _ _ h => h) (by kernel_rfl) hSw ?_ ?_
      · intro w hw; (try dsimp only at hw); go_split_ands; go_simp
      refine wpAnyH_done (by kernel_rfl) ?_ _
      go_simp
      try go_wp2
      go_ret
      exact ⟨rfl, hb4⟩
    · intro K hK
      go_simp
      have hb3 : Below w1.drew.heap.size w1.drew (w1.drew.alloc (.cells #[.int .i64 q] 3)) := (Below.refl _ _).alloc (Nat.le_refl _) _
      have k03 := (hb3.cell (p := ⟨bg, 0, none⟩) (by exact hgl1)).trans k0
      have k13 := (hb3.cell (p := ⟨bg, 1, none⟩) (by exact hgl1)).trans k1
      have kq3 := (hb3.cell (p := ⟨bq, 0, none⟩) (by exact hql1)).trans kq
      try go_simp
      refine hK _ _ ⟨k03, k13, kq3⟩ ?_
      clear hK K hSw
      have hSw : (fun W => W.cell? ⟨bg, 0, none⟩ = some (.int .i64 n) ∧ W.cell? ⟨bg, 1, none⟩ = some (.slice A el c) ∧ W.cell? ⟨bq, 0, none⟩ = some (.int .i64 q)) (w1.drew.alloc (.cells #[.int .i64 q] 3)) := ⟨k03, k13, kq3⟩
      refine h_step (i := 4) rfl (by kernel_rfl) (by kernel_rfl) ?_
      intro K hK
      go_simp
      go_at_call 62
      refine (SC.out _ (hb1d.trans (hb3.mono hb1d.size))).mono ?_
      rintro e w2 ⟨A', c', rfl, o2, hb2⟩
      have rq : Reads w2 w2.heap.size 1 (some ⟨w1.drew.heap.size, 0, none⟩) 1 [.int .i64 q] := (((Reads.box w1.drew (.int .i64 q) 3).more (by simp)).below hb2).more hb2.size
      replace hb2 := hb3.trans (hb2.mono hb3.size)
      have k02 := (hb2.cell (p := ⟨bg, 0, none⟩) (by exact hgl1)).trans k0
      have k12 := (hb2.cell (p := ⟨bg, 1, none⟩) (by exact hgl1)).trans k1
      have kq2 := (hb2.cell (p := ⟨bq, 0, none⟩) (by exact hql1)).trans kq
      try go_simp
      refine hK _ _ ⟨k02, k12, kq2⟩ ?_
      clear hK K hSw
      have hSw : (fun W => W.cell? ⟨bg, 0, none⟩ = some (.int .i64 n) ∧ W.cell? ⟨bg, 1, none⟩ = some (.slice A el c) ∧ W.cell? ⟨bq, 0, none⟩ = some (.int .i64 q)) w2 := ⟨k02, k12, kq2⟩
      refine h_step (i := 7) rfl (by kernel_rfl) (by kernel_rfl) ?_
      intro K hK
      go_simp
      go_at_call 34
      refine (iequal_any A' c' s (some ⟨w1.drew.heap.size, 0, none⟩) 1 [(q : Int)] (by omega) w2 (o2.reads) rq).mono ?_
      rintro e w4 ⟨rfl, hb4⟩
      replace hb4 := hb2.trans (hb4.mono hb2.size)
      have k04 := (hb4.cell (p := ⟨bg, 0, none⟩) (by exact hgl1)).trans k0
      have k14 := (hb4.cell (p := ⟨bg, 1, none⟩) (by exact hgl1)).trans k1
      have kq4 := (hb4.cell (p := ⟨bq, 0, none⟩) (by exact hql1)).trans kq
      replace hb4 := hb1d.trans (hb4.mono hb1d.size)
      try go_simp
      refine hK _ _ ⟨k04, k14, kq4⟩ ?_
      clear hK K hSw
      have hSw : (fun W => W.cell? ⟨bg, 0, none⟩ = some (.int .i64 n) ∧ W.cell? ⟨bg, 1, none⟩ = some (.slice A el c) ∧ W.cell? ⟨bq, 0, none⟩ = some (.int .i64 q)) w4 := ⟨k04, k14, kq4⟩
      refine h_take (i := 8) (.bool (decide (s = [(q : Int)]))) rfl (by kernel_rfl) (by kernel_rfl) (by kernel_rfl) (fun _ _ _ h => h) (by kernel_rfl) hSw ?_ ?_
      · intro w hw; (try dsimp only at hw); go_split_ands; go_simp
      refine h_take (i := 9) (.bool (decide (s = [(q : Int)]))) rfl (by kernel_rfl) (by kernel_rfl) (by kernel_rfl) (fun _ _ _ h => h) (by kernel_rfl) hSw ?_ ?_
      · intro w hw; (try dsimp only at hw); go_split_ands; go_simp
      refine wpAnyH_done (by kernel_rfl) ?_ _
      go_simp
      try go_wp2
      go_ret
      exact ⟨rfl, hb4⟩
end Go.Proofs.YtplgbapbgcipdaaGreat

/-! Sorting by waiting heads finds out whether an orientation is acyclic; what Unique counts. No program is in sight. -/
namespace Go.Proofs.YtplgbapbgcipdaaGreat

theorem idxGo_at : ∀ {xs : List Int} {v : Int} (i : Nat), ¬ idxGo xs v i < 0 → ∃ k : Nat, idxGo xs v i = ((i + k : Nat) : Int) ∧ xs[k]? = some v
  | [], v, i, h => by simp [idxGo] at h
  | x :: xs, v, i, h => by
    unfold idxGo at h ⊢
    by_cases hx : x = v
    · rw [if_pos hx]; exact ⟨0, by simp, by simp [hx]⟩
    · rw [if_neg hx] at h ⊢
      obtain ⟨k, h1, h2⟩ := idxGo_at (i + 1) h
      exact ⟨k + 1, by rw [h1]; congr 1; omega, by simpa using h2⟩
theorem countP_split {α : Type} (l : List α) (p q : α → Bool) : l.countP (fun x => p x && q x) + l.countP (fun x => p x && !q x) = l.countP p := by
  induction l with
  | nil => rfl
  | cons x l ih =>
    rw [List.countP_cons, List.countP_cons, List.countP_cons]
    cases p x <;> cases q x <;> simp <;> omega
theorem decL_getD {l : List (Nat × Nat)} {v u : Nat} : ∀ {w : List Int}, u < w.length → (decL l v w).getD u 0 = w.getD u 0 - (l.countP fun x => decide (x.2 = u) && decide (x.1 = v) : Nat) := by
  induction l with
  | nil => intro w _; simp [decL]
  | cons x l ih =>
    intro w hu
    have hd : decL (x :: l) v w = decL l v (decS v w x) := rfl
    rw [hd, ih (by rw [decS_length]; exact hu), List.countP_cons]
    unfold decS
    by_cases h1 : x.1 = v
    · rw [if_pos (by omega)]
      by_cases h2 : x.2 = u
      · subst h2
        rw [List.getD_eq_getElem?_getD, List.getElem?_set_self (by exact hu)]
        simp [h1]
        omega
      · rw [List.getD_eq_getElem?_getD, List.getElem?_set_ne h2, ← List.getD_eq_getElem?_getD]
        simp [h2]
    · rw [if_neg (by omega)]
      simp [h1]
/-- What stands ahead of a round: D is done. -/
structure KInv (n : Nat) (l : List (Nat × Nat)) (D : List Nat) (w : List Int) : Prop where
  nd : D.Nodup
  lt : ∀ v ∈ D, v < n
  len : w.length = n
  done : ∀ v ∈ D, w.getD v 0 < 0
  wait : ∀ v, v < n → v ∉ D → w.getD v 0 = ((l.countP fun x => decide (x.2 = v) && !decide (x.1 ∈ D) : Nat) : Int)
theorem KInv.step {n : Nat} {l : List (Nat × Nat)} {D : List Nat} {w : List Int} (h : KInv n l D w) {v : Nat} (hv : v < n) (hD : v ∉ D) : KInv n l (v :: D) (decL l v (w.set v (-1))) := by
  have hl := h.len
  have hset : (w.set v (-1)).length = n := by rw [List.length_set]; exact hl
  refine ⟨List.nodup_cons.2 ⟨hD, h.nd⟩, fun u hu => ?_, by rw [decL_length, hset], fun u hu => ?_, fun u hu huD => ?_⟩
  · rcases List.mem_cons.1 hu with rfl | hu
    · exact hv
    · exact h.lt u hu
  · have hun : u < n := by
      rcases List.mem_cons.1 hu with rfl | hu
      · exact hv
      · exact h.lt u hu
    rw [decL_getD (by omega)]
    rcases List.mem_cons.1 hu with rfl | hu
    · rw [List.getD_eq_getElem?_getD, List.getElem?_set_self (by omega)]
      simp only [Option.getD_some]
      omega
    · have huv : v ≠ u := fun e => hD (e ▸ hu)
      rw [List.getD_eq_getElem?_getD, List.getElem?_set_ne huv, ← List.getD_eq_getElem?_getD]
      have := h.done u hu
      omega
  · have huv : v ≠ u := fun e => huD (by simp [e])
    have huD' : u ∉ D := fun hc => huD (by simp [hc])
    rw [decL_getD (by omega), List.getD_eq_getElem?_getD, List.getElem?_set_ne huv, ← List.getD_eq_getElem?_getD, h.wait u hu huD']
    have h1 := countP_split l (fun x => decide (x.2 = u) && !decide (x.1 ∈ D)) (fun x => decide (x.1 = v))
    have h2 : l.countP (fun x => (decide (x.2 = u) && !decide (x.1 ∈ D)) && decide (x.1 = v)) = l.countP (fun x => decide (x.2 = u) && decide (x.1 = v)) := countP_congr' fun x _ => by
      by_cases e : x.1 = v
      · rw [e]; simp [hD]
      · simp [e]
    have h3 : l.countP (fun x => (decide (x.2 = u) && !decide (x.1 ∈ D)) && !decide (x.1 = v)) = l.countP (fun x => decide (x.2 = u) && !decide (x.1 ∈ v :: D)) := countP_congr' fun x _ => by
      by_cases e : x.1 = v <;> by_cases e2 : x.1 ∈ D <;> simp [e, e2]
    omega
/-- Arrows into what is done come from what was done before. -/
def KDone (l : List (Nat × Nat)) (D : List Nat) : Prop := ∃ r : Nat → Nat, (∀ v ∈ D, r v < D.length) ∧ ∀ x ∈ l, x.2 ∈ D → x.1 ∈ D ∧ r x.1 < r x.2
theorem kahn_done {n : Nat} {l : List (Nat × Nat)} : ∀ {k : Nat} {D : List Nat} {w : List Int}, KInv n l D w → KDone l D → D.length + k = n → kahn l k w = true → ∃ D', D'.Nodup ∧ (∀ v ∈ D', v < n) ∧ D'.length = n ∧ KDone l D'
  | 0, D, w, h, hd, hl, _ => ⟨D, h.nd, h.lt, hl, hd⟩
  | k + 1, D, w, h, hd, hl, hk => by
    unfold kahn at hk
    by_cases hi : idxGo w 0 0 < 0
    · rw [if_pos hi] at hk; cases hk
    · rw [if_neg hi] at hk
      obtain ⟨v, hv, hw⟩ := idxGo_at 0 hi
      rw [Nat.zero_add] at hv
      rw [hv, Int.toNat_natCast] at hk
      have hvn : v < n := by rw [← h.len]; exact (List.getElem?_eq_some_iff.1 hw).1
      have hw0 : w.getD v 0 = 0 := by rw [List.getD_eq_getElem?_getD, hw]; rfl
      have hD : v ∉ D := fun hc => by have := h.done v hc; omega
      have hcnt := h.wait v hvn hD
      rw [hw0] at hcnt
      have hcnt : l.countP (fun x => decide (x.2 = v) && !decide (x.1 ∈ D)) = 0 := by omega
      rw [List.countP_eq_zero] at hcnt
      refine kahn_done (h.step hvn hD) ?_ (by rw [List.length_cons]; omega) hk
      obtain ⟨r, hr1, hr2⟩ := hd
      refine ⟨fun u => if u = v then D.length else r u, fun u hu => ?_, fun x hx hx2 => ?_⟩
      · rw [List.length_cons]
        dsimp only
        split
        · omega
        · rename_i hne
          have := hr1 u ((List.mem_cons.1 hu).resolve_left hne)
          omega
      · have key : x.1 ∈ D := by
          rcases List.mem_cons.1 hx2 with e | e
          · have := hcnt x hx
            simpa [e] using this
          · exact (hr2 x hx e).1
        refine ⟨by simp [key], ?_⟩
        have h1 : x.1 ≠ v := fun e => hD (e ▸ key)
        dsimp only
        rw [if_neg h1]
        split
        · exact hr1 _ key
        · rename_i hne
          exact (hr2 x hx ((List.mem_cons.1 hx2).resolve_left hne)).2
theorem all_of_len {n : Nat} {D : List Nat} (hn : D.Nodup) (hlt : ∀ v ∈ D, v < n) (hl : D.length = n) {v : Nat} (hv : v < n) : v ∈ D := by
  apply Classical.byContradiction
  intro hc
  have h := nodup_sub_le (l := v :: D) (m := List.range n) (List.nodup_cons.2 ⟨hc, hn⟩) fun x hx => by
    rcases List.mem_cons.1 hx with rfl | hx
    · exact List.mem_range.2 hv
    · exact List.mem_range.2 (hlt x hx)
  simp at h
  omega
theorem kahn_acy {n : Nat} {l : List (Nat × Nat)} (hb : ∀ x ∈ l, x.1 < n ∧ x.2 < n) : ∀ {k : Nat} {D : List Nat} {w : List Int}, KInv n l D w → D.length + k = n → (∃ r : Nat → Nat, ∀ x ∈ l, r x.1 < r x.2) → kahn l k w = true
  | 0, D, w, _, _, _ => rfl
  | k + 1, D, w, h, hl, ⟨r, hr⟩ => by
    have hex : ∃ v, v < n ∧ v ∉ D := by
      apply Classical.byContradiction
      intro hc
      have h1 : ∀ v, v < n → v ∈ D := fun v hv => Classical.byContradiction fun hd => hc ⟨v, hv, hd⟩
      have := nodup_sub_le (l := List.range n) (m := D) List.nodup_range fun x hx => h1 x (List.mem_range.1 hx)
      simp at this
      omega
    obtain ⟨v0, hv0, hd0⟩ := hex
    obtain ⟨v, hv, hmin⟩ := min_rank r (S := (List.range n).filter fun u => decide (u ∉ D)) (fun e => by
      have : v0 ∈ (List.range n).filter fun u => decide (u ∉ D) := List.mem_filter.2 ⟨List.mem_range.2 hv0, by simpa using hd0⟩
      rw [e] at this
      cases this)
    obtain ⟨hvn, hvD⟩ := List.mem_filter.1 hv
    have hvn := List.mem_range.1 hvn
    have hvD : v ∉ D := by simpa using hvD
    have hcnt : l.countP (fun x => decide (x.2 = v) && !decide (x.1 ∈ D)) = 0 := by
      rw [List.countP_eq_zero]
      intro x hx hc
      simp only [Bool.and_eq_true, decide_eq_true_eq, Bool.not_eq_true', decide_eq_false_iff_not] at hc
      have h1 := hr x hx
      have h2 := hmin x.1 (List.mem_filter.2 ⟨List.mem_range.2 (hb x hx).1, by simpa using hc.2⟩)
      rw [hc.1] at h1
      omega
    have hw := h.wait v hvn hvD
    rw [hcnt] at hw
    have hmem : (0 : Int) ∈ w := by
      have hlt : v < w.length := by rw [h.len]; exact hvn
      rw [List.getD_eq_getElem?_getD, List.getElem?_eq_getElem hlt] at hw
      have : w[v] = 0 := by simpa using hw
      rw [← this]
      exact List.getElem_mem hlt
    have hi : ¬ idxGo w 0 0 < 0 := by have := ((idxGo_nonneg w 0 0).1).2 hmem; omega
    unfold kahn
    rw [if_neg hi]
    obtain ⟨u, hu, hwu⟩ := idxGo_at 0 hi
    rw [Nat.zero_add] at hu
    rw [hu, Int.toNat_natCast]
    have hun : u < n := by rw [← h.len]; exact (List.getElem?_eq_some_iff.1 hwu).1
    have hw0 : w.getD u 0 = 0 := by rw [List.getD_eq_getElem?_getD, hwu]; rfl
    have hD : u ∉ D := fun hc => by have := h.done u hc; omega
    exact kahn_acy hb (h.step hun hD) (by rw [List.length_cons]; omega) ⟨r, hr⟩
theorem kinv_nil {n : Nat} {l : List (Nat × Nat)} : KInv n l [] (incL n l) :=
  ⟨List.nodup_nil, (fun _ h => by cases h), incL_length, (fun _ h => by cases h), fun v hv _ => by
    rw [List.getD_eq_getElem?_getD, incL_at hv]
    simp⟩
theorem kahn_iff {n : Nat} {l : List (Nat × Nat)} (hb : ∀ x ∈ l, x.1 < n ∧ x.2 < n) : kahn l n (incL n l) = true ↔ ∃ r : Nat → Nat, ∀ x ∈ l, r x.1 < r x.2 := by
  constructor
  · intro h
    obtain ⟨D, h1, h2, h3, r, _, hr⟩ := kahn_done kinv_nil ⟨fun _ => 0, (fun _ h => by cases h), fun _ _ h => by cases h⟩ (by simp) h
    exact ⟨r, fun x hx => (hr x hx (all_of_len h1 h2 h3 (hb x hx).2)).2⟩
  · exact kahn_acy hb kinv_nil (by simp)
theorem src_iff {n q : Nat} (hq : q < n) {l : List (Nat × Nat)} : srcTo l n = [(q : Int)] ↔ ∀ v, v < n → (l.countP (fun x => decide (x.2 = v)) = 0 ↔ v = q) := by
  unfold srcTo
  constructor
  · intro h v hv
    have h1 : (v ∈ (List.range n).filter fun v => decide (l.countP (fun x => decide (x.2 = v)) = 0)) ↔ v = q := by
      have : (List.range n).filter (fun v => decide (l.countP (fun x => decide (x.2 = v)) = 0)) = [q] := by
        have h := congrArg (fun l => l.map Int.toNat) h
        simpa [nI, List.map_map] using h
      rw [this]; simp
    rw [List.mem_filter] at h1
    simpa [hv] using h1
  · intro h
    have h1 : (List.range n).filter (fun v => decide (l.countP (fun x => decide (x.2 = v)) = 0)) = (List.range n).filter (fun v => v == q) := List.filter_congr fun v hv => by
      rw [Bool.eq_iff_iff]
      simp only [decide_eq_true_eq, beq_iff_eq]
      exact h v (List.mem_range.1 hv)
    rw [h1, List.filter_beq, List.count_range]
    simp [hq, nI]
section
variable {n q : Nat} {es : List E3} {F : List (Nat × Nat)} {o : List Bool}
theorem arr_count (v : Nat) : (arrL F o).countP (fun x => decide (x.2 = v)) = ind (F.zip o) v := by
  unfold arrL ind
  rw [List.countP_map]
  rfl
theorem arr_acy : (∃ r : Nat → Nat, ∀ x ∈ arrL F o, r x.1 < r x.2) ↔ Acy (F.zip o) := by
  unfold arrL Acy
  constructor
  · rintro ⟨r, h⟩
    exact ⟨r, fun x hx => h (tlA x, hdA x) (List.mem_map.2 ⟨x, hx, rfl⟩)⟩
  · rintro ⟨r, h⟩
    exact ⟨r, fun x hx => by obtain ⟨y, hy, rfl⟩ := List.mem_map.1 hx; exact h y hy⟩
theorem fit_iff (hq : q < n) (hb : BdP n (endsL es)) (ho : o.length = (endsL es).length) : fitB n q es o = true ↔ Fits n q (endsL es) o := by
  unfold fitB
  rw [Bool.and_eq_true, decide_eq_true_eq, kahn_iff (arr_bd hb), arr_acy, src_iff hq]
  constructor
  · rintro ⟨h1, h2⟩
    refine ⟨ho, h1, ?_, fun v hv hvq => ?_⟩
    · rw [← arr_count]; exact (h2 q hq).2 rfl
    · rw [← arr_count]
      exact Nat.pos_of_ne_zero fun e => hvq ((h2 v hv).1 e)
  · intro h
    refine ⟨h.acy, fun v hv => ?_⟩
    rw [arr_count]
    constructor
    · intro e
      apply Classical.byContradiction
      intro hvq
      have := h.pos v hv hvq
      omega
    · rintro rfl; exact h.src
end
end Go.Proofs.YtplgbapbgcipdaaGreat

/-! orientation.Unique. -/
namespace Go.Proofs.YtplgbapbgcipdaaGreat
open Go.RowKit Go.Shelf

set_option maxRecDepth 100000 in
set_option maxHeartbeats 2000000 in
theorem unique_any (n q : Nat) (A : Option Addr) (c : Nat) (es : List E3) (hlen : es.length ≤ 10000) (hz : checkG n es = 0) (hq : q < n) (hm14 : (endsL es).length ≤ 14) (w : World) (h : Reads w w.heap.size 3 A es.length (edgeCells es)) :
    Calls Tryz.prog 28 #[.agg #[.int .i64 n, .slice A es.length c], .int .i64 q] w fun e w' => ∃ A' c', e = .returned (.tuple #[.slice A' ((orsL (endsL es).length).filter (fitB n q es)).length c', .int .i64 0]) ∧ Below w.heap.size w w' := by
  obtain ⟨m, hm⟩ : ∃ m, (endsL es).length = m := ⟨_, rfl⟩
  rw [hm] at hm14 ⊢
  have CC := Lib.hid (fun (W : World) (hB : Below w.heap.size w W) => gcheck_any n A c es (by omega) W ((h.below hB).more hB.size))
  rw [hz] at CC
  obtain ⟨w0, hw0⟩ : ∃ w0, (w.alloc (.cells #[.int .i64 n, .slice A es.length c] 24)).alloc (.cells #[.int .i64 q] 3) = w0 := ⟨_, rfl⟩
  have hB0 : Below w.heap.size w w0 := by rw [← hw0]; exact ((Below.refl _ _).alloc (Nat.le_refl _) _).alloc (by simp) _
  have rg : Blk w0 w.heap.size 24 #[.int .i64 n, .slice A es.length c] := by rw [← hw0]; exact (Blk.new w _ _).alloc _
  have rq : Blk w0 (w.heap.size + 1) 3 #[.int .i64 q] := by rw [← hw0]; exact Blk.newAt (by simp)
  have c0 := rg.cell 0
  have c1 := rg.cell 1
  have cq := rq.cell 0
  have hqi : (q : Int) < (n : Int) := by omega
  go_enter Tryz.func28, Tryz.ntmps28
  go_wp2_with fail
  refine (CC.out _ hB0).mono ?_
  rintro e w1 ⟨rfl, hb1⟩
  have hB1 := hB0.trans (hb1.mono hB0.size)
  have k0 := rg.next hb1
  have kq := rq.next hb1
  have h1 := (h.below hB1).more hB1.size
  have SC := Lib.hid (some_any n A c es hlen hz m hm hm14 w.heap.size (w.heap.size + 1) (fitB n q es) w1 h1 (fun o g W ho hB hg => by
    have hr := reads_bools hg
    have := uniq1_any n q A c es hlen hz o (by rw [ho, hm]) (by rw [hm]; omega) (some ⟨g, 0, none⟩) m w.heap.size (w.heap.size + 1) W (k0.next hB) (kq.next hB) ((h1.below hB).more hB.size) hr
    rw [ho] at this
    exact this))
  have d0 := k0.cell 0
  have d1 := k0.cell 1
  have dq := kq.cell 0
  clear c0 c1 cq rg rq k0 kq hb1 h h1 hw0 hB0 hm hz
  go_wp2_with fail
  refine (SC.out).mono ?_
  rintro e w2 ⟨A', c', rfl, hb2⟩
  go_wp2
  go_ret2
  exact ⟨A', c', rfl, hB1.trans (hb2.mono hB1.size)⟩
end Go.Proofs.YtplgbapbgcipdaaGreat

