/-
  Texts of this claim, put together: Tri24, RecurP, RMin24, Awake24, PermP, LevQ.
-/
import Derived.Test.YtplgbapbgcipdaaGreatK18
import Derived.Test.YtplgbapbgcipdaaGreatK40
import Derived.Test.YtplgbapbgcipdaaGreatK35
import Derived.Test.YtplgbapbgcipdaaGreatK33
import Derived.Test.YtplgbapbgcipdaaGreatK34
import Derived.Test.YtplgbapbgcipdaaGreatK38
import Derived.Test.YtplgbapbgcipdaaGreatK22
import Derived.Test.YtplgbapbgcipdaaGreatK19
import Derived.Test.YtplgbapbgcipdaaGreatK37
import Derived.Test.YtplgbapbgcipdaaGreatK24
import Derived.Test.YtplgbapbgcipdaaGreatK26
/-! The examples of chapter 24 on the triangle, as plain facts. -/
namespace Go.Proofs.YtplgbapbgcipdaaGreat
open Go.RowKit

theorem tri_rec : recE 3 tri 0 [0, 1, 0] = (true, [0, 1, 2], 0) := by decide +kernel
theorem tri_forb : forbE 3 tri 0 [0, 0, 0] = ([1, 2], 0) := by decide +kernel
theorem tri_all : allE 3 tri 0 = ([[0, 0, 1], [0, 1, 0], [0, 1, 1]], 0) := by decide +kernel
theorem tri_min : minimE 3 tri 0 = ([[0, 0, 1], [0, 1, 0]], 0) := by decide +kernel
set_option maxRecDepth 100000 in
theorem tri_stab : StabR tri 3 0 [0, 2, 1] (some ([2, 1, 0], [0, 1, 1])) := by
  refine ⟨[1, 2], ?_, by decide, ?_, by decide +kernel, by decide +kernel⟩
  · exact .snoc (l := [1]) (.snoc (l := []) .nil (by decide) (by decide) (by decide +kernel)) (by decide) (by decide) (by decide +kernel)
  · unfold CalmD
    decide +kernel
set_option maxRecDepth 100000 in
theorem tri_set : SetE 3 tri 0 [0, 2, 1] [0, 1, 0] [0, 1, 1] 0 := by
  unfold SetE
  rw [if_pos (by decide)]
  exact ⟨_, tri_stab, by decide +kernel⟩
theorem tri_okE : ∀ x ∈ tri, okE ((3 : Nat) : Int) x := by unfold okE; decide +kernel
set_option maxRecDepth 100000 in
theorem tri_next {ds : List Int} {e : Int} (h : NextE 3 tri 0 [0, 1, 1] 1 ds e) : ds = [0, 1, 0] ∧ e = 0 := by
  unfold NextE at h
  rw [if_neg (by decide +kernel), if_neg (by decide)] at h
  obtain ⟨ss, h⟩ := h
  have := SetE.unique (n := 3) (q := 0) (es := tri) tri_okE (d := [0, 2, 1]) rfl h tri_set
  exact ⟨this.1, this.2.2⟩
set_option maxRecDepth 100000 in
theorem tri_kick {ds ss : List Int} {e : Int} (h : KickE 3 tri 0 [0, 1, 0] ds ss e) : ds = [0, 1, 0] ∧ ss = [0, 1, 1] ∧ e = 0 := by
  unfold KickE at h
  rw [if_neg (by decide +kernel)] at h
  exact SetE.unique (n := 3) (q := 0) (es := tri) tri_okE (d := [0, 2, 1]) rfl h tri_set
end Go.Proofs.YtplgbapbgcipdaaGreat

/-! The duals of the configurations of all trees are all recurrent configurations, in lexicographic order. No program is in sight. -/
namespace Go.Proofs.YtplgbapbgcipdaaGreat
section
variable {n q : Nat} {es : List E3}
theorem recsL_nodup (hG : RightG n es) (hq : q < n) : (recsL n es q).Nodup := by
  rw [recsL_bel hG hq]
  exact (bel_nodup n).sublist List.filter_sublist
/-- The dual of a superstable configuration is recurrent. -/
theorem dul_rec (hlen : es.length ≤ 10000) {c : List Int} (hc : cfgErr n es q c = 0) : dulL n es c q ∈ recsL n es q := by
  obtain ⟨hr, hG, hq, hl, hnn, h0, _, hmx⟩ := cfg_facts hc
  obtain ⟨hb, hrest, _⟩ := cfg_zero hc
  rw [Int.toNat_natCast, Int.toNat_natCast] at hrest
  have hs : stabTo es c q n = true := maxL_stab hG hmx
  obtain ⟨d1, d2, d3, _⟩ := dual_plain hlen hb hs
  obtain ⟨_, _, _, e4, _⟩ := dual_plain hlen d1 d2
  rw [d3, hrest] at e4
  rw [recsL_bel hG hq, List.mem_filter]
  refine ⟨mem_bel n _ (dulL_length n es c q) fun i hi => ?_, ?_⟩
  · rw [dulL_get es c q hi, maxL_get hG.ok hi]
    by_cases hiq : i = q
    · rw [if_pos hiq, if_pos hiq]; omega
    · rw [if_neg hiq, if_neg hiq]
      have h1 := hnn i hi
      have h2 := hmx i hi
      rw [maxL_get hG.ok hi, if_neg hiq] at h2
      omega
  · show recB n es (dulL n es c q) q = true
    rw [← e4]; simp
/-- The dual of a recurrent configuration is superstable. -/
theorem rec_dul (hr : rootErr n es q = 0) (hG : RightG n es) (hq : q < n) (hlen : es.length ≤ 10000) {d : List Int} (hd : d ∈ recsL n es q) : cfgErr n es q (dulL n es d q) = 0 ∧ dulL n es (dulL n es d q) q = d := by
  obtain ⟨h1, h2, h3⟩ := recsL_mem hG hq hd
  have h4 := (recsL_bd hr hlen hd).2
  have hb : burnErr n es q d = 0 := by
    refine burn_right hr h1 (fun v hv => (h3 v hv).1) (fun v hv => ?_) ?_
    · have h5 := (h3 v hv).2
      have hv2 := valE_bd hG.ok v
      rw [maxL_get hG.ok hv] at h5
      split at h5
      · omega
      · omega
    · have h5 := h3 q hq
      rw [maxL_get hG.ok hq, if_pos rfl] at h5
      omega
  have hs : stabTo es d q n = true := maxL_stab hG fun i hi => (h3 i hi).2
  obtain ⟨d1, d2, d3, d4, _⟩ := dual_plain hlen hb hs
  rw [h2, decide_eq_true_eq] at d4
  refine ⟨?_, d3⟩
  unfold cfgErr superE
  rw [if_pos d1]
  simp only [Int.toNat_natCast]
  simp [d4]
theorem rec_mem (hr : rootErr n es q = 0) (hj : joinErr n es = 0) (hG : RightG n es) (hq : q < n) (hm : (endsL es).length ≤ 500) (hlen : es.length ≤ 10000) (d : List Int) : d ∈ (supL n es q).map (fun c => dulL n es c q) ↔ d ∈ recsL n es q := by
  obtain ⟨_, hS⟩ := supL_mem hr hj hG hq hm
  rw [List.mem_map]
  constructor
  · rintro ⟨c, hc, rfl⟩
    exact dul_rec hlen ((hS c).1 hc)
  · intro hd
    obtain ⟨h1, h2⟩ := rec_dul hr hG hq hlen hd
    exact ⟨_, (hS _).2 h1, h2⟩
theorem rec_perm (hr : rootErr n es q = 0) (hj : joinErr n es = 0) (hG : RightG n es) (hq : q < n) (hm : (endsL es).length ≤ 500) (hlen : es.length ≤ 10000) : ((supL n es q).map (fun c => dulL n es c q)).Perm (recsL n es q) := by
  obtain ⟨hN, hS⟩ := supL_mem hr hj hG hq hm
  refine perm_of_mem (nodup_map_of (fun a ha b hb hab => ?_) hN) (recsL_nodup hG hq) (rec_mem hr hj hG hq hm hlen)
  have ha := (hS a).1 ha
  have hb := (hS b).1 hb
  rw [← dul_dul (cfg_zero ha).1, ← dul_dul (cfg_zero hb).1, hab]
theorem recur_perm (hr : rootErr n es q = 0) (hj : joinErr n es = 0) (hG : RightG n es) (hq : q < n) (hm : (endsL es).length ≤ 500) (hlen : es.length ≤ 10000) : ((treesT n (endsL es)).map fun t => dulL n es (confN (endsL es) n q t) q).Perm (recsL n es q) := by
  obtain ⟨_, hS⟩ := supL_mem hr hj hG hq hm
  refine List.Perm.trans ?_ (rec_perm hr hj hG hq hm hlen)
  have h1 := ((match_perm hr hj hG hq hm).map fun t => dulL n es (confN (endsL es) n q t) q).symm
  rw [List.map_map] at h1
  have h2 : (supL n es q).map ((fun t => dulL n es (confN (endsL es) n q t) q) ∘ treeN (endsL es) n q) = (supL n es q).map (fun c => dulL n es c q) := by
    refine List.map_congr_left fun c hc => ?_
    obtain ⟨_, _, _, hl1, hn1, h01, hb1, _⟩ := cfg_facts ((hS c).1 hc)
    show dulL n es (confN (endsL es) n q (treeN (endsL es) n q c)) q = _
    rw [conf_tree (bd_ends hG) hq hl1 h01 hn1 hb1]
  rw [h2] at h1
  exact h1
end
end Go.Proofs.YtplgbapbgcipdaaGreat

/-! ref24.All, Least, Minimal. -/
namespace Go.Proofs.YtplgbapbgcipdaaGreat
open Go.RowKit

theorem valE_size {n : Int} {es : List E3} (h : ∀ e ∈ es, okE n e) (v : Int) : valE es v ≤ (sizeE es : Int) := by
  induction es with
  | nil => simp [valE, sizeE]
  | cons e es ih =>
    have h1 := ih fun x hx => h x (by simp [hx])
    have h2 := h e (by simp)
    have h3 : valT v e ≤ e.2.2 := by unfold okE at h2; unfold valT; split <;> omega
    have e1 : valE (e :: es) v = valT v e + valE es v := by simp [valE]
    have e2 : sizeE (e :: es) = e.2.2.toNat + sizeE es := by simp [sizeE]
    have e3 : e.2.2.toNat = e.2.2 := by unfold okE at h2; omega
    rw [e1, e2]
    omega
theorem few_bel {n q : Nat} {es : List E3} (hx : rootErr n es q = 0) (hn : n ≤ 5) (hs : sizeE es ≤ 8) : (∀ v, v ≤ n → (belL (maxL n es q) v).length ≤ 1000000) ∧ (recsL n es q).length ≤ 16384 := by
  obtain ⟨_, hG, _, hq⟩ := root_zero hx
  have hv : ∀ v : Nat, valE es v ≤ (8 : Nat) := fun v => by have := valE_size hG.ok (v : Int); omega
  have hp : ∀ v, v ≤ 5 → 8 ^ v ≤ 8 ^ 5 := fun v h => Nat.pow_le_pow_right (by omega) h
  have hb := bel_few (top := maxL n es q) (q := q) (K := 8) (fun v hvq => by
    by_cases hvn : v < n
    · rw [maxL_get hG.ok hvn, if_neg hvq]
      have := hv v
      omega
    · rw [List.getD_eq_getElem?_getD, List.getElem?_eq_none (by rw [maxL_length]; omega)]
      simp) (by rw [maxL_get hG.ok hq, if_pos rfl])
  refine ⟨fun v hvn => ?_, ?_⟩
  · have h1 := hb v
    have h2 := hp v (by omega)
    have h3 : (belL (maxL n es q) v).length ≤ (belL (maxL n es q) v).length * (if q < v then 8 else 1) := Nat.le_mul_of_pos_right _ (by split <;> omega)
    have : 8 ^ 5 = 32768 := by decide
    omega
  · have h1 := recsL_few (K := 8) hx (by omega) (fun v => by have := valE_size hG.ok v; omega)
    have h2 := hp n hn
    have : 8 ^ 5 = 32768 := by decide
    omega

end Go.Proofs.YtplgbapbgcipdaaGreat

/-! The examples of chapter 24: awake. -/
namespace Go.Proofs.YtplgbapbgcipdaaGreat
open Go.RowKit

set_option maxHeartbeats 1000000 in
theorem triangle24_any (w : World) : Calls Tryz.prog 31 #[] w fun e w' => ∃ A c, e = .returned (.agg #[.int .i64 3, .slice A 3 c]) ∧ Reads w' w'.heap.size 3 A tri.length (edgeCells tri) ∧ Below w.heap.size w w' := by
  go_enter Tryz.func31, Tryz.ntmps31
  go_wp2
  refine bodyPost_ret (results_g rfl rfl ((Blk.new w 24 #[.int .i64 3, .slice (some ⟨w.heap.size + 1, 0, none⟩) 3 3]).alloc _) rfl) rfl ?_
  have hB := Blk.new (w.alloc (.cells #[.int .i64 3, .slice (some ⟨w.heap.size + 1, 0, none⟩) 3 3] 24)) 73 (edgeCells tri).toArray
  rw [show (w.alloc (.cells #[.int .i64 3, .slice (some ⟨w.heap.size + 1, 0, none⟩) 3 3] 24)).heap.size = w.heap.size + 1 from by simp] at hB
  refine ⟨some ⟨w.heap.size + 1, 0, none⟩, 3, rfl, ⟨by simp [edgeCells_length], fun _ => ⟨w.heap.size + 1, 0, rfl, by simp, fun j u hu => ?_⟩⟩, ((Below.refl _ _).alloc (Nat.le_refl _) _).alloc (by simp) _⟩
  rw [Nat.zero_add]
  refine (hB.cell j).trans ?_
  rw [← hu, List.getElem?_toArray]

section
variable (A : Option Addr) (c : Nat)
theorem t24_rec (w : World) (g : Nat) (hg : g = w.heap.size) (h : Reads w w.heap.size 3 A tri.length (edgeCells tri)) : Calls Tryz.prog 32 #[.agg #[.int .i64 3, .slice A 3 c], .int .i64 0, .slice (some ⟨g, 0, none⟩) 3 3] (w.alloc (obj3 0 1 0)) fun e w' => ∃ A1 c1,
    e = .returned (.tuple #[.bool true, .slice A1 3 c1, .int .i64 0]) ∧ OwnI w' w.heap.size A1 c1 [0, 1, 2] ∧ Below w.heap.size w w' := by
  subst hg
  have hb := recurrent_any 3 A c tri (by decide) 0 (some ⟨w.heap.size, 0, none⟩) 3 [0, 1, 0] (by decide) (w.alloc (obj3 0 1 0)) ((h.alloc (Nat.le_refl _) _).more (by simp)) (reads_lit w [0, 1, 0])
  rw [tri_rec] at hb
  exact hb.mono fun e w' ⟨A1, c1, he, o1, hb⟩ => ⟨A1, c1, he, o1.mono (by simp), below_new hb⟩
theorem t24_forb (w : World) (g : Nat) (hg : g = w.heap.size) (h : Reads w w.heap.size 3 A tri.length (edgeCells tri)) : Calls Tryz.prog 33 #[.agg #[.int .i64 3, .slice A 3 c], .int .i64 0, .slice (some ⟨g, 0, none⟩) 3 3] (w.alloc (obj3 0 0 0)) fun e w' => ∃ A1 c1,
    e = .returned (.tuple #[.slice A1 2 c1, .int .i64 0]) ∧ OwnI w' w.heap.size A1 c1 [1, 2] ∧ Below w.heap.size w w' := by
  subst hg
  have hb := forb_any 3 A c tri (by decide) 0 (some ⟨w.heap.size, 0, none⟩) 3 [0, 0, 0] (by decide) (w.alloc (obj3 0 0 0)) ((h.alloc (Nat.le_refl _) _).more (by simp)) (reads_lit w [0, 0, 0])
  rw [tri_forb] at hb
  exact hb.mono fun e w' ⟨A1, c1, he, o1, hb⟩ => ⟨A1, c1, he, o1.mono (by simp), below_new hb⟩
theorem t24_all (w : World) (h : Reads w w.heap.size 3 A tri.length (edgeCells tri)) : Calls Tryz.prog 16 #[.agg #[.int .i64 3, .slice A 3 c], .int .i64 0] w fun e w' => ∃ A1 c1,
    e = .returned (.tuple #[.slice A1 3 c1, .int .i64 0]) ∧ RowsR w' w'.heap.size A1 [[0, 0, 1], [0, 1, 0], [0, 1, 1]] ∧ Below w.heap.size w w' := by
  have hb := rall_any 3 A c tri (by decide) 0 (by rw [tri_all]; decide) w h
  rw [tri_all] at hb
  exact hb
theorem t24_min (w : World) (h : Reads w w.heap.size 3 A tri.length (edgeCells tri)) : Calls Tryz.prog 26 #[.agg #[.int .i64 3, .slice A 3 c], .int .i64 0] w fun e w' => ∃ A1 c1,
    e = .returned (.tuple #[.slice A1 2 c1, .int .i64 0]) ∧ RowsR w' w'.heap.size A1 [[0, 0, 1], [0, 1, 0]] ∧ Below w.heap.size w w' := by
  have hb := minimal_any 3 A c tri (by decide) 0 (by rw [tri_all]; decide) w h
  rw [tri_min] at hb
  exact hb
set_option maxRecDepth 100000 in
theorem t24_next (w : World) (g : Nat) (hg : g = w.heap.size) (h : Reads w w.heap.size 3 A tri.length (edgeCells tri)) : Calls Tryz.prog 8 #[.agg #[.int .i64 3, .slice A 3 c], .int .i64 0, .slice (some ⟨g, 0, none⟩) 3 3, .int .i64 1] (w.alloc (obj3 0 1 1)) fun e w' => ∃ A1 c1,
    e = .returned (.tuple #[.slice A1 3 c1, .int .i64 0]) ∧ OwnI w' w.heap.size A1 c1 [0, 1, 0] ∧ Below w.heap.size w w' := by
  subst hg
  have hb := next_any 3 A c tri (by decide) 0 (some ⟨w.heap.size, 0, none⟩) 3 [0, 1, 1] (by decide) 1 (w.alloc (obj3 0 1 1)) ((h.alloc (Nat.le_refl _) _).more (by simp)) (reads_lit w [0, 1, 1])
  refine hb.mono ?_
  rintro e w' ⟨ds, er, A1, c1, hE, he, o1, hb⟩
  obtain ⟨rfl, rfl⟩ := tri_next hE
  exact ⟨A1, c1, he, o1.mono (by simp), below_new hb⟩
set_option maxRecDepth 100000 in
theorem t24_kick (w : World) (g : Nat) (hg : g = w.heap.size) (h : Reads w w.heap.size 3 A tri.length (edgeCells tri)) : Calls Tryz.prog 10 #[.agg #[.int .i64 3, .slice A 3 c], .int .i64 0, .slice (some ⟨g, 0, none⟩) 3 3] (w.alloc (obj3 0 1 0)) fun e w' => ∃ A1 c1 A2 c2,
    e = .returned (.tuple #[.slice A1 3 c1, .slice A2 3 c2, .int .i64 0]) ∧ OwnI w' w.heap.size A1 c1 [0, 1, 0] ∧ Reads w' w'.heap.size 1 A2 3 (ints [0, 1, 1]) ∧ Below w.heap.size w w' := by
  subst hg
  have hb := kick_any 3 A c tri (by decide) 0 (some ⟨w.heap.size, 0, none⟩) 3 [0, 1, 0] (by decide) (w.alloc (obj3 0 1 0)) ((h.alloc (Nat.le_refl _) _).more (by simp)) (reads_lit w [0, 1, 0])
  refine hb.mono ?_
  rintro e w' ⟨ds, ss, er, A1, c1, A2, c2, hE, he, o1, r2, hb⟩
  obtain ⟨rfl, rfl, rfl⟩ := tri_kick hE
  exact ⟨A1, c1, A2, c2, he, o1.mono (by simp), r2, below_new hb⟩
end
/-- A literal of three slices. -/
abbrev objR (g : Nat) : Obj := .cells #[.slice (some ⟨g, 0, none⟩) 3 3, .slice (some ⟨g + 1, 0, none⟩) 3 3, .slice (some ⟨g + 2, 0, none⟩) 3 3] 26

set_option maxRecDepth 100000 in
set_option maxHeartbeats 4000000 in
theorem awake24_any (w : World) : Calls Tryz.prog 7 #[] w fun e w' => e = .returned (.bool true) ∧ Below w.heap.size w w' := by
  go_enter Tryz.func7, Tryz.ntmps7
  go_wp2_with fail
  refine (triangle24_any w).mono ?_
  rintro e w1 ⟨A, c, rfl, r1, b1⟩
  have g2 := Blk.new w1 24 #[.int .i64 3, .slice A 3 c]
  have c0 := g2.cell 0
  have c1 := g2.cell 1
  have r2 := (r1.alloc (Nat.le_refl _) (.cells #[.int .i64 3, .slice A 3 c] 24)).more (B' := (w1.alloc (.cells #[.int .i64 3, .slice A 3 c] 24)).heap.size) (by simp)
  have hB2 := b1.alloc b1.size (.cells #[.int .i64 3, .slice A 3 c] 24)
  go_wp2_with fail
  refine (t24_rec A c _ _ (by simp) r2).mono ?_
  rintro e w3 ⟨A1, c1, rfl, o1, b3⟩
  have c0 := (g2.next b3).cell 0
  have c1' := (g2.next b3).cell 1
  have g3 := g2.next b3
  have r3 := (r2.below b3).more b3.size
  have hB3 := hB2.trans (b3.mono hB2.size)
  clear g2 r2 b3 b1 r1
  go_wp2_with fail
  refine (t24_forb A c _ _ (by simp) r3).mono ?_
  rintro e w4 ⟨A4, c4, rfl, o4, b4⟩
  have c0 := (g3.next b4).cell 0
  have c1' := (g3.next b4).cell 1
  have g4 := g3.next b4
  have r4 := (r3.below b4).more b4.size
  have o1 := o1.next b4
  have hB4 := hB3.trans (b4.mono hB3.size)
  clear g3 r3 b4
  go_wp2_with fail
  refine (t24_all A c _ r4).mono ?_
  rintro e w5 ⟨A5, c5, rfl, r5a, b5⟩
  have c0 := (g4.next b5).cell 0
  have c1' := (g4.next b5).cell 1
  have g5 := g4.next b5
  have r5 := (r4.below b5).more b5.size
  have o1 := o1.next b5
  have o4 := o4.next b5
  have hB5 := hB4.trans (b5.mono hB4.size)
  clear g4 r4 b5
  go_wp2_with fail
  refine (t24_min A c _ r5).mono ?_
  rintro e w6 ⟨A6, c6, rfl, r6a, b6⟩
  have c0 := (g5.next b6).cell 0
  have c1' := (g5.next b6).cell 1
  have g6 := g5.next b6
  have r6 := (r5.below b6).more b6.size
  have o1 := o1.next b6
  have o4 := o4.next b6
  have r5a := (r5a.below b6).more b6.size
  have hB6 := hB5.trans (b6.mono hB5.size)
  clear g5 r5 b6
  go_wp2_with fail
  refine (t24_next A c _ _ (by simp) r6).mono ?_
  rintro e w7 ⟨A7, c7, rfl, o7, b7⟩
  have c0 := (g6.next b7).cell 0
  have c1' := (g6.next b7).cell 1
  have g7 := g6.next b7
  have r7 := (r6.below b7).more b7.size
  have o1 := o1.next b7
  have o4 := o4.next b7
  have r5a := (r5a.below b7).more b7.size
  have r6a := (r6a.below b7).more b7.size
  have hB7 := hB6.trans (b7.mono hB6.size)
  clear g6 r6 b7
  go_wp2_with fail
  refine (t24_kick A c _ _ (by simp) r7).mono ?_
  rintro e w8 ⟨A8, c8, A9, c9, rfl, o8, r9, b8⟩
  have o1 := o1.next b8
  have o4 := o4.next b8
  have r5a := (r5a.below b8).more b8.size
  have r6a := (r6a.below b8).more b8.size
  have o7 := o7.next b8
  have hB8 := hB7.trans (b8.mono hB7.size)
  clear g7 r7 b8
  obtain ⟨W, hW⟩ : ∃ W, (((w8.alloc (obj3 0 0 1)).alloc (obj3 0 1 0)).alloc (obj3 0 1 1)).alloc (objR w8.heap.size) = W := ⟨_, rfl⟩
  have bW : Below w8.heap.size w8 W := by rw [← hW]; exact ((((Below.refl _ _).alloc (Nat.le_refl _) _).alloc (by simp) _).alloc (by simp; omega) _).alloc (by simp; omega) _
  have o1 := o1.next bW
  have o4 := o4.next bW
  have r5a := (r5a.below bW).more bW.size
  have r6a := (r6a.below bW).more bW.size
  have o7 := o7.next bW
  have o8 := o8.next bW
  have r9 := (r9.below bW).more bW.size
  have hBW := hB8.trans (bW.mono hB8.size)
  have l1 : Blk W w8.heap.size 3 #[.int .i64 0, .int .i64 0, .int .i64 1] := by rw [← hW]; exact (((Blk.new_at rfl).alloc _).alloc _).alloc _
  have l2 : Blk W (w8.heap.size + 1) 3 #[.int .i64 0, .int .i64 1, .int .i64 0] := by rw [← hW]; exact ((Blk.new_at (by simp)).alloc _).alloc _
  have l3 : Blk W (w8.heap.size + 2) 3 #[.int .i64 0, .int .i64 1, .int .i64 1] := by rw [← hW]; exact (Blk.new_at (by simp)).alloc _
  have l4 : Blk W (w8.heap.size + 3) 26 #[.slice (some ⟨w8.heap.size, 0, none⟩) 3 3, .slice (some ⟨w8.heap.size + 1, 0, none⟩) 3 3, .slice (some ⟨w8.heap.size + 2, 0, none⟩) 3 3] := by rw [← hW]; exact Blk.new_at (by simp)
  have wantR : RowsR W W.heap.size (some ⟨w8.heap.size + 3, 0, none⟩) [[0, 0, 1], [0, 1, 0], [0, 1, 1]] := by
    refine ⟨[.slice (some ⟨w8.heap.size, 0, none⟩) 3 3, .slice (some ⟨w8.heap.size + 1, 0, none⟩) 3 3, .slice (some ⟨w8.heap.size + 2, 0, none⟩) 3 3], ⟨rfl, fun _ => ⟨_, 0, rfl, l4.lt, fun j u hu => ?_⟩⟩, fun i xs hx => ?_⟩
    · rw [Nat.zero_add, l4.cell j]; simpa using hu
    · have rd : ∀ {g : Nat} {a b d : Int}, Blk W g 3 #[.int .i64 a, .int .i64 b, .int .i64 d] → Reads W W.heap.size 1 (some ⟨g, 0, none⟩) 3 (ints [a, b, d]) := fun {g a b d} hl => ⟨rfl, fun _ => ⟨g, 0, rfl, hl.lt, fun j u hu => by rw [Nat.zero_add, hl.cell j]; simpa [ints] using hu⟩⟩
      match i with
      | 0 => injection hx with hx; subst hx; exact ⟨_, 3, rfl, rd l1⟩
      | 1 => injection hx with hx; subst hx; exact ⟨_, 3, rfl, rd l2⟩
      | 2 => injection hx with hx; subst hx; exact ⟨_, 3, rfl, rd l3⟩
      | i + 3 => cases hx
  have wantR2 : RowsR W W.heap.size (some ⟨w8.heap.size + 3, 0, none⟩) [[0, 0, 1], [0, 1, 0]] := by
    obtain ⟨vs, ⟨hv1, hv2⟩, hr⟩ := wantR
    refine ⟨vs.take 2, ⟨by rw [List.length_take, hv1]; rfl, fun _ => ?_⟩, fun i xs hx => ?_⟩
    · obtain ⟨b, off, e, hb, hc⟩ := hv2 (by decide)
      exact ⟨b, off, e, hb, fun j u hu => hc j u (by
        rw [List.getElem?_take] at hu
        split at hu
        · exact hu
        · cases hu)⟩
    · have hi : i < 2 := (List.getElem?_eq_some_iff.1 hx).1
      obtain ⟨A', c', h1, h2⟩ := hr i xs (by
        match i with
        | 0 => exact hx
        | 1 => exact hx)
      exact ⟨A', c', by rw [List.getElem?_take, if_pos hi]; exact h1, h2⟩
  clear bW l1 l2 l3 l4
  go_wp2_with fail
  refine (ieq3 A1 _ 0 1 2 W _ rfl o1.reads).mono ?_
  rintro e w10 ⟨rfl, b10⟩
  have o4 := o4.next b10
  have o7 := o7.next b10
  have o8 := o8.next b10
  have r9 := (r9.below b10).more b10.size
  have r5a := (r5a.below b10).more b10.size
  have r6a := (r6a.below b10).more b10.size
  have wantR := (wantR.below b10).more b10.size
  have wantR2 := (wantR2.below b10).more b10.size
  have hB10 := hBW.trans (b10.mono hBW.size)
  go_wp2_with fail
  refine (ieq2 A4 _ 1 2 w10 _ rfl o4.reads).mono ?_
  rintro e w11 ⟨rfl, b11⟩
  have o7 := o7.next b11
  have o8 := o8.next b11
  have r9 := (r9.below b11).more b11.size
  have r5a := (r5a.below b11).more b11.size
  have r6a := (r6a.below b11).more b11.size
  have wantR := (wantR.below b11).more b11.size
  have wantR2 := (wantR2.below b11).more b11.size
  have hB11 := hB10.trans (b11.mono hB10.size)
  go_wp2_with fail
  refine (rsameall_any A5 _ [[0, 0, 1], [0, 1, 0], [0, 1, 1]] _ _ [[0, 0, 1], [0, 1, 0], [0, 1, 1]] (by decide) (by decide) w11 _ r5a wantR).mono ?_
  rintro e w12 ⟨rfl, m12, rfl⟩
  go_wp2_with fail
  refine (rsameall_any A6 _ [[0, 0, 1], [0, 1, 0]] _ _ [[0, 0, 1], [0, 1, 0]] (by decide) (by decide) (w11.drewN m12) w11.heap.size r6a wantR2).mono ?_
  rintro e w13 ⟨rfl, m13, rfl⟩
  have hB13 : Below w.heap.size w ((w11.drewN m12).drewN m13) := ⟨hB11.os, hB11.tape, hB11.output, hB11.size, hB11.block⟩
  have o7 : OwnI ((w11.drewN m12).drewN m13) w6.heap.size A7 c7 [0, 1, 0] := o7
  have o8 : OwnI ((w11.drewN m12).drewN m13) w7.heap.size A8 c8 [0, 1, 0] := o8
  have r9 : Reads ((w11.drewN m12).drewN m13) ((w11.drewN m12).drewN m13).heap.size 1 A9 3 (ints [0, 1, 1]) := r9
  obtain ⟨w13, hw13⟩ : ∃ w13, (w11.drewN m12).drewN m13 = w13 := ⟨_, rfl⟩
  rw [hw13] at hB13 o7 o8 r9 ⊢
  clear hw13
  go_wp2_with fail
  refine (deq3 A7 _ 0 1 0 w13 _ rfl o7.reads).mono ?_
  rintro e w14 ⟨rfl, b14⟩
  have o8 := o8.next b14
  have r9 := (r9.below b14).more b14.size
  have hB14 := hB13.trans (b14.mono hB13.size)
  go_wp2_with fail
  refine (deq3 A8 _ 0 1 0 w14 _ rfl o8.reads).mono ?_
  rintro e w15 ⟨rfl, b15⟩
  have r9 := (r9.below b15).more b15.size
  have hB15 := hB14.trans (b15.mono hB14.size)
  go_wp2_with fail
  refine (seq3 A9 _ 0 1 1 w15 _ rfl r9).mono ?_
  rintro e w16 ⟨rfl, b16⟩
  go_wp2
  go_ret
  exact ⟨rfl, hB15.trans (b16.mono hB15.size)⟩
end Go.Proofs.YtplgbapbgcipdaaGreat

/-! Adding a chip permutes the recurrent configurations. No program is in sight. -/
namespace Go.Proofs.YtplgbapbgcipdaaGreat
section
variable {n q : Nat} {es : List E3} {x : List Int}
/-- No set of vertices has too few chips. -/
def NoForb (n : Nat) (es : List E3) (q : Nat) (x : List Int) : Prop := ∀ S : List Nat, (∀ u ∈ S, u < n) → q ∉ S → S ≠ [] → ∃ u ∈ S, flmTo es S u n ≤ x.getD u 0
theorem flm_congr {l l' : List Nat} (v : Nat) : ∀ k, (∀ u, u < k → (u ∈ l ↔ u ∈ l')) → flmTo es l v k = flmTo es l' v k
  | 0, _ => rfl
  | k + 1, h => by
    simp only [flmTo]
    rw [flm_congr v k fun u hu => h u (by omega)]
    by_cases hk : k ∈ l
    · rw [if_pos hk, if_pos ((h k (by omega)).1 hk)]
    · rw [if_neg hk, if_neg (fun hc => hk ((h k (by omega)).2 hc))]
theorem noforb_of_rec (hG : RightG n es) (hq : q < n) (h : recB n es x q = true) : NoForb n es q x := by
  intro S hS hqS hne
  refine Classical.byContradiction fun hno => ?_
  have hlt : ∀ u ∈ S, x.getD u 0 < flmTo es S u n := fun u hu => by
    refine Classical.byContradiction fun hc => hno ⟨u, hu, by omega⟩
  have hl' : LOk n (restL n S) := ⟨List.nodup_range.sublist List.filter_sublist, fun u hu => (mem_rest.1 hu).1⟩
  have hrr : ∀ u, u < n → (u ∈ restL n (restL n S) ↔ u ∈ S) := fun u hu => by
    rw [mem_rest, mem_rest]
    exact ⟨fun h => Classical.byContradiction fun hc => h.2 ⟨hu, hc⟩, fun h => ⟨hu, fun hc => hc.2 h⟩⟩
  have hcat : ∀ u, u < n → catL es (dualL n es x) (restL n S) u = false := by
    intro u hu
    rw [cat_dual hG x hl' hu]
    by_cases hm : u ∈ restL n S
    · simp [hm]
    · have huS : u ∈ S := Classical.byContradiction fun hc => hm (mem_rest.2 ⟨hu, hc⟩)
      rw [← rest_catch hG x (restL n S) u, jnE_flm hG, flm_congr u n hrr]
      have := hlt u huS
      rw [decide_eq_false (by omega : ¬ flmTo es S u n ≤ x.getD u 0)]
      simp
  have hsub := burns_same (l := [q]) (by intro u hu; rw [List.mem_singleton.1 hu]; exact mem_rest.2 ⟨hq, hqS⟩) hcat hl' (fun a b => (btw_bd hG.ok a b).1) n (lok_one hq)
  unfold recB at h
  rw [Bool.and_eq_true, decide_eq_true_iff, full_iff hq] at h
  obtain ⟨s, hs⟩ := List.exists_mem_of_ne_nil S hne
  have h2 : s ∈ worstL n es x q := mem_rest.2 ⟨hS s hs, fun hc => (mem_rest.1 (hsub s hc)).2 hs⟩
  rw [h.2] at h2
  cases h2
theorem rec_of_noforb (hG : RightG n es) (hq : q < n) (hs : stabTo es x q n = true) (h : NoForb n es q x) : recB n es x q = true := by
  unfold recB
  rw [hs, Bool.true_and, decide_eq_true_iff, full_iff hq]
  refine Classical.byContradiction fun hne => ?_
  obtain ⟨u, hu, hle⟩ := h (worstL n es x q) (fun u hu => (mem_rest.1 hu).1) (fun hc => (mem_rest.1 hc).2 recL_sink) hne
  obtain ⟨hun, hur⟩ := mem_rest.1 hu
  have hdone := burnL_done (es := es) (c := dualL n es x) (k := n) (lok_one hq) (by simp) u hun
  have h1 : catL es (dualL n es x) (recL n es x q) u = false := hdone
  rw [cat_dual hG x (recL_ok hq) hun, decide_eq_false hur] at h1
  have h2 : catchB es x (recL n es x q) u = false := by simpa using h1
  rw [← rest_catch hG x (recL n es x q) u, jnE_flm hG] at h2
  exact of_decide_eq_false h2 hle
theorem sumTo_split {f : Nat → Int} {v : Nat} (k : Nat) : sumTo (fun y => f y + if y = v then 1 else 0) k = sumTo f k + if v < k then 1 else 0 := by
  rw [sumTo_add]
  have := sumTo_at (fun _ => (1 : Int)) v k
  rw [this]
end
end Go.Proofs.YtplgbapbgcipdaaGreat

/-! The levels of recurrent configurations: there are as many of a level as trees of the graph without loops with so many unused single edges, and as trees with so many externally active ones. No program is in sight. -/
namespace Go.Proofs.YtplgbapbgcipdaaGreat
section
variable {n q : Nat} {es : List E3}
/-- The edges that are no loops. -/
def straightL (es : List E3) : List E3 := es.filter fun e => decide (e.1 ≠ e.2.1)
theorem straight_cons (e : E3) (es : List E3) : straightL (e :: es) = if e.1 ≠ e.2.1 then e :: straightL es else straightL es := by
  unfold straightL
  by_cases h : e.1 ≠ e.2.1
  · rw [List.filter_cons_of_pos (by simpa using h), if_pos h]
  · rw [List.filter_cons_of_neg (by simpa using h), if_neg h]
theorem right_straight {N : Int} (hG : RightG N es) : RightG N (straightL es) := ⟨hG.lo, hG.hi, fun e he => hG.ok e (List.mem_filter.1 he).1, hG.sorted.sublist List.filter_sublist⟩
theorem edges_right {N : Int} : ∀ {es : List E3} {p : Option E3}, (∀ e ∈ es, okE N e) → es.Pairwise ltE → (∀ y, p = some y → ∀ x ∈ es, ltE y x) → edgesErr N p es = 0
  | [], _, _, _, _ => rfl
  | e :: es, p, h1, h2, h3 => by
    have ho := h1 e (by simp)
    obtain ⟨h4, h5⟩ := List.pairwise_cons.1 h2
    have h6 : edgeErr N p e = 0 := by
      unfold okE at ho
      unfold edgeErr
      rw [if_neg (by omega), if_neg (by omega)]
      cases p with
      | none => rfl
      | some y =>
        have := h3 y rfl e (by simp)
        unfold ltE at this
        dsimp only
        rw [if_neg (by omega)]
    unfold edgesErr
    rw [if_pos h6]
    exact edges_right (fun x hx => h1 x (by simp [hx])) h5 (fun y hy x hx => by cases hy; exact h4 x hx)
theorem check_right {N : Int} (hG : RightG N es) : checkG N es = 0 := by
  have := hG.lo
  have := hG.hi
  unfold checkG
  rw [if_neg (by omega)]
  exact edges_right hG.ok hG.sorted (fun y hy => by cases hy)
end
end Go.Proofs.YtplgbapbgcipdaaGreat

