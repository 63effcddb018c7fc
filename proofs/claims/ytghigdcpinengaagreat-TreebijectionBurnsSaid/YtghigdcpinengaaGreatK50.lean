/-
  Texts of this claim, put together: RTreeF.
-/
import Derived.Test.YtghigdcpinengaaGreatK47
import Derived.Test.YtghigdcpinengaaGreatK49
import Derived.Test.YtghigdcpinengaaGreatK27
/-! ref30.given and Tree. -/
namespace Go.Proofs.YtghigdcpinengaaGreat
open Go.RowKit

theorem results_rf1 {fn : Func} {p u : Tmp} {tmps : Array Value} {w : World} {g : Nat} {cs : Array Value} (h : fn.results = #[.cell p 35, .tmp u]) (hp : tmps.getD p undef = .pointer (some ⟨g, 0, none⟩)) (hg : Blk w g 35 cs) (hs : cs.size = 4) :
    (results fn tmps).run Tryz.prog w = .ok (.tuple #[.agg cs, tmps.getD u undef]) w := by
  have hi : (Tryz.prog.info? 35).map (·.size) = some cs.size := by rw [info_rfire, hs]
  have hp' : tmps[p]?.getD undef = .pointer (some ⟨g, 0, none⟩) := by simpa using hp
  simp [results, h, hp', asAddr, run_loadVar_row w g _ _ cs _ _ hg Tryz.underlying35 rfl hi]
theorem cfg_cases (n : Int) (es : List E3) (q : Int) (cs : List Int) : (burnErr n es q cs ≠ 0 ∧ cfgErr n es q cs = burnErr n es q cs) ∨ (burnErr n es q cs = 0 ∧ cfgErr n es q cs = if restL n.toNat (burntL es cs n.toNat q.toNat) = [] then 0 else 15) := by
  unfold cfgErr superE
  by_cases h : burnErr n es q cs = 0
  · rw [if_pos h]
    right
    refine ⟨h, ?_⟩
    simp
  · rw [if_neg h]
    left
    refine ⟨h, ?_⟩
    simp [h]

set_option maxRecDepth 100000 in
set_option maxHeartbeats 4000000 in
theorem given30_any (n q : Int) (A : Option Addr) (c : Nat) (es : List E3) (hlen : es.length ≤ 40) (hsm : checkG n es = 0 → n ≤ 6) (B : Option Addr) (d : Nat) (cs : List Int) (hl : cs.length ≤ 1048000) (w : World) (h : Reads w w.heap.size 3 A es.length (edgeCells es)) (h' : Reads w w.heap.size 1 B cs.length (ints cs)) :
    Calls Tryz.prog 51 #[.agg #[.int .i64 n, .slice A es.length c], .int .i64 q, .slice B cs.length d] w fun e w' => e = .returned (.int .i64 (cfgErr n es q cs)) ∧ Below w.heap.size w w' := by
  have g0 := Blk.new w 24 #[.int .i64 n, .slice A es.length c]
  have hB0 : Below w.heap.size w (w.alloc (.cells #[.int .i64 n, .slice A es.length c] 24)) := (Below.refl _ _).alloc (Nat.le_refl _) _
  have c0 := g0.cell 0
  have c1 := g0.cell 1
  have CC := Lib.hid (fun (W : World) (hB : Below w.heap.size w W) => rbcheck_any n A c es (by omega) q B d cs (by omega) W ((h.below hB).more hB.size) ((h'.below hB).more hB.size))
  rcases cfg_cases n es q cs with ⟨h1, hE⟩ | ⟨h1, hE⟩
  · rw [hE]
    obtain ⟨z, hz⟩ : ∃ z, burnErr n es q cs = z := ⟨_, rfl⟩
    rw [hz] at CC h1 ⊢
    have hzb : (z != 0) = true := by simpa using h1
    clear hz h1 hE h h' hsm
    go_enter Tryz.func51, Tryz.ntmps51
    go_wp2_with fail
    refine (CC.out _ hB0).mono ?_
    rintro e w1 ⟨rfl, hb1⟩
    have hB1 := hB0.trans (hb1.mono hB0.size)
    go_wp2
    go_ret
    exact ⟨rfl, hB1⟩
  · rw [h1] at CC
    obtain ⟨hG, hC, hq0, hqn, hcl, _⟩ := conf_zero (burn_zero h1).1
    obtain ⟨m, rfl⟩ := Int.eq_ofNat_of_zero_le (show 0 ≤ n by omega)
    obtain ⟨p, rfl⟩ := Int.eq_ofNat_of_zero_le hq0
    have hck : checkG m es = 0 := by
      obtain ⟨h2, _⟩ := burn_zero h1
      rcases conf_cases m es p cs with ⟨h3, h4⟩ | ⟨h3, _⟩ | ⟨h3, _⟩
      · exact absurd (h4 ▸ h2) h3
      all_goals
        rcases root_cases m es p with ⟨a, b⟩ | ⟨a, _, b⟩ | ⟨a, _⟩ | ⟨a, _⟩
        · exact absurd (b ▸ h3) a
        · exact a
        · exact a
        · exact a
    have hn6 : m ≤ 6 := by have := hsm hck; omega
    have hcl' : cs.length = m := by omega
    rw [Int.toNat_natCast] at hC
    have hss := super_sets (cs := cs) hG hC (show p < m by omega)
    rw [Int.toNat_natCast, Int.toNat_natCast] at hE
    have IC : Hid (∀ W, Below w.heap.size w W → Calls Tryz.prog 36 #[.agg #[.int .i64 m, .slice A es.length c], .int .i64 p, .slice B cs.length d] W fun e w' => e = .returned (.bool (decide (restL m (burntL es cs m p) = []))) ∧ Below W.heap.size W w') := by
      intro W hB
      have := ris_any m hn6 A c es (by omega) hG p B d cs hcl' W ((h.below hB).more hB.size) ((h'.below hB).more hB.size)
      rw [hss]
      exact this
    rw [hE]
    by_cases hr : restL m (burntL es cs m p) = []
    · rw [decide_eq_true hr] at IC
      rw [if_pos hr]
      clear hr hE h1 hss hcl' hcl hn6 hck hsm h h' hG hC hq0 hqn
      go_enter Tryz.func51, Tryz.ntmps51
      go_wp2_with fail
      refine (CC.out _ hB0).mono ?_
      rintro e w1 ⟨rfl, hb1⟩
      have hB1 := hB0.trans (hb1.mono hB0.size)
      have g1 := g0.next hb1
      have k0 := g1.cell 0
      have k1 := g1.cell 1
      clear c0 c1
      go_wp2_with fail
      refine (IC.out _ hB1).mono ?_
      rintro e w2 ⟨rfl, hb2⟩
      have hB2 := hB1.trans (hb2.mono hB1.size)
      go_wp2
      go_ret
      exact ⟨rfl, hB2⟩
    · rw [decide_eq_false hr] at IC
      rw [if_neg hr]
      clear hr hE h1 hss hcl' hcl hn6 hck hsm h h' hG hC hq0 hqn
      go_enter Tryz.func51, Tryz.ntmps51
      go_wp2_with fail
      refine (CC.out _ hB0).mono ?_
      rintro e w1 ⟨rfl, hb1⟩
      have hB1 := hB0.trans (hb1.mono hB0.size)
      have g1 := g0.next hb1
      have k0 := g1.cell 0
      have k1 := g1.cell 1
      clear c0 c1
      go_wp2_with fail
      refine (IC.out _ hB1).mono ?_
      rintro e w2 ⟨rfl, hb2⟩
      have hB2 := hB1.trans (hb2.mono hB1.size)
      go_wp2
      go_ret
      exact ⟨rfl, hB2⟩

/-- What ref30.Tree hands back. -/
def RTreeF (n : Int) (es : List E3) (q : Int) (cs : List Int) (w : World) (e : Ending) (w' : World) : Prop := ∃ A1 c1 A2 c2 A3 c3 A4 k4 c4, e = .returned (.tuple #[.agg #[.slice A1 (stepsE n es q cs).1.length c1, .slice A2 (treeFE n es q cs).2.1.length c2, .slice A3 (treeFE n es q cs).1.length c3, .slice A4 k4 c4], .int .i64 (cfgErr n es q cs)]) ∧
  Reads w' w'.heap.size 1 A1 (stepsE n es q cs).1.length (ints (stepsE n es q cs).1) ∧ Reads w' w'.heap.size 1 A2 (treeFE n es q cs).2.1.length (ints (treeFE n es q cs).2.1) ∧ Reads w' w'.heap.size 1 A3 (treeFE n es q cs).1.length (ints (treeFE n es q cs).1) ∧ Below w.heap.size w w'

set_option maxRecDepth 100000 in
set_option maxHeartbeats 4000000 in
theorem rtree30_any (n q : Int) (A : Option Addr) (c : Nat) (es : List E3) (hlen : es.length ≤ 40) (hsm : checkG n es = 0 → n ≤ 6) (B : Option Addr) (d : Nat) (cs : List Int) (hl : cs.length ≤ 1048000) (w : World) (h : Reads w w.heap.size 3 A es.length (edgeCells es)) (h' : Reads w w.heap.size 1 B cs.length (ints cs)) :
    Calls Tryz.prog 15 #[.agg #[.int .i64 n, .slice A es.length c], .int .i64 q, .slice B cs.length d] w (RTreeF n es q cs w) := by
  have GC := Lib.hid (fun (W : World) (hB : Below w.heap.size w W) => given30_any n q A c es hlen hsm B d cs hl W ((h.below hB).more hB.size) ((h'.below hB).more hB.size))
  obtain ⟨W0, hW0⟩ : ∃ W0, (w.alloc (.cells #[.int .i64 n, .slice A es.length c] 24)).alloc (.cells #[.slice none 0 0, .slice none 0 0, .slice none 0 0, .slice none 0 0] 35) = W0 := ⟨_, rfl⟩
  have g0 : Blk W0 w.heap.size 24 #[.int .i64 n, .slice A es.length c] := by rw [← hW0]; exact (Blk.new w _ _).alloc _
  have r0 : Blk W0 (w.heap.size + 1) 35 #[.slice none 0 0, .slice none 0 0, .slice none 0 0, .slice none 0 0] := by rw [← hW0]; exact Blk.newF (by simp)
  have hB0 : Below w.heap.size w W0 := by rw [← hW0]; exact ((Below.refl _ _).alloc (Nat.le_refl _) _).alloc (by simp) _
  have hs0 : W0.heap.size = w.heap.size + 2 := by rw [← hW0]; simp
  have HW0 := Lib.hid hW0
  clear hW0
  have c0 := g0.cell 0
  have c1 := g0.cell 1
  by_cases hz : cfgErr n es q cs = 0
  · rw [hz] at GC
    obtain ⟨m, p, rfl, rfl, hp, hm12, hG, hcl⟩ := cfg_nat hz
    have BC := Lib.hid (fun (W : World) (hB : Below w.heap.size w W) => burntC_any m p A c es hlen hG hp B d cs hcl W ((h.below hB).more hB.size) (by rw [← hcl]; exact (h'.below hB).more hB.size))
    have hE : stepsE m es p cs = (nI (fireC_ (endsL es) m p cs).steps, 0) := by unfold stepsE; rw [if_pos hz]; rfl
    have hE2 : treeFE m es p cs = (nI (treeN (endsL es) m p cs), nI (fireC_ (endsL es) m p cs).order, 0) := by unfold treeFE; rw [if_pos hz]; rfl
    have hnn : ∀ v, v < m → 0 ≤ cs.getD v 0 := by
      obtain ⟨_, _, _, _, hh, _⟩ := cfg_facts hz
      exact hh
    have hFR : Hid (runF (endsL es) (ltQ cs) (endsL es).length (fire1 m p) = fireC_ (endsL es) m p cs) := (fire_ref (bd_ends hG) hp hnn).1.symm
    unfold RTreeF
    rw [hE, hE2, hz]
    dsimp only
    rw [nI_length, nI_length, nI_length]
    have HT : Hid (treeN (endsL es) m p cs = ascN (endsL es).length (fireC_ (endsL es) m p cs).tree) := rfl
    rw [← hcl] at BC
    simp only [hcl] at BC
    have hBC : Hid (∀ (W : World), Below w.heap.size w W → Calls Tryz.prog 52 #[.agg #[.int .i64 m, .slice A es.length c], .int .i64 p, .slice B cs.length d, .slice none 0 0, .bool false] W fun e w' => ∃ A1 c1 A2 c2 A3 c3 A4 k4 c4, e = .returned (.agg #[.slice A1 (fireC_ (endsL es) m p cs).steps.length c1, .slice A2 (fireC_ (endsL es) m p cs).order.length c2, .slice A3 (treeN (endsL es) m p cs).length c3, .slice A4 k4 c4]) ∧ OwnI w' W.heap.size A1 c1 (nI (fireC_ (endsL es) m p cs).steps) ∧ OwnI w' W.heap.size A2 c2 (nI (fireC_ (endsL es) m p cs).order) ∧ OwnI w' W.heap.size A3 c3 (nI (treeN (endsL es) m p cs)) ∧ Below W.heap.size W w') := by
      intro W hB
      have hb := burntC_any m p A c es hlen hG hp B d cs hcl W ((h.below hB).more hB.size) (by rw [← hcl]; exact (h'.below hB).more hB.size)
      rw [← hcl] at hb
      simp only [hcl] at hb
      rw [hcl]
      refine hb.mono ?_
      rintro e w' ⟨a, X, rfl, HX, o1, o2, o3, _, hb⟩
      have hX := HX.out
      rw [hFR.out] at hX
      subst hX
      exact ⟨a.AS, a.cS, a.AO, a.cO, a.AD, a.cD, _, _, _, rfl, o1, o2, o3, hb⟩
    clear BC
    obtain ⟨S, hS⟩ : ∃ S, fireC_ (endsL es) m p cs = S := ⟨_, rfl⟩
    obtain ⟨T, hT⟩ : ∃ T, treeN (endsL es) m p cs = T := ⟨_, rfl⟩
    rw [hS, hT] at hBC
    rw [hS, hT]
    clear hE hE2 hS hT hz h h' hcl hG hnn hsm HT hFR
    go_enter Tryz.func15, Tryz.ntmps15
    go_wp2_with fail
    try rw [HW0.out]
    refine (GC.out _ hB0).mono ?_
    rintro e w1 ⟨rfl, hb1⟩
    have hB1 := hB0.trans (hb1.mono hB0.size)
    have g1 := g0.next hb1
    have r1 := r0.next hb1
    have k0 := g1.cell 0
    have k1 := g1.cell 1
    have hs1 : w.heap.size + 2 ≤ w1.heap.size := by have := hb1.size; omega
    clear c0 c1 g0 r0
    go_wp2_with fail
    refine (hBC.out _ hB1).mono ?_
    rintro e w2 ⟨A1, c1, A2, c2, A3, c3, A4, k4, c4, rfl, o1, o2, o3, hb2⟩
    have hB2 := hB1.trans (hb2.mono hB1.size)
    have r2 := r1.next hb2
    have q0 := r2.cell 0
    have q1 := r2.cell 1
    have q2 := r2.cell 2
    have q3 := r2.cell 3
    have f0 := r2.frozen 0
    have f1 := r2.frozen 1
    have f2 := r2.frozen 2
    have f3 := r2.frozen 3
    have fin4 : ∀ {A : Option Addr} {c : Nat} {xs : List Int} (u0 u1 u2 u3 : Value), OwnI w2 w1.heap.size A c xs → OwnI ((((w2.setCell ⟨w.heap.size + 1, 0, none⟩ u0).setCell ⟨w.heap.size + 1, 1, none⟩ u1).setCell ⟨w.heap.size + 1, 2, none⟩ u2).setCell ⟨w.heap.size + 1, 3, none⟩ u3) w1.heap.size A c xs := fun {A c xs} u0 u1 u2 u3 ho => by
      have e2 := r2.set_ 0 u0
      have e3 := e2.set_ 1 u1
      have e4 := e3.set_ 2 u2
      exact (((ho.set_blk r2 (by decide) 0 u0).set_blk e2 (by decide) 1 u1).set_blk e3 (by decide) 2 u2).set_blk e4 (by decide) 3 u3
    have O1 := Lib.hid (fin4 (.slice A1 S.steps.length c1) (.slice A2 S.order.length c2) (.slice A3 T.length c3) (.slice A4 k4 c4) o1)
    have O2 := Lib.hid (fin4 (.slice A1 S.steps.length c1) (.slice A2 S.order.length c2) (.slice A3 T.length c3) (.slice A4 k4 c4) o2)
    have O3 := Lib.hid (fin4 (.slice A1 S.steps.length c1) (.slice A2 S.order.length c2) (.slice A3 T.length c3) (.slice A4 k4 c4) o3)
    have R2 := Lib.hid r2
    have HB2 := Lib.hid hB2
    clear o1 o2 o3 r1 r2 g1 hb1 hb2 fin4 hB2
    go_wp2
    try simp only [Exit.inBlock, Exit.then]
    refine bodyPost_ret (results_rf1 rfl rfl ((((R2.out.set_ 0 _).set_ 1 _).set_ 2 _).set_ 3 _) rfl) rfl ?_
    exact ⟨A1, c1, A2, c2, A3, c3, _, _, _, rfl, readsNB O1.out rfl, readsNB O2.out rfl, readsNB O3.out rfl, (((HB2.out.setCell (p := ⟨w.heap.size + 1, 0, none⟩) (by simp) _).setCell (p := ⟨w.heap.size + 1, 1, none⟩) (by simp) _).setCell (p := ⟨w.heap.size + 1, 2, none⟩) (by simp) _).setCell (p := ⟨w.heap.size + 1, 3, none⟩) (by simp) _⟩
  · have hE : stepsE n es q cs = ([], cfgErr n es q cs) := by unfold stepsE; rw [if_neg hz]
    have hE2 : treeFE n es q cs = ([], [], cfgErr n es q cs) := by unfold treeFE; rw [if_neg hz]
    unfold RTreeF
    rw [hE, hE2]
    dsimp only
    obtain ⟨z, hzz⟩ : ∃ z, cfgErr n es q cs = z := ⟨_, rfl⟩
    rw [hzz] at GC hz ⊢
    have hzb : (z != 0) = true := by simpa using hz
    clear hE hE2 hzz hz h h' hsm
    go_enter Tryz.func15, Tryz.ntmps15
    go_wp2_with fail
    try rw [HW0.out]
    refine (GC.out _ hB0).mono ?_
    rintro e w1 ⟨rfl, hb1⟩
    have hB1 := hB0.trans (hb1.mono hB0.size)
    have r1 := r0.next hb1
    have q0 := r1.cell 0
    have q1 := r1.cell 1
    have q2 := r1.cell 2
    have q3 := r1.cell 3
    have f0 := r1.frozen 0
    have f1 := r1.frozen 1
    have f2 := r1.frozen 2
    have f3 := r1.frozen 3
    have R1 := Lib.hid r1
    clear c0 c1 r0 r1
    go_wp2
    refine bodyPost_ret (results_rf1 rfl rfl ((((R1.out.set_ 0 _).set_ 1 _).set_ 2 _).set_ 3 _) rfl) rfl ?_
    exact ⟨none, 0, none, 0, none, 0, none, 0, 0, rfl, Reads.nil_, Reads.nil_, Reads.nil_, (((hB1.setCell (p := ⟨w.heap.size + 1, 0, none⟩) (by simp) _).setCell (p := ⟨w.heap.size + 1, 1, none⟩) (by simp) _).setCell (p := ⟨w.heap.size + 1, 2, none⟩) (by simp) _).setCell (p := ⟨w.heap.size + 1, 3, none⟩) (by simp) _⟩
end Go.Proofs.YtghigdcpinengaaGreat

