/-
  Texts of this claim, put together: RNext, RWorst.
-/
import Derived.Test.YtplgbapbgcipdaaGreatK32
import Derived.Test.YtplgbapbgcipdaaGreatK33
/-! Package recurrent: Next, Kick. -/
namespace Go.Proofs.YtplgbapbgcipdaaGreat
open Go.RowKit

/-- What Next returns. -/
def NextE (n : Int) (es : List E3) (q : Int) (cs : List Int) (v : Int) (ds : List Int) (e : Int) : Prop :=
  if burnErr n es q cs ≠ 0 then ds = [] ∧ e = burnErr n es q cs else if v < 0 ∨ n ≤ v ∨ v = q then ds = [] ∧ e = 2 else ∃ ss, SetE n.toNat es q.toNat (addAt cs v.toNat 1) ds ss e
/-- What the sink gives over one edge; over all. -/
def kickS (q : Int) (d : List Int) (e : E3) : List Int := if e.1 = e.2.1 then d else if e.1 = q then addAt d e.2.1.toNat e.2.2 else if e.2.1 = q then addAt d e.1.toNat e.2.2 else d
def kickL (es : List E3) (q : Int) (d : List Int) : List Int := es.foldl (kickS q) d
/-- What Kick returns. -/
def KickE (n : Int) (es : List E3) (q : Int) (cs ds ss : List Int) (e : Int) : Prop := if burnErr n es q cs ≠ 0 then ds = [] ∧ ss = [] ∧ e = burnErr n es q cs else SetE n.toNat es q.toNat (kickL es q cs) ds ss e
theorem kickS_length (q : Int) (d : List Int) (e : E3) : (kickS q d e).length = d.length := by
  unfold kickS
  split
  · rfl
  · split
    · exact addAt_length ..
    · split
      · exact addAt_length ..
      · rfl
theorem kickL_snoc {es : List E3} {k : Nat} {e : E3} (h : es[k]? = some e) (q : Int) (d : List Int) : kickL (es.take (k + 1)) q d = kickS q (kickL (es.take k) q d) e := by
  rw [take_snoc h]; simp [kickL, List.foldl_append]
theorem kickL_length (es : List E3) (q : Int) (d : List Int) : (kickL es q d).length = d.length := by
  induction es using snocRec with
  | h0 => rfl
  | h1 es e ih => unfold kickL at *; rw [List.foldl_append]; simp only [List.foldl_cons, List.foldl_nil]; rw [kickS_length, ih]
theorem kickS_get {n q v : Nat} {d : List Int} {e : E3} (hd : d.length = n) (ho : okE n e) : (kickS q d e).getD v 0 = d.getD v 0 + jnT [q] v e := by
  unfold okE at ho
  unfold kickS jnT
  simp only [List.mem_singleton]
  by_cases h1 : e.1 = e.2.1
  · rw [if_pos h1, if_neg (fun h => h.1 h1)]; omega
  · rw [if_neg h1]
    by_cases h2 : e.1 = q
    · rw [if_pos h2, addAt_getD _ _ _ (by omega)]
      by_cases h3 : v = e.2.1.toNat
      · rw [if_pos h3, if_pos (by omega)]
      · rw [if_neg h3, if_neg (by omega)]
    · rw [if_neg h2]
      by_cases h3 : e.2.1 = q
      · rw [if_pos h3, addAt_getD _ _ _ (by omega)]
        by_cases h4 : v = e.1.toNat
        · rw [if_pos h4, if_pos (by omega)]
        · rw [if_neg h4, if_neg (by omega)]
      · rw [if_neg h3, if_neg (by omega)]; omega
theorem kickL_get {n q v : Nat} {es : List E3} {d : List Int} (hd : d.length = n) (hok : ∀ e ∈ es, okE n e) : (kickL es q d).getD v 0 = d.getD v 0 + jnE es [q] v := by
  induction es using snocRec with
  | h0 => simp [kickL, jnE]
  | h1 es e ih =>
    have e1 : kickL (es ++ [e]) q d = kickS q (kickL es q d) e := by simp [kickL, List.foldl_append]
    have e2 : jnE (es ++ [e]) [q] v = jnE es [q] v + jnT [q] v e := by simp [jnE]
    rw [e1, e2, kickS_get (n := n) (by rw [kickL_length]; exact hd) (hok e (by simp)), ih fun x hx => hok x (by simp [hx])]
    omega
theorem burn_root {n q : Int} {es : List E3} {cs : List Int} (h : burnErr n es q cs = 0) : rootErr n es q = 0 := by
  have hc := (burn_zero h).1
  rcases conf_cases n es q cs with ⟨h1, hE⟩ | ⟨h1, h2, hE⟩ | ⟨h1, h2, hE⟩
  · exact absurd (hE ▸ hc) h1
  · exact absurd (hE ▸ hc) h2
  · exact h1

set_option maxRecDepth 100000 in
set_option maxHeartbeats 8000000 in
theorem next_ok (n : Nat) (A : Option Addr) (c : Nat) (es : List E3) (hlen : es.length ≤ 10000) (q : Nat) (B : Option Addr) (cB : Nat) (cs : List Int) (hz : burnErr n es q cs = 0) (v : Nat) (hv : v < n) (hvq : v ≠ q) (w : World)
    (h : Reads w w.heap.size 3 A es.length (edgeCells es)) (h' : Reads w w.heap.size 1 B cs.length (ints cs)) :
    Calls Tryz.prog 8 #[.agg #[.int .i64 n, .slice A es.length c], .int .i64 q, .slice B cs.length cB, .int .i64 v] w fun e w' => ∃ ds ss er A1 c1, SetE n es q (addAt cs v 1) ds ss er ∧ e = .returned (.tuple #[.slice A1 ds.length c1, .int .i64 er]) ∧
      OwnI w' w.heap.size A1 c1 ds ∧ Below w.heap.size w w' := by
  obtain ⟨hR, hq, hcl⟩ := burn_rargs hlen hz
  obtain ⟨_, _, _, _, _, hcb, hnn⟩ := conf_zero (burn_zero hz).1
  have hn12 : n ≤ 12 := by have := (right_of hR.hz).hi; omega
  have BC := Lib.hid (reccheck_any n A c es (by omega) q B cB cs (by omega))
  rw [hz] at BC
  have DC := Lib.hid (fun (W : World) (hB : Below w.heap.size w W) => dclone_any B cB cs (by omega) W ((h'.below hB).more hB.size))
  rw [hcl] at h' BC DC ⊢
  have SR := Lib.hid (fun (A' : Option Addr) (c' : Nat) (W : World) (hB : Below w.heap.size w W) (hr : Reads W W.heap.size 1 A' n (ints (addAt cs v 1))) => rsettled_any n A c es hlen q (burn_root hz) A' c' (addAt cs v 1) (by rw [addAt_length]; exact hcl)
    (fun x hx => by
      unfold addAt at hx
      rcases List.mem_or_eq_of_mem_set hx with hx | rfl
      · exact (hcb x hx).1
      · obtain ⟨y, hy⟩ := get_of_lt (xs := cs) (k := v) (by omega)
        have := hcb y (List.mem_of_getElem? hy)
        rw [getD_at hy]; omega)
    (fun u hu huq => by
      rw [addAt_getD _ _ _ (by omega)]
      have := hnn u (by omega) (by omega)
      split <;> omega) W ((h.below hB).more hB.size) hr)
  obtain ⟨x, hx⟩ := get_of_lt (xs := cs) (k := v) (by omega)
  have hxb := hcb x (List.mem_of_getElem? hx)
  have hw1 : IntKind.i64.wrap (x + 1) = x + 1 := IntWalk.i64_in _ (by omega)
  have hset : cs.set v (x + 1) = addAt cs v 1 := by unfold addAt; rw [getD_at hx]
  have HSET := Lib.hid hset
  have HX := Lib.hid hx
  have HCL := Lib.hid hcl
  have g0 := Blk.new w 24 #[.int .i64 n, .slice A es.length c]
  have hvi : (v : Int) < (n : Int) := by omega
  have hv0 : ¬ (v : Int) < 0 := by omega
  have hvn : ¬ (n : Int) ≤ (v : Int) := by omega
  have hvq1 : ((v : Int) == (q : Int)) = false := by simp; omega
  clear hR hz hcl hnn hcb hx hset hxb
  go_enter Tryz.func8, Tryz.ntmps8
  go_wp2_with fail
  refine (BC.out _ ((h.alloc (Nat.le_refl _) _).more (by simp)) ((h'.alloc (Nat.le_refl _) _).more (by simp))).mono ?_
  rintro e w1 ⟨rfl, hb1⟩
  have hB1 : Below w.heap.size w w1 := ((Below.refl _ _).alloc (Nat.le_refl _) _).trans (hb1.mono (by simp))
  have g1 := g0.next hb1
  have c0 := g1.cell 0
  clear g0 hb1
  go_wp2_with fail
  refine (DC.out _ hB1).mono ?_
  rintro e w2 ⟨A2, c2, rfl, o2, hb2⟩
  have hB2 := hB1.trans (hb2.mono hB1.size)
  obtain ⟨g2, hA2, hg2, hf2, hc2⟩ := o2.block (by rw [HCL.out]; omega)
  subst hA2
  have k0 := hc2 v x HX.out
  have f0 := hf2 v
  have O3 := o2.put v (x + 1)
  rw [HSET.out] at O3
  have gg := g1.next hb2
  have hgn : w.heap.size ≠ g2 := by have := g1.lt; omega
  have g3 := gg.far (p := ⟨g2, v, none⟩) hgn (.int .i64 (x + 1))
  have B3 := hB2.setCell (p := ⟨g2, v, none⟩) (by show w.heap.size ≤ g2; have := hB1.size; omega) (.int .i64 (x + 1))
  have R3 := O3.reads
  rw [addAt_length, HCL.out] at R3
  have SR3 := Lib.hid (SR.out _ c2 _ B3 R3)
  have d0 := g3.cell 0
  have d1 := g3.cell 1
  clear hf2 hc2 O3 R3 c0 g1 gg
  go_wp2_with fail
  refine (SR3.out).mono ?_
  rintro e w4 ⟨ds, ss, er, A1, c1, A4, c4, hE, rfl, o4, r4, hb4⟩
  go_wp2
  go_ret2
  exact ⟨ds, ss, er, A1, c1, hE, rfl, o4.mono B3.size, B3.trans (hb4.mono B3.size)⟩

set_option maxRecDepth 100000 in
set_option maxHeartbeats 8000000 in
theorem next_any (n : Int) (A : Option Addr) (c : Nat) (es : List E3) (hlen : es.length ≤ 10000) (q : Int) (B : Option Addr) (cB : Nat) (cs : List Int) (hm : cs.length ≤ 1048000) (v : Int) (w : World)
    (h : Reads w w.heap.size 3 A es.length (edgeCells es)) (h' : Reads w w.heap.size 1 B cs.length (ints cs)) :
    Calls Tryz.prog 8 #[.agg #[.int .i64 n, .slice A es.length c], .int .i64 q, .slice B cs.length cB, .int .i64 v] w fun e w' => ∃ ds er A1 c1, NextE n es q cs v ds er ∧ e = .returned (.tuple #[.slice A1 ds.length c1, .int .i64 er]) ∧
      OwnI w' w.heap.size A1 c1 ds ∧ Below w.heap.size w w' := by
  have BC := Lib.hid (reccheck_any n A c es (by omega) q B cB cs (by omega))
  have g0 := Blk.new w 24 #[.int .i64 n, .slice A es.length c]
  by_cases hz : burnErr n es q cs = 0
  · by_cases hb : v < 0 ∨ n ≤ v ∨ v = q
    · have HE : Hid (NextE n es q cs v [] 2) := by unfold Hid NextE; rw [if_neg (fun hh => hh hz), if_pos hb]; exact ⟨rfl, rfl⟩
      rw [hz] at BC
      clear hz
      have main : ∀ (b1 : v < 0 ∨ (¬ v < 0 ∧ n ≤ v) ∨ (¬ v < 0 ∧ ¬ n ≤ v ∧ v = q)), Calls Tryz.prog 8 #[.agg #[.int .i64 n, .slice A es.length c], .int .i64 q, .slice B cs.length cB, .int .i64 v] w fun e w' => ∃ ds er A1 c1, NextE n es q cs v ds er ∧ e = .returned (.tuple #[.slice A1 ds.length c1, .int .i64 er]) ∧
          OwnI w' w.heap.size A1 c1 ds ∧ Below w.heap.size w w' := by
        rintro (b1 | ⟨b1, b2⟩ | ⟨b1, b2, rfl⟩)
        all_goals
          clear hb
          go_enter Tryz.func8, Tryz.ntmps8
          go_wp2_with fail
          refine (BC.out _ ((h.alloc (Nat.le_refl _) _).more (by simp)) ((h'.alloc (Nat.le_refl _) _).more (by simp))).mono ?_
          rintro e w1 ⟨rfl, hb1⟩
          have hB1 : Below w.heap.size w w1 := ((Below.refl _ _).alloc (Nat.le_refl _) _).trans (hb1.mono (by simp))
          have g1 := g0.next hb1
          have c0 := g1.cell 0
          clear g0 hb1
          go_wp2
          go_ret2
          exact ⟨[], 2, none, 0, HE.out, rfl, OwnI.nil_ _ _, hB1⟩
      exact main (by omega)
    · obtain ⟨hG, _, hq0, hqn, _⟩ := conf_zero (burn_zero hz).1
      have hlo := hG.lo
      obtain ⟨m, rfl⟩ := Int.eq_ofNat_of_zero_le (show 0 ≤ n by omega)
      obtain ⟨p, rfl⟩ := Int.eq_ofNat_of_zero_le hq0
      obtain ⟨u, rfl⟩ := Int.eq_ofNat_of_zero_le (show 0 ≤ v by omega)
      refine (next_ok m A c es hlen p B cB cs hz u (by omega) (by omega) w h h').mono ?_
      rintro e w' ⟨ds, ss, er, A1, c1, hE, he, ho, hb⟩
      refine ⟨ds, er, A1, c1, ?_, he, ho, hb⟩
      unfold NextE
      rw [if_neg (fun hh => hh hz), if_neg (by omega)]
      exact ⟨ss, by simpa using hE⟩
  · obtain ⟨z, hzz⟩ : ∃ z, burnErr n es q cs = z := ⟨_, rfl⟩
    have HE : Hid (NextE n es q cs v [] z) := by unfold Hid NextE; rw [if_pos hz]; exact ⟨rfl, hzz.symm⟩
    rw [hzz] at BC hz
    have hb2 : (z != 0) = true := by simpa using hz
    clear hz hzz
    go_enter Tryz.func8, Tryz.ntmps8
    go_wp2_with fail
    refine (BC.out _ ((h.alloc (Nat.le_refl _) _).more (by simp)) ((h'.alloc (Nat.le_refl _) _).more (by simp))).mono ?_
    rintro e w1 ⟨rfl, hb1⟩
    have hB1 : Below w.heap.size w w1 := ((Below.refl _ _).alloc (Nat.le_refl _) _).trans (hb1.mono (by simp))
    clear g0 hb1
    go_wp2
    go_ret2
    exact ⟨[], z, none, 0, HE.out, rfl, OwnI.nil_ _ _, hB1⟩

set_option maxRecDepth 100000 in
set_option maxHeartbeats 8000000 in
theorem kick_ok (n : Nat) (A : Option Addr) (c : Nat) (es : List E3) (hlen : es.length ≤ 10000) (q : Nat) (B : Option Addr) (cB : Nat) (cs : List Int) (hz : burnErr n es q cs = 0) (w : World)
    (h : Reads w w.heap.size 3 A es.length (edgeCells es)) (h' : Reads w w.heap.size 1 B cs.length (ints cs)) :
    Calls Tryz.prog 10 #[.agg #[.int .i64 n, .slice A es.length c], .int .i64 q, .slice B cs.length cB] w fun e w' => ∃ ds ss er A1 c1 A2 c2, SetE n es q (kickL es q cs) ds ss er ∧ e = .returned (.tuple #[.slice A1 ds.length c1, .slice A2 ss.length c2, .int .i64 er]) ∧
      OwnI w' w.heap.size A1 c1 ds ∧ Reads w' w'.heap.size 1 A2 ss.length (ints ss) ∧ Below w.heap.size w w' := by
  obtain ⟨hR, hq, hcl⟩ := burn_rargs hlen hz
  obtain ⟨_, _, _, _, _, hcb, hnn⟩ := conf_zero (burn_zero hz).1
  have hG := right_of hR.hz
  have hok := hG.ok
  have hn12 : n ≤ 12 := by have := hG.hi; omega
  have BC := Lib.hid (reccheck_any n A c es (by omega) q B cB cs (by omega))
  rw [hz] at BC
  have DC := Lib.hid (fun (W : World) (hB : Below w.heap.size w W) => dclone_any B cB cs (by omega) W ((h'.below hB).more hB.size))
  rw [hcl] at h' BC DC ⊢
  have hkb : ∀ k v, v < n → -1048576 ≤ (kickL (es.take k) q cs).getD v 0 ∧ (kickL (es.take k) q cs).getD v 0 ≤ 1048576 + 50 * es.length := by
    intro k v hv
    have hokt : ∀ e ∈ es.take k, okE n e := fun e he => hok e (List.mem_of_mem_take he)
    rw [kickL_get hcl hokt]
    have h1 := jnE_bd hokt [q] v
    have h2 : (es.take k).length ≤ es.length := by rw [List.length_take]; omega
    obtain ⟨x, hx⟩ := get_of_lt (xs := cs) (k := v) (by omega)
    have := hcb x (List.mem_of_getElem? hx)
    rw [getD_at hx]
    omega
  have hkl : (kickL es q cs).length = n := by rw [kickL_length]; exact hcl
  have hkb2 := fun v hv => hkb es.length v hv
  rw [List.take_length] at hkb2
  have SR := Lib.hid (fun (A' : Option Addr) (c' : Nat) (W : World) (hB : Below w.heap.size w W) (hr : Reads W W.heap.size 1 A' n (ints (kickL es q cs))) => rsettled_any n A c es hlen q (burn_root hz) A' c' (kickL es q cs) hkl
    (fun x hx => by
      obtain ⟨i, hi⟩ := List.getElem?_of_mem hx
      have := hkb2 i (by have := (List.getElem?_eq_some_iff.1 hi).1; omega)
      rw [getD_at hi] at this
      exact this.1)
    (fun u hu huq => by
      rw [kickL_get hcl hok]
      have h1 := hnn u (by omega) (by omega)
      have h2 := (jnE_bd hok [q] u).1
      omega) W ((h.below hB).more hB.size) hr)
  have HKB := Lib.hid hkb
  have HKL : Hid (∀ k, (kickL (es.take k) q cs).length = n) := fun k => by rw [kickL_length]; exact hcl
  have HOK := Lib.hid hok
  have HK0 : Hid (kickL (es.take 0) q cs = cs) := by simp [Hid, kickL]
  have HCL := Lib.hid hcl
  have g0 := Blk.new w 24 #[.int .i64 n, .slice A es.length c]
  clear hR hz hcl hnn hcb hG hok hkb hkb2 hkl
  go_enter Tryz.func10, Tryz.ntmps10
  go_wp2_with fail
  refine (BC.out _ ((h.alloc (Nat.le_refl _) _).more (by simp)) ((h'.alloc (Nat.le_refl _) _).more (by simp))).mono ?_
  rintro e w1 ⟨rfl, hb1⟩
  have hB1 : Below w.heap.size w w1 := ((Below.refl _ _).alloc (Nat.le_refl _) _).trans (hb1.mono (by simp))
  have g1 := g0.next hb1
  clear g0 hb1
  go_wp2_with fail
  refine (DC.out _ hB1).mono ?_
  rintro e w2 ⟨A2, c2, rfl, o2, hb2⟩
  have hB2 := hB1.trans (hb2.mono hB1.size)
  obtain ⟨g2, hA2, hg2, _, _⟩ := o2.block (by rw [HCL.out]; omega)
  subst hA2
  have gg := g1.next hb2
  have hgw : w.heap.size < g2 := by have := g1.lt; omega
  have c1 := gg.cell 1
  have O2 := o2.mono hB1.size
  clear o2 hb2 g1
  go_wp2_with fail
  go_loopw [12, 25, 29, 35, 49] (fun _ i _ _ _ wl => ∃ k : Nat, i = .int .i64 k ∧ k ≤ es.length ∧ Hid (OwnI wl w.heap.size (some ⟨g2, 0, none⟩) c2 (kickL (es.take k) q cs)) ∧ Hid (Blk wl w.heap.size 24 #[.int .i64 n, .slice A es.length c]) ∧ Hid (Below w.heap.size w wl)) (fun _ i _ _ _ _ => es.length - (intOf i).toNat)
  case atStart => exact ⟨0, rfl, by omega, by rw [HK0.out]; exact O2, gg, hB2⟩
  case round =>
    obtain ⟨k, rfl, hk, HO, HGr, HB⟩ := hrel
    clear O2 gg c1 hB2
    by_cases hlt : k < es.length
    · obtain ⟨⟨x, y, mm⟩, hx⟩ := get_of_lt hlt
      have hok := HOK.out _ (List.mem_of_getElem? hx)
      unfold okE at hok
      dsimp only at hok
      obtain ⟨a, rfl⟩ := Int.eq_ofNat_of_zero_le (show 0 ≤ x by omega)
      obtain ⟨b, rfl⟩ := Int.eq_ofNat_of_zero_le (show 0 ≤ y by omega)
      obtain ⟨m, rfl⟩ := Int.eq_ofNat_of_zero_le (show 0 ≤ mm by omega)
      have hi : (k : Int) < (es.length : Int) := by omega
      obtain ⟨bE, off, hA, hbb, q1, q2, q3⟩ := (h.below HB.out).edge hx
      subst hA
      dsimp only at q1 q2 q3
      have e3 := Blk.new wr 73 #[.int .i64 a, .int .i64 b, .int .i64 m]
      have p0 := e3.cell 0
      have p1 := e3.cell 1
      have p2 := e3.cell 2
      have O1 := Lib.hid (HO.out.alloc (.cells #[.int .i64 a, .int .i64 b, .int .i64 m] 73))
      have G1 := Lib.hid (HGr.out.alloc (.cells #[.int .i64 a, .int .i64 b, .int .i64 m] 73))
      have B1 := Lib.hid (HB.out.alloc HB.out.size (.cells #[.int .i64 a, .int .i64 b, .int .i64 m] 73))
      have HKS := Lib.hid (kickL_snoc hx q cs)
      clear hx e3
      by_cases hab : a = b
      · subst hab
        have hks : kickL (es.take (k + 1)) q cs = kickL (es.take k) q cs := by rw [HKS.out]; unfold kickS; simp
        have HK := Lib.hid hks
        clear hks
        go_wp2
        go_roundw
        case rel => exact ⟨k + 1, by go_num, by omega, by rw [HK.out]; exact O1, G1, B1⟩
        case measure => simp [intOf]; omega
      · have n1 : ((a : Int) == (b : Int)) = false := by simp; omega
        by_cases haq : a = q
        · have haq2 := haq.symm
          subst haq2
          obtain ⟨z, hzc⟩ := get_of_lt (xs := kickL (es.take k) q cs) (k := b) (by rw [HKL.out]; omega)
          have hzb := HKB.out k b (by omega)
          rw [getD_at hzc] at hzb
          have hw1 : IntKind.i64.wrap (z + (m : Int)) = z + m := IntWalk.i64_in _ (by omega)
          have hks : (kickL (es.take k) q cs).set b (z + m) = kickL (es.take (k + 1)) q cs := by
            rw [HKS.out]; unfold kickS addAt; simp only [Int.toNat_natCast, getD_at hzc]; simp; omega
          obtain ⟨g', hg', _, hfz, hcz⟩ := O1.out.block (by rw [HKL.out]; omega)
          injection hg' with hg'
          injection hg' with hg'
          subst hg'
          have k0 := hcz b z hzc
          have f0 := hfz b
          have hii : ((b : Nat) : Int) < (n : Int) := by omega
          have O2 := O1.out.put b (z + m)
          rw [hks] at O2
          have G2 := G1.out.far (p := ⟨g2, b, none⟩) (by show w.heap.size ≠ g2; omega) (.int .i64 (z + m))
          have B2 := B1.out.setCell (p := ⟨g2, b, none⟩) (by show w.heap.size ≤ g2; omega) (.int .i64 (z + m))
          have HO2 := Lib.hid O2
          have HG2 := Lib.hid G2
          have HB2 := Lib.hid B2
          clear O2 G2 B2 hks hzc hzb hfz hcz
          go_wp2_with fail
          refine region_tail 9 (by kernel_rfl) (by kernel_rfl) ?_
          simp only [List.take_succ_cons, List.take_zero, List.drop_succ_cons, List.drop_zero]
          repeat still_step
          refine wpStill_nil ?_
          go_wp2
          go_roundw
          case rel => exact ⟨k + 1, by go_num, by omega, own_kept HO2.out (fun _ _ => rfl), HG2.out, ⟨HB2.out.os, HB2.out.tape, HB2.out.output, HB2.out.size, HB2.out.block⟩⟩
          case measure => simp [intOf]; omega
        · have n2 : ((a : Int) == (q : Int)) = false := by simp; omega
          by_cases hbq : b = q
          · have hbq2 := hbq.symm
            subst hbq2
            obtain ⟨z, hzc⟩ := get_of_lt (xs := kickL (es.take k) q cs) (k := a) (by rw [HKL.out]; omega)
            have hzb := HKB.out k a (by omega)
            rw [getD_at hzc] at hzb
            have hw1 : IntKind.i64.wrap (z + (m : Int)) = z + m := IntWalk.i64_in _ (by omega)
            have hks : (kickL (es.take k) q cs).set a (z + m) = kickL (es.take (k + 1)) q cs := by
              rw [HKS.out]; unfold kickS addAt; simp only [Int.toNat_natCast, getD_at hzc]; rw [if_neg (show ¬ (a : Int) = (q : Int) by omega), if_neg (show ¬ (a : Int) = (q : Int) by omega), if_pos trivial]
            obtain ⟨g', hg', _, hfz, hcz⟩ := O1.out.block (by rw [HKL.out]; omega)
            injection hg' with hg'
            injection hg' with hg'
            subst hg'
            have k0 := hcz a z hzc
            have f0 := hfz a
            have hii : ((a : Nat) : Int) < (n : Int) := by omega
            have O2 := O1.out.put a (z + m)
            rw [hks] at O2
            have G2 := G1.out.far (p := ⟨g2, a, none⟩) (by show w.heap.size ≠ g2; omega) (.int .i64 (z + m))
            have B2 := B1.out.setCell (p := ⟨g2, a, none⟩) (by show w.heap.size ≤ g2; omega) (.int .i64 (z + m))
            have HO2 := Lib.hid O2
            have HG2 := Lib.hid G2
            have HB2 := Lib.hid B2
            clear O2 G2 B2 hks hzc hzb hfz hcz
            go_wp2_with fail
            refine region_tail 9 (by kernel_rfl) (by kernel_rfl) ?_
            simp only [List.take_succ_cons, List.take_zero, List.drop_succ_cons, List.drop_zero]
            repeat still_step
            refine wpStill_nil ?_
            go_wp2
            go_roundw
            case rel => exact ⟨k + 1, by go_num, by omega, own_kept HO2.out (fun _ _ => rfl), HG2.out, ⟨HB2.out.os, HB2.out.tape, HB2.out.output, HB2.out.size, HB2.out.block⟩⟩
            case measure => simp [intOf]; omega
          · have n3 : ((b : Int) == (q : Int)) = false := by simp; omega
            have hks : kickL (es.take (k + 1)) q cs = kickL (es.take k) q cs := by rw [HKS.out]; unfold kickS; dsimp only; rw [if_neg (by omega), if_neg (by omega), if_neg (by omega)]
            have HK := Lib.hid hks
            clear hks
            go_wp2
            go_roundw
            case rel => exact ⟨k + 1, by go_num, by omega, by rw [HK.out]; exact O1, G1, B1⟩
            case measure => simp [intOf]; omega
    · obtain rfl : k = es.length := by omega
      have d0 := HGr.out.cell 0
      have d1 := HGr.out.cell 1
      have R3 := HO.out.reads
      rw [HKL.out, List.take_length] at R3
      have SR3 := Lib.hid (SR.out _ c2 _ HB.out R3)
      have hB := HB.out
      clear R3
      go_wp2_with fail
      refine (SR3.out).mono ?_
      rintro e w4 ⟨ds, ss, er, A1, c1, A4, c4, hE, rfl, o4, r4, hb4⟩
      go_wp2
      go_ret3
      exact ⟨ds, ss, er, A1, c1, A4, c4, hE, rfl, o4.mono hB.size, r4, hB.trans (hb4.mono hB.size)⟩

set_option maxHeartbeats 2000000 in
theorem kick_any (n : Int) (A : Option Addr) (c : Nat) (es : List E3) (hlen : es.length ≤ 10000) (q : Int) (B : Option Addr) (cB : Nat) (cs : List Int) (hm : cs.length ≤ 1048000) (w : World)
    (h : Reads w w.heap.size 3 A es.length (edgeCells es)) (h' : Reads w w.heap.size 1 B cs.length (ints cs)) :
    Calls Tryz.prog 10 #[.agg #[.int .i64 n, .slice A es.length c], .int .i64 q, .slice B cs.length cB] w fun e w' => ∃ ds ss er A1 c1 A2 c2, KickE n es q cs ds ss er ∧ e = .returned (.tuple #[.slice A1 ds.length c1, .slice A2 ss.length c2, .int .i64 er]) ∧
      OwnI w' w.heap.size A1 c1 ds ∧ Reads w' w'.heap.size 1 A2 ss.length (ints ss) ∧ Below w.heap.size w w' := by
  by_cases hz : burnErr n es q cs = 0
  · obtain ⟨hG, _, hq0, hqn, _⟩ := conf_zero (burn_zero hz).1
    have hlo := hG.lo
    obtain ⟨m, rfl⟩ := Int.eq_ofNat_of_zero_le (show 0 ≤ n by omega)
    obtain ⟨p, rfl⟩ := Int.eq_ofNat_of_zero_le hq0
    refine (kick_ok m A c es hlen p B cB cs hz w h h').mono ?_
    rintro e w' ⟨ds, ss, er, A1, c1, A2, c2, hE, he, ho, hr, hb⟩
    refine ⟨ds, ss, er, A1, c1, A2, c2, ?_, he, ho, hr, hb⟩
    unfold KickE
    rw [if_neg (fun hh => hh hz)]
    simpa using hE
  · have BC := Lib.hid (reccheck_any n A c es (by omega) q B cB cs (by omega))
    obtain ⟨z, hzz⟩ : ∃ z, burnErr n es q cs = z := ⟨_, rfl⟩
    have HE : Hid (KickE n es q cs [] [] z) := by unfold Hid KickE; rw [if_pos hz]; exact ⟨rfl, rfl, hzz.symm⟩
    rw [hzz] at BC hz
    have hb2 : (z != 0) = true := by simpa using hz
    clear hz hzz
    go_enter Tryz.func10, Tryz.ntmps10
    go_wp2_with fail
    refine (BC.out _ ((h.alloc (Nat.le_refl _) _).more (by simp)) ((h'.alloc (Nat.le_refl _) _).more (by simp))).mono ?_
    rintro e w1 ⟨rfl, hb1⟩
    have hB1 : Below w.heap.size w w1 := ((Below.refl _ _).alloc (Nat.le_refl _) _).trans (hb1.mono (by simp))
    clear hb1
    go_wp2
    go_ret3
    exact ⟨[], [], z, none, 0, none, 0, HE.out, rfl, OwnI.nil_ _ _, Reads.nil_, hB1⟩
end Go.Proofs.YtplgbapbgcipdaaGreat

/-! ref24.Worst: the greatest forbidden set; ref24.Is: is a configuration recurrent? -/
namespace Go.Proofs.YtplgbapbgcipdaaGreat
open Go.RowKit

end Go.Proofs.YtplgbapbgcipdaaGreat

