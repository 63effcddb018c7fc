/-
  Texts of this claim, put together: RNext24.
-/
import Derived.Test.YtplgbapbgcipdaaGreatK28
import Derived.Test.YtplgbapbgcipdaaGreatK19
import Derived.Test.YtplgbapbgcipdaaGreatK13
import Derived.Test.YtplgbapbgcipdaaGreatK27
import Derived.Test.YtplgbapbgcipdaaGreatK23
/-! ref19.ended and Stabilize; ref24.settled, Next and Kick. -/
namespace Go.Proofs.YtplgbapbgcipdaaGreat
open Go.RowKit

/-- What ended returns. -/
def endI (z : Int) (over : Bool) : Int := if over then 12 else if chipB z then 0 else 11
set_option maxRecDepth 100000 in
set_option maxHeartbeats 2000000 in
theorem ended19_any (n q gl cl gt lm cM : Nat) (AM : Option Addr) (left : List Int) (size : Int) (over : Bool) (hq : q < n) (z : Int) (hz : left[q]? = some z) (w : World) (h : Reads w w.heap.size 1 (some ⟨gl, 0, none⟩) n (ints left)) :
    Calls Tryz.prog 110 #[.agg #[.slice (some ⟨gl, 0, none⟩) n cl, .slice (some ⟨gt, 0, none⟩) n n, .slice AM lm cM, .int .i64 size, .bool over], .int .i64 q] w fun e w' => e = .returned (.int .i64 (endI z over)) ∧ Below w.heap.size w w' := by
  have B0 : Below w.heap.size w (w.alloc (.cells #[.slice (some ⟨gl, 0, none⟩) n cl, .slice (some ⟨gt, 0, none⟩) n n, .slice AM lm cM, .int .i64 size, .bool over] 149)) := (Below.refl _ _).alloc (Nat.le_refl _) _
  have g0 := Blk.new w 149 #[.slice (some ⟨gl, 0, none⟩) n cl, .slice (some ⟨gt, 0, none⟩) n n, .slice AM lm cM, .int .i64 size, .bool over]
  have c4 := g0.cell 4
  have c0 := g0.cell 0
  obtain ⟨b, off, hA, hb, hc⟩ := (h.below B0).at_ (ints_at hz)
  injection hA with hA
  injection hA with hb' ho'
  subst hb' ho'
  rw [Nat.zero_add] at hc
  have hqi : (q : Int) < (n : Int) := by omega
  cases over
  · have IC := Lib.hid (fun w => rin_any z w)
    cases hcb : chipB z
    · rw [hcb] at IC
      have HE : endI z false = 11 := by unfold endI; rw [hcb]; rfl
      rw [HE]
      clear HE hcb h hz
      go_enter Tryz.func110, Tryz.ntmps110
      go_wp2_with fail
      refine (IC.out _).mono ?_
      rintro e w1 ⟨rfl, rfl⟩
      go_wp2
      go_ret
      exact ⟨rfl, B0⟩
    · rw [hcb] at IC
      have HE : endI z false = 0 := by unfold endI; rw [hcb]; rfl
      rw [HE]
      clear HE hcb h hz
      go_enter Tryz.func110, Tryz.ntmps110
      go_wp2_with fail
      refine (IC.out _).mono ?_
      rintro e w1 ⟨rfl, rfl⟩
      go_wp2
      go_ret
      exact ⟨rfl, B0⟩
  · have HE : endI z true = 12 := rfl
    rw [HE]
    clear HE h hz
    go_enter Tryz.func110, Tryz.ntmps110
    go_wp2
    go_ret
    exact ⟨rfl, B0⟩
theorem sargs_of {n q : Nat} {es : List E3} {d : List Int} (hlen : es.length ≤ 10000) (hz : confErr n es q d = 0) : SArgs n q es d := by
  obtain ⟨hG, hC, _, hqn, hl, hb, h0⟩ := conf_zero hz
  have hck : checkG n es = 0 := by
    rcases conf_cases n es q d with ⟨h1, hE⟩ | ⟨h1, h2, hE⟩ | ⟨h1, h2, hE⟩
    · exact absurd (hE ▸ hz) h1
    · exact absurd (hE ▸ hz) h2
    · exact (root_zero h1).1
  refine ⟨hlen, hck, by simpa using hC, by omega, by omega, fun v hv => ?_, fun v hv hvq => h0 v (by omega) (by omega)⟩
  obtain ⟨x, hx⟩ := get_of_lt (xs := d) (k := v) (by omega)
  rw [getD_at hx]
  exact hb x (List.mem_of_getElem? hx)
/-- What comes of a stabilization that has ended. -/
theorem fall_out {n q : Nat} {es : List E3} {d left times : List Int} {over : Bool} (hS : SArgs n q es d) (h : FallEnd es n q d left times over) {z : Int} (hz : left[q]? = some z) :
    ∃ r, StabR es n q d r ∧ stabOut q r = if over then ([], [], 12) else if chipB z then (left, times, 0) else ([], [], 11) := by
  have hG := right_of hS.hz
  have htt : ∀ a b, 0 ≤ tt es a b := fun a b => (tt_bd hG.ok a b).1
  cases over
  · obtain ⟨l, h1, h2, h3, h4, h5⟩ := h
    refine ⟨some (left, times), ⟨l, h1, h2, h3, h4, h5⟩, ?_⟩
    have hb := (h1.bound htt (M := 1048576) (by omega) hS.d0 hS.db q hS.hq).1
    rw [← h4, getD_at hz] at hb
    unfold stabOut
    simp only [Bool.false_eq_true, if_false]
    rw [getD_at hz]
    by_cases hc : 1048576 < z
    · rw [if_pos hc, if_neg (by rw [chipB_true]; omega)]
    · rw [if_neg hc, if_pos (by rw [chipB_true]; omega)]
  · obtain ⟨l, h1, h2⟩ := h
    exact ⟨none, ⟨l, h1, h2⟩, rfl⟩
set_option maxRecDepth 100000 in
set_option maxHeartbeats 8000000 in
theorem rstab19_ok (n : Nat) (A : Option Addr) (c : Nat) (es : List E3) (hlen : es.length ≤ 10000) (q : Nat) (B : Option Addr) (cB : Nat) (d : List Int) (hz : confErr n es q d = 0) (w : World)
    (h : Reads w w.heap.size 3 A es.length (edgeCells es)) (h' : Reads w w.heap.size 1 B n (ints d)) :
    Calls Tryz.prog 73 #[.agg #[.int .i64 n, .slice A es.length c], .int .i64 q, .slice B n cB] w fun e w' => ∃ r A1 c1 A2 c2, StabR es n q d r ∧ e = .returned (.tuple #[.slice A1 (stabOut q r).1.length c1, .slice A2 (stabOut q r).2.1.length c2, .int .i64 (stabOut q r).2.2]) ∧
      Reads w' w'.heap.size 1 A1 (stabOut q r).1.length (ints (stabOut q r).1) ∧ Reads w' w'.heap.size 1 A2 (stabOut q r).2.1.length (ints (stabOut q r).2.1) ∧ Below w.heap.size w w' := by
  have hS := sargs_of hlen hz
  have hn12 : n ≤ 12 := by have := (right_of hS.hz).hi; omega
  have CK := Lib.hid (fun (W : World) (hB : Below w.heap.size w W) => by have := rscheck_any n A c es (by omega) q B cB d (by have := hS.dl; omega) W ((h.below hB).more hB.size) (by rw [hS.dl]; exact (h'.below hB).more hB.size); rw [hS.dl, hz] at this; exact this)
  have FA := Lib.hid (fun (W : World) (hB : Below w.heap.size w W) => fallen_any n q es d hS A c B cB W ((h.below hB).more hB.size) ((h'.below hB).more hB.size))
  have HFO := Lib.hid (fun (left times : List Int) over (h : FallEnd es n q d left times over) z (hz : left[q]? = some z) => fall_out hS h hz)
  have hqn := hS.hq
  have g0 := Blk.new w 24 #[.int .i64 n, .slice A es.length c]
  have B0 : Below w.heap.size w (w.alloc (.cells #[.int .i64 n, .slice A es.length c] 24)) := (Below.refl _ _).alloc (Nat.le_refl _) _
  have c0 := g0.cell 0
  have c1 := g0.cell 1
  clear hz hS
  go_enter Tryz.func73, Tryz.ntmps73
  go_wp2_with fail
  refine (CK.out _ B0).mono ?_
  rintro e w1 ⟨rfl, hb1⟩
  have hB1 := B0.trans (hb1.mono B0.size)
  have g1 := g0.next hb1
  have c0 := g1.cell 0
  have c1 := g1.cell 1
  clear g0 hb1
  go_wp2_with fail
  refine (FA.out _ hB1).mono ?_
  rintro e w2 ⟨left, times, size, over, gl, cl, gt, AM, cM, lm, HFE, hll, rfl, rl, rt, hb2⟩
  obtain ⟨z, hzz⟩ := get_of_lt (xs := left) (k := q) (by omega)
  obtain ⟨r, hr, ho⟩ := HFO.out left times over HFE z hzz
  have hB2 := hB1.trans (hb2.mono hB1.size)
  have B3 : Below w.heap.size w (w2.alloc (.cells #[.slice (some ⟨gl, 0, none⟩) n cl, .slice (some ⟨gt, 0, none⟩) n n, .slice AM lm cM, .int .i64 size, .bool over] 149)) := hB2.alloc hB2.size _
  have g3 := Blk.new w2 149 #[.slice (some ⟨gl, 0, none⟩) n cl, .slice (some ⟨gt, 0, none⟩) n n, .slice AM lm cM, .int .i64 size, .bool over]
  have bn3 : Below w2.heap.size w2 (w2.alloc (.cells #[.slice (some ⟨gl, 0, none⟩) n cl, .slice (some ⟨gt, 0, none⟩) n n, .slice AM lm cM, .int .i64 size, .bool over] 149)) := (Below.refl _ _).alloc (Nat.le_refl _) _
  have EC := Lib.hid (ended19_any n q gl cl gt lm cM AM left size over hqn z hzz _ (rl.next bn3))
  have RL3 := Lib.hid (rl.next bn3)
  have RT3 := Lib.hid (rt.next bn3)
  have HR := Lib.hid hr
  have HO := Lib.hid ho
  have HLL := Lib.hid hll
  have HTL : Hid (over = false → times.length = n) := by
    intro hov
    subst hov
    obtain ⟨l, _, _, _, _, h5⟩ := HFE
    rw [h5, cntD_length]
  have hnn : Hid (left.length = n) := hll
  clear HFE hll rl rt hb2 hr ho hzz c0 c1 g1 FA CK hqn
  have d0 := g3.cell 0
  have d1 := g3.cell 1
  have d2 := g3.cell 2
  have d3 := g3.cell 3
  have d4 := g3.cell 4
  go_wp2_with fail
  refine (EC.out).mono ?_
  rintro e w4 ⟨rfl, hb4⟩
  have g4 := g3.next hb4
  have B4 := Lib.hid (B3.trans (hb4.mono B3.size))
  have RL4 := Lib.hid (RL3.out.next hb4)
  have RT4 := Lib.hid (RT3.out.next hb4)
  have e0 := g4.cell 0
  have e1 := g4.cell 1
  clear hb4 g3 d0 d1 d2 d3 d4 bn3 EC
  cases over
  · cases hcb : chipB z
    · have hE : endI z false = 11 := by unfold endI; rw [hcb]; rfl
      rw [hE]
      have ho2 := HO.out
      rw [hcb] at ho2
      have ho3 : Hid (stabOut q r = ([], [], 11)) := ho2
      clear ho2 hcb hE HO e0 e1
      go_wp2
      go_ret3
      exact ⟨r, none, 0, none, 0, HR.out, by rw [ho3.out]; rfl, by rw [ho3.out]; exact Reads.nil_, by rw [ho3.out]; exact Reads.nil_, B4.out⟩
    · have hE : endI z false = 0 := by unfold endI; rw [hcb]; rfl
      rw [hE]
      have ho2 := HO.out
      rw [hcb] at ho2
      have ho3 : Hid (stabOut q r = (left, times, 0)) := ho2
      have htl : Hid (times.length = n) := HTL.out rfl
      clear ho2 hcb hE HO
      go_wp2
      go_quiet (fail)
      go_wp2
      go_ret3
      exact ⟨r, some ⟨gl, 0, none⟩, cl, some ⟨gt, 0, none⟩, n, HR.out, by rw [ho3.out]; dsimp only; rw [hnn.out, htl.out]; rfl, by rw [ho3.out]; dsimp only; rw [hnn.out]; exact RL4.out, by rw [ho3.out]; dsimp only; rw [htl.out]; exact RT4.out, below_drewN B4.out _⟩
  · have hE : endI z true = 12 := rfl
    rw [hE]
    have ho3 : Hid (stabOut q r = ([], [], 12)) := HO.out
    clear hE HO e0 e1
    go_wp2
    go_ret3
    exact ⟨r, none, 0, none, 0, HR.out, by rw [ho3.out]; rfl, by rw [ho3.out]; exact Reads.nil_, by rw [ho3.out]; exact Reads.nil_, B4.out⟩
set_option maxRecDepth 100000 in
set_option maxHeartbeats 8000000 in
theorem rsettled24_any (n : Nat) (A : Option Addr) (c : Nat) (es : List E3) (hlen : es.length ≤ 10000) (q : Nat) (hx : rootErr n es q = 0) (B : Option Addr) (cB : Nat) (d : List Int) (hd : d.length = n) (hlo : ∀ x ∈ d, -1048576 ≤ x) (h0 : ∀ v, v < n → v ≠ q → 0 ≤ d.getD v 0) (w : World)
    (h : Reads w w.heap.size 3 A es.length (edgeCells es)) (h' : Reads w w.heap.size 1 B n (ints d)) :
    Calls Tryz.prog 40 #[.agg #[.int .i64 n, .slice A es.length c], .int .i64 q, .slice B n cB] w fun e w' => ∃ ds ss er A1 c1 A2 c2, SetE n es q d ds ss er ∧ e = .returned (.tuple #[.slice A1 ds.length c1, .slice A2 ss.length c2, .int .i64 er]) ∧
      OwnI w' w.heap.size A1 c1 ds ∧ Reads w' w'.heap.size 1 A2 ss.length (ints ss) ∧ Below w.heap.size w w' := by
  obtain ⟨_, hG, _, hq⟩ := root_zero hx
  have hn12 : n ≤ 12 := by have := hG.hi; omega
  have hn1 : 1 ≤ n := by have := hG.lo; omega
  have DK := Lib.hid (fun (W : World) (hr : Reads W W.heap.size 1 B n (ints d)) => by have := rdcheck_any B cB d (by omega) n W (by rw [hd]; exact hr); rw [hd] at this; exact this)
  have ST := Lib.hid (fun (hhi : ∀ x ∈ d, x ≤ 1048576) (W : World) (hB : Below w.heap.size w W) => rstab19_ok n A c es hlen q B cB d (conf_of hx hd hlo hhi h0) W ((h.below hB).more hB.size) ((h'.below hB).more hB.size))
  have WC := Lib.hid (fun (A' : Option Addr) (c' : Nat) (ys : List Int) (hl : ys.length = n) (W : World) (hr : Reads W W.heap.size 1 A' ys.length (ints ys)) => without_any A' c' ys (by omega) q (by omega) W hr)
  have HD := Lib.hid hd
  have g0 := Blk.new w 24 #[.int .i64 n, .slice A es.length c]
  have B0 : Below w.heap.size w (w.alloc (.cells #[.int .i64 n, .slice A es.length c] 24)) := (Below.refl _ _).alloc (Nat.le_refl _) _
  have c0 := g0.cell 0
  have c1 := g0.cell 1
  have hqi : (q : Int) < (n : Int) := by omega
  by_cases hbig : ∀ x ∈ d, x ≤ 1048576
  · have hdk : divErr d n = 0 := by
      unfold divErr
      rw [if_neg (by omega), if_neg (by omega), if_pos]
      rw [List.all_eq_true]
      intro x hxm
      rw [chipB_true]
      exact ⟨hlo x hxm, hbig x hxm⟩
    rw [hdk] at DK
    have ST2 := Lib.hid (fun W hB => ST.out hbig W hB)
    have HALL := Lib.hid hbig
    clear hx hG hd hlo h0 hbig hdk ST
    go_enter Tryz.func40, Tryz.ntmps40
    go_wp2_with fail
    refine (DK.out _ ((h'.below B0).more B0.size)).mono ?_
    rintro e w1 ⟨rfl, rfl⟩
    go_wp2_with fail
    refine (ST2.out _ B0).mono ?_
    rintro e w2 ⟨r, A1, c1, A2, c2, hr, rfl, r1, r2, hb2⟩
    have hB2 := B0.trans (hb2.mono B0.size)
    have HS : Hid (SetE n es q d (setOut q r).1 (setOut q r).2.1 (setOut q r).2.2) := by
      unfold Hid SetE
      rw [if_pos HALL.out]
      exact ⟨r, hr, rfl⟩
    rcases stabOut_len HD.out hr with ⟨e1, e2, e3⟩ | ⟨e1, e2⟩
    · obtain ⟨o1, ho1⟩ : ∃ o1, (stabOut q r).1 = o1 := ⟨_, rfl⟩
      obtain ⟨o2, ho2⟩ : ∃ o2, (stabOut q r).2.1 = o2 := ⟨_, rfl⟩
      have HSO : Hid (setOut q r = (o1.set q 0, o2, 0)) := by unfold Hid setOut; rw [ho1, ho2, e1]
      rw [HSO.out] at HS
      rw [ho1] at r1 e2 ⊢
      rw [ho2] at r2 e3 ⊢
      rw [e1]
      have WC2 := Lib.hid (WC.out A1 c1 o1 (by omega) w2 r1)
      have HE2 := Lib.hid e2
      have R2 := Lib.hid r2
      clear e1 e2 e3 ho1 ho2 hr r1 r2
      go_wp2_with fail
      refine (WC2.out).mono ?_
      rintro e w3 ⟨g3, c3, rfl, o3, hb3⟩
      have B4 := Lib.hid (hB2.trans (hb3.mono hB2.size))
      have R4 := Lib.hid (R2.out.next hb3)
      have O3 := Lib.hid (o3.mono hB2.size)
      clear o3 hb3
      go_wp2
      go_ret3
      exact ⟨_, _, _, some ⟨g3, 0, none⟩, c3, A2, c2, HS.out, by rw [List.length_set]; rfl, O3.out, R4.out, B4.out⟩
    · obtain ⟨ev, hev⟩ : ∃ ev, (stabOut q r).2.2 = ev := ⟨_, rfl⟩
      rw [hev] at e1 e2
      have HSO : Hid (setOut q r = ([], [], ev)) := by unfold Hid setOut; rw [e2]; rfl
      rw [HSO.out] at HS
      rw [e2]
      have hne : (ev != 0) = true := by simpa using e1
      clear e1 e2 hev r1 r2 hr
      go_wp2
      go_ret3
      exact ⟨[], [], ev, none, 0, none, 0, HS.out, rfl, OwnI.nil_ _ _, Reads.nil_, hB2⟩
  · have hdk : divErr d n = 2 := by
      unfold divErr
      rw [if_neg (by omega), if_neg (by omega), if_neg]
      intro hc
      rw [List.all_eq_true] at hc
      exact hbig fun x hxm => (chipB_true.1 (hc x hxm)).2
    rw [hdk] at DK
    have HS : Hid (SetE n es q d [] [] 11) := by
      unfold Hid SetE
      rw [if_neg hbig]
      exact ⟨rfl, rfl, rfl⟩
    clear hx hG hd hlo h0 hbig hdk ST
    go_enter Tryz.func40, Tryz.ntmps40
    go_wp2_with fail
    refine (DK.out _ ((h'.below B0).more B0.size)).mono ?_
    rintro e w1 ⟨rfl, rfl⟩
    go_wp2
    go_ret3
    exact ⟨[], [], 11, none, 0, none, 0, HS.out, rfl, OwnI.nil_ _ _, Reads.nil_, B0⟩

set_option maxRecDepth 100000 in
set_option maxHeartbeats 8000000 in
theorem rnext24_ok (n : Nat) (A : Option Addr) (c : Nat) (es : List E3) (hlen : es.length ≤ 10000) (q : Nat) (B : Option Addr) (cB : Nat) (cs : List Int) (hz : burnErr n es q cs = 0) (v : Nat) (hv : v < n) (hvq : v ≠ q) (w : World)
    (h : Reads w w.heap.size 3 A es.length (edgeCells es)) (h' : Reads w w.heap.size 1 B cs.length (ints cs)) :
    Calls Tryz.prog 9 #[.agg #[.int .i64 n, .slice A es.length c], .int .i64 q, .slice B cs.length cB, .int .i64 v] w fun e w' => ∃ ds ss er A1 c1, SetE n es q (addAt cs v 1) ds ss er ∧ e = .returned (.tuple #[.slice A1 ds.length c1, .int .i64 er]) ∧
      OwnI w' w.heap.size A1 c1 ds ∧ Below w.heap.size w w' := by
  obtain ⟨hR, hq, hcl⟩ := burn_rargs hlen hz
  obtain ⟨_, _, _, _, _, hcb, hnn⟩ := conf_zero (burn_zero hz).1
  have hn12 : n ≤ 12 := by have := (right_of hR.hz).hi; omega
  have BC := Lib.hid (rbcheck_any n A c es (by omega) q B cB cs (by omega))
  rw [hz] at BC
  rw [hcl] at h' BC ⊢
  have SR := Lib.hid (fun (A' : Option Addr) (c' : Nat) (W : World) (hB : Below w.heap.size w W) (hr : Reads W W.heap.size 1 A' n (ints (addAt cs v 1))) => rsettled24_any n A c es hlen q (burn_root hz) A' c' (addAt cs v 1) (by rw [addAt_length]; exact hcl)
    (fun x hx => by
      unfold addAt at hx
      rcases List.mem_or_eq_of_mem_set hx with hx | rfl
      · exact (hcb x hx).1
      · obtain ⟨y, hy⟩ := get_of_lt (xs := cs) (k := v) (by omega)
        have := hcb y (List.mem_of_getElem? hy)
        rw [getD_at hy]; omega)
    (fun u hu huq => by
      rw [addAt_getD _ _ _ (by omega)]
      have := hnn u (by omega) (by omega)
      split <;> omega) W ((h.below hB).more hB.size) hr)
  obtain ⟨x, hx⟩ := get_of_lt (xs := cs) (k := v) (by omega)
  have hxb := hcb x (List.mem_of_getElem? hx)
  have hw1 : IntKind.i64.wrap (x + 1) = x + 1 := IntWalk.i64_in _ (by omega)
  have hset : cs.set v (x + 1) = addAt cs v 1 := by unfold addAt; rw [getD_at hx]
  have HSET := Lib.hid hset
  have HX := Lib.hid hx
  have HCL := Lib.hid hcl
  have g0 := Blk.new w 24 #[.int .i64 n, .slice A es.length c]
  have hvi : (v : Int) < (n : Int) := by omega
  have hvb : vertB n v = true := vertB_true.2 (by omega)
  have hvq1 : ((v : Int) == (q : Int)) = false := by simp; omega
  have VC := Lib.hid (fun w => rvertex_any n v A es.length c w)
  rw [hvb] at VC
  clear hR hz hcl hnn hcb hx hset hxb hvb
  go_enter Tryz.func9, Tryz.ntmps9
  go_wp2_with fail
  refine (BC.out _ ((h.alloc (Nat.le_refl _) _).more (by simp)) ((h'.alloc (Nat.le_refl _) _).more (by simp))).mono ?_
  rintro e w1 ⟨rfl, hb1⟩
  have hB1 : Below w.heap.size w w1 := ((Below.refl _ _).alloc (Nat.le_refl _) _).trans (hb1.mono (by simp))
  have g1 := g0.next hb1
  have c0 := g1.cell 0
  have c1 := g1.cell 1
  clear g0 hb1
  go_wp2_with fail
  refine (VC.out _).mono ?_
  rintro e w2 ⟨rfl, hw2⟩
  have hb2 : Below w1.heap.size w1 w2 := by rw [← hw2]; exact (Below.refl _ _).alloc (Nat.le_refl _) _
  have hB2 := hB1.trans (hb2.mono hB1.size)
  have g2 := g1.next hb2
  have hsz2 := hB2.size
  clear hw2 hb2 hB1 g1 c0 c1
  have OX : (w2.alloc (.cells #[] 3)).ownsRow w2.heap.size 3 1 (.slice (some ⟨w2.heap.size, 0, none⟩) 0 0) 0 [] := World.ownsRow_made w2 #[] 0 (Nat.le_refl _) (by simp [maxLen]) (by simp)
  have RD := ((h'.below hB2).more hsz2).alloc (Nat.le_refl _) (.cells #[] 3)
  go_wp2_with (first
    | (at_builtin
       refine append_go rfl (.tmp 31) (.tmp 32) _ rfl w2.heap.size 3 Tryz.underlying26 info_int rfl (by omega) (some ⟨w2.heap.size, 0, none⟩) 0 0 [] rfl OX w2.heap.size (ints cs) rfl RD (by simp [ints, Value.oneCell']) (by omega) (by simp) ?_
       intro A4 c4 w4 hown4 _ hb4 _
       rw [Nat.zero_add, List.nil_append] at hown4
       rw [Nat.zero_add]
       have o4 : OwnI w4 w2.heap.size A4 c4 cs := by unfold OwnI; rw [HCL.out]; exact hown4
       obtain ⟨g, rfl, hg, hf, hc⟩ := o4.block (by rw [HCL.out]; omega)
       have hf := hf v
       have hc := hc v x HX.out
       have hbw : Below w2.heap.size w2 w4 := ((Below.refl w2.heap.size w2).alloc (Nat.le_refl _) (.cells #[] 3)).trans hb4
       have o5 := o4.put v (x + 1)
       have g4 := (g2.next hbw).far (p := ⟨g, v, none⟩) (by have := g2.lt; show w.heap.size ≠ g; omega) (.int .i64 (x + 1))
       have k0 := g4.cell 0
       have k1 := g4.cell 1
       have B4 := hB2.trans (hbw.mono hsz2)
       have B5 := Lib.hid (B4.setCell (p := ⟨g, v, none⟩) (show w.heap.size ≤ g by omega) (.int .i64 (x + 1)))
       have R5 := o5.reads
       rw [HSET.out, addAt_length, HCL.out] at R5
       replace R5 := Lib.hid R5)
    | fail)
  refine (SR.out _ _ _ B5.out R5.out).mono ?_
  rintro e w6 ⟨ds, ss, er, A1, c1, A4, c4, hE, rfl, o6, r6, hb6⟩
  go_wp2
  go_ret2
  exact ⟨ds, ss, er, A1, c1, hE, rfl, o6.mono B5.out.size, B5.out.trans (hb6.mono B5.out.size)⟩
set_option maxRecDepth 100000 in
set_option maxHeartbeats 8000000 in
theorem rnext24_any (n : Int) (A : Option Addr) (c : Nat) (es : List E3) (hlen : es.length ≤ 10000) (q : Int) (B : Option Addr) (cB : Nat) (cs : List Int) (hm : cs.length ≤ 1048000) (v : Int) (w : World)
    (h : Reads w w.heap.size 3 A es.length (edgeCells es)) (h' : Reads w w.heap.size 1 B cs.length (ints cs)) :
    Calls Tryz.prog 9 #[.agg #[.int .i64 n, .slice A es.length c], .int .i64 q, .slice B cs.length cB, .int .i64 v] w fun e w' => ∃ ds er A1 c1, NextE n es q cs v ds er ∧ e = .returned (.tuple #[.slice A1 ds.length c1, .int .i64 er]) ∧
      OwnI w' w.heap.size A1 c1 ds ∧ Below w.heap.size w w' := by
  have BC := Lib.hid (rbcheck_any n A c es (by omega) q B cB cs (by omega))
  have g0 := Blk.new w 24 #[.int .i64 n, .slice A es.length c]
  by_cases hz : burnErr n es q cs = 0
  · by_cases hb : v < 0 ∨ n ≤ v ∨ v = q
    · have HE : Hid (NextE n es q cs v [] 2) := by unfold Hid NextE; rw [if_neg (fun hh => hh hz), if_pos hb]; exact ⟨rfl, rfl⟩
      rw [hz] at BC
      clear hz
      have VC := Lib.hid (fun w => rvertex_any n v A es.length c w)
      by_cases hvb : vertB n v = true
      · rw [hvb] at VC
        have hvq : v = q := by have := vertB_true.1 hvb; omega
        subst hvq
        clear hb hvb
        go_enter Tryz.func9, Tryz.ntmps9
        go_wp2_with fail
        refine (BC.out _ ((h.alloc (Nat.le_refl _) _).more (by simp)) ((h'.alloc (Nat.le_refl _) _).more (by simp))).mono ?_
        rintro e w1 ⟨rfl, hb1⟩
        have hB1 : Below w.heap.size w w1 := ((Below.refl _ _).alloc (Nat.le_refl _) _).trans (hb1.mono (by simp))
        have g1 := g0.next hb1
        have c0 := g1.cell 0
        have c1 := g1.cell 1
        clear g0 hb1
        go_wp2_with fail
        refine (VC.out _).mono ?_
        rintro e w2 ⟨rfl, hw2⟩
        have hB2 : Below w.heap.size w w2 := by rw [← hw2]; exact hB1.alloc hB1.size _
        go_wp2
        go_ret2
        exact ⟨[], 2, none, 0, HE.out, rfl, OwnI.nil_ _ _, hB2⟩
      · have hvb : vertB n v = false := by rw [← Bool.not_eq_true]; exact hvb
        rw [hvb] at VC
        clear hb hvb
        go_enter Tryz.func9, Tryz.ntmps9
        go_wp2_with fail
        refine (BC.out _ ((h.alloc (Nat.le_refl _) _).more (by simp)) ((h'.alloc (Nat.le_refl _) _).more (by simp))).mono ?_
        rintro e w1 ⟨rfl, hb1⟩
        have hB1 : Below w.heap.size w w1 := ((Below.refl _ _).alloc (Nat.le_refl _) _).trans (hb1.mono (by simp))
        have g1 := g0.next hb1
        have c0 := g1.cell 0
        have c1 := g1.cell 1
        clear g0 hb1
        go_wp2_with fail
        refine (VC.out _).mono ?_
        rintro e w2 ⟨rfl, hw2⟩
        have hB2 : Below w.heap.size w w2 := by rw [← hw2]; exact hB1.alloc hB1.size _
        go_wp2
        go_ret2
        exact ⟨[], 2, none, 0, HE.out, rfl, OwnI.nil_ _ _, hB2⟩
    · obtain ⟨hG, _, hq0, hqn, _⟩ := conf_zero (burn_zero hz).1
      have hlo := hG.lo
      obtain ⟨m, rfl⟩ := Int.eq_ofNat_of_zero_le (show 0 ≤ n by omega)
      obtain ⟨p, rfl⟩ := Int.eq_ofNat_of_zero_le hq0
      obtain ⟨u, rfl⟩ := Int.eq_ofNat_of_zero_le (show 0 ≤ v by omega)
      refine (rnext24_ok m A c es hlen p B cB cs hz u (by omega) (by omega) w h h').mono ?_
      rintro e w' ⟨ds, ss, er, A1, c1, hE, he, ho, hb⟩
      refine ⟨ds, er, A1, c1, ?_, he, ho, hb⟩
      unfold NextE
      rw [if_neg (fun hh => hh hz), if_neg (by omega)]
      exact ⟨ss, by simpa using hE⟩
  · obtain ⟨z, hzz⟩ : ∃ z, burnErr n es q cs = z := ⟨_, rfl⟩
    have HE : Hid (NextE n es q cs v [] z) := by unfold Hid NextE; rw [if_pos hz]; exact ⟨rfl, hzz.symm⟩
    rw [hzz] at BC hz
    have hb2 : (z != 0) = true := by simpa using hz
    clear hz hzz
    go_enter Tryz.func9, Tryz.ntmps9
    go_wp2_with fail
    refine (BC.out _ ((h.alloc (Nat.le_refl _) _).more (by simp)) ((h'.alloc (Nat.le_refl _) _).more (by simp))).mono ?_
    rintro e w1 ⟨rfl, hb1⟩
    have hB1 : Below w.heap.size w w1 := ((Below.refl _ _).alloc (Nat.le_refl _) _).trans (hb1.mono (by simp))
    clear g0 hb1
    go_wp2
    go_ret2
    exact ⟨[], z, none, 0, HE.out, rfl, OwnI.nil_ _ _, hB1⟩

/-- What Kick has at a step. -/
def kTo (es : List E3) (n q : Nat) (cs : List Int) (k : Nat) : List Int := (List.range n).map fun v : Nat => cs.getD v 0 + if v < k ∧ v ≠ q then btw es q v else 0
section
variable {es : List E3} {n q k : Nat} {cs : List Int}
theorem kTo_length : (kTo es n q cs k).length = n := by simp [kTo]
theorem kTo_at {v : Nat} (hv : v < n) : (kTo es n q cs k)[v]? = some (cs.getD v 0 + if v < k ∧ v ≠ q then btw es q v else 0) := by simp [kTo, hv]
theorem kTo_zero (hl : cs.length = n) : kTo es n q cs 0 = cs := by
  refine List.ext_getElem? fun v => ?_
  by_cases hv : v < n
  · obtain ⟨x, hx⟩ := get_of_lt (xs := cs) (k := v) (by omega)
    rw [kTo_at hv, hx, getD_at hx, if_neg (by omega), Int.add_zero]
  · rw [List.getElem?_eq_none (by rw [kTo_length]; omega), List.getElem?_eq_none (by omega)]
theorem kTo_succ (hk : k < n) (hkq : k ≠ q) : kTo es n q cs (k + 1) = (kTo es n q cs k).set k (cs.getD k 0 + btw es q k) := by
  refine List.ext_getElem? fun v => ?_
  by_cases hv : v < n
  · by_cases hvk : v = k
    · subst hvk
      rw [List.getElem?_set_self (by rw [kTo_length]; exact hv), kTo_at hv, if_pos (by omega)]
    · rw [List.getElem?_set_ne (Ne.symm hvk), kTo_at hv, kTo_at hv]
      congr 2
      have : (v < k + 1 ∧ v ≠ q) ↔ (v < k ∧ v ≠ q) := by omega
      simp only [this]
  · rw [List.getElem?_eq_none (by rw [kTo_length]; omega), List.getElem?_eq_none (by rw [List.length_set, kTo_length]; omega)]
theorem kTo_skip : kTo es n q cs (q + 1) = kTo es n q cs q := by
  unfold kTo
  refine List.map_congr_left fun v _ => ?_
  congr 1
  have : (v < q + 1 ∧ v ≠ q) ↔ (v < q ∧ v ≠ q) := by omega
  simp only [this]
theorem kTo_all (hG : RightG n es) (hq : q < n) (hl : cs.length = n) : kTo es n q cs n = kickL es q cs := by
  refine List.ext_getElem? fun v => ?_
  by_cases hv : v < n
  · obtain ⟨y, hy⟩ := get_of_lt (xs := kickL es q cs) (k := v) (by rw [kickL_length]; omega)
    rw [kTo_at hv, hy]
    have h1 := kickL_get (v := v) (q := q) hl hG.ok
    rw [getD_at hy] at h1
    rw [h1, jnE_flm hG]
    congr 1
    congr 1
    have h2 : ∀ k, flmTo es [q] v k = if q < k then tt es v q else 0 := by
      intro k
      induction k with
      | zero => simp [flmTo]
      | succ k ih =>
        unfold flmTo
        rw [ih]
        by_cases hk : k = q
        · subst hk
          rw [if_neg (by omega), if_pos (by simp), if_pos (by omega), Int.zero_add]
        · rw [if_neg (show ¬ k ∈ [q] by simpa using hk), Int.add_zero]
          by_cases hqk : q < k
          · rw [if_pos hqk, if_pos (by omega)]
          · rw [if_neg hqk, if_neg (by omega)]
    replace h2 := (h2 n).trans (if_pos hq)
    rw [h2]
    unfold tt
    by_cases hvq : v = q
    · rw [if_neg (by omega), if_pos hvq]
    · rw [if_pos ⟨hv, hvq⟩, if_neg hvq, btw_comm]
  · rw [List.getElem?_eq_none (by rw [kTo_length]; omega), List.getElem?_eq_none (by rw [kickL_length]; omega)]
end

set_option maxRecDepth 100000 in
set_option maxHeartbeats 8000000 in
theorem rkick24_ok (n : Nat) (A : Option Addr) (c : Nat) (es : List E3) (hlen : es.length ≤ 10000) (q : Nat) (B : Option Addr) (cB : Nat) (cs : List Int) (hz : burnErr n es q cs = 0) (w : World)
    (h : Reads w w.heap.size 3 A es.length (edgeCells es)) (h' : Reads w w.heap.size 1 B cs.length (ints cs)) :
    Calls Tryz.prog 11 #[.agg #[.int .i64 n, .slice A es.length c], .int .i64 q, .slice B cs.length cB] w fun e w' => ∃ ds ss er A1 c1 A2 c2, SetE n es q (kickL es q cs) ds ss er ∧ e = .returned (.tuple #[.slice A1 ds.length c1, .slice A2 ss.length c2, .int .i64 er]) ∧
      OwnI w' w.heap.size A1 c1 ds ∧ Reads w' w'.heap.size 1 A2 ss.length (ints ss) ∧ Below w.heap.size w w' := by
  obtain ⟨hR, hq, hcl⟩ := burn_rargs hlen hz
  obtain ⟨_, _, _, _, _, hcb, hnn⟩ := conf_zero (burn_zero hz).1
  have hG := right_of hR.hz
  have hok := hG.ok
  have hn12 : n ≤ 12 := by have := hG.hi; omega
  have BC := Lib.hid (rbcheck_any n A c es (by omega) q B cB cs (by omega))
  rw [hz] at BC
  rw [hcl] at h' BC ⊢
  have hkl : (kickL es q cs).length = n := by rw [kickL_length]; exact hcl
  have hkb2 : ∀ v, v < n → -1048576 ≤ (kickL es q cs).getD v 0 := by
    intro v hv
    rw [kickL_get hcl hok]
    have h1 := jnE_bd hok [q] v
    obtain ⟨x, hx⟩ := get_of_lt (xs := cs) (k := v) (by omega)
    have := hcb x (List.mem_of_getElem? hx)
    rw [getD_at hx]
    omega
  have SR := Lib.hid (fun (A' : Option Addr) (c' : Nat) (W : World) (hB : Below w.heap.size w W) (hr : Reads W W.heap.size 1 A' n (ints (kickL es q cs))) => rsettled24_any n A c es hlen q (burn_root hz) A' c' (kickL es q cs) hkl
    (fun x hx => by
      obtain ⟨i, hi⟩ := List.getElem?_of_mem hx
      have := hkb2 i (by have := (List.getElem?_eq_some_iff.1 hi).1; omega)
      rw [getD_at hi] at this
      exact this)
    (fun u hu huq => by
      rw [kickL_get hcl hok]
      have h1 := hnn u (by omega) (by omega)
      have h2 := (jnE_bd hok [q] u).1
      omega) W ((h.below hB).more hB.size) hr)
  have HKA := Lib.hid (kTo_all hG hq hcl)
  have HK0 := Lib.hid (kTo_zero (es := es) (q := q) hcl)
  have HCB := Lib.hid hcb
  have HBT := Lib.hid (fun v : Nat => btw_bd hok (q : Int) (v : Int))
  have TC := Lib.hid (fun (v : Nat) (W : World) (hB : Below w.heap.size w W) => between_any n A c es (by omega) (q : Int) (v : Int) W ((h.below hB).more hB.size))
  have HCL := Lib.hid hcl
  have g0 := Blk.new w 24 #[.int .i64 n, .slice A es.length c]
  clear hR hz hcl hnn hcb hG hok hkb2 hkl
  go_enter Tryz.func11, Tryz.ntmps11
  go_wp2_with fail
  refine (BC.out _ ((h.alloc (Nat.le_refl _) _).more (by simp)) ((h'.alloc (Nat.le_refl _) _).more (by simp))).mono ?_
  rintro e w2 ⟨rfl, hb1⟩
  have hB2 : Below w.heap.size w w2 := ((Below.refl _ _).alloc (Nat.le_refl _) _).trans (hb1.mono (by simp))
  have g2 := g0.next hb1
  have hsz2 := hB2.size
  clear g0 hb1
  have OX : (w2.alloc (.cells #[] 3)).ownsRow w2.heap.size 3 1 (.slice (some ⟨w2.heap.size, 0, none⟩) 0 0) 0 [] := World.ownsRow_made w2 #[] 0 (Nat.le_refl _) (by simp [maxLen]) (by simp)
  have RD := ((h'.below hB2).more hsz2).alloc (Nat.le_refl _) (.cells #[] 3)
  go_wp2_with (first
    | (at_builtin
       refine append_go rfl (.tmp 19) (.tmp 20) _ rfl w2.heap.size 3 Tryz.underlying26 info_int rfl (by omega) (some ⟨w2.heap.size, 0, none⟩) 0 0 [] rfl OX w2.heap.size (ints cs) rfl RD (by simp [ints, Value.oneCell']) (by omega) (by simp) ?_
       intro A4 c4 w4 hown4 _ hb4 _
       rw [Nat.zero_add, List.nil_append] at hown4
       rw [Nat.zero_add]
       have o4 : OwnI w4 w2.heap.size A4 c4 cs := by unfold OwnI; rw [HCL.out]; exact hown4
       obtain ⟨g, rfl, hg, _, _⟩ := o4.block (by rw [HCL.out]; omega)
       have hbw : Below w2.heap.size w2 w4 := ((Below.refl w2.heap.size w2).alloc (Nat.le_refl _) (.cells #[] 3)).trans hb4
       have O4 := Lib.hid o4
       have G4 := Lib.hid (g2.next hbw)
       have B4 := Lib.hid (hB2.trans (hbw.mono hsz2))
       have hgn : w.heap.size ≠ g := by have := g2.lt; omega)
    | fail)
  clear hown4 hb4 hbw o4 OX RD
  go_loopw [11] (fun i wr => ∃ k : Nat, i = .int .i64 k ∧ k ≤ n ∧ Hid (OwnI wr w2.heap.size (some ⟨g, 0, none⟩) c4 (kTo es n q cs k)) ∧ Hid (Blk wr w.heap.size 24 #[.int .i64 n, .slice A es.length c]) ∧ Hid (Below w.heap.size w wr)) (fun i _ => n - (intOf i).toNat)
  case atStart => exact ⟨0, rfl, by omega, by rw [HK0.out]; exact O4.out, G4.out, B4.out⟩
  case round =>
    obtain ⟨k, rfl, hk, HO, HGr, HB⟩ := hrel
    obtain ⟨wo, hwo⟩ : ∃ wo : World, wo = wr := ⟨wr, rfl⟩
    subst hwo
    have c0 := HGr.out.cell 0
    have c1 := HGr.out.cell 1
    have hszB := HB.out.size
    by_cases hlt : k < n
    · have hki : (k : Int) < (n : Int) := by omega
      by_cases hkq : k = q
      · subst hkq
        have hne : ((k : Int) != (k : Int)) = false := by simp
        have HS : Hid (kTo es n k cs (k + 1) = kTo es n k cs k) := kTo_skip
        go_wp2
        go_roundw
        case rel => exact ⟨k + 1, by go_num, by omega, by rw [HS.out]; exact HO.out, HGr.out, HB.out⟩
        case measure => simp [intOf]; omega
      · have hne : ((k : Int) != (q : Int)) = true := by simp; omega
        obtain ⟨x, hx⟩ := get_of_lt (xs := cs) (k := k) (by rw [HCL.out]; exact hlt)
        have hxb := HCB.out x (List.mem_of_getElem? hx)
        have hbb := HBT.out k
        have HTK := Lib.hid (fun W hB => TC.out k W hB)
        have hS : (kTo es n q cs (k + 1)) = (kTo es n q cs k).set k (x + btw es q k) := by rw [kTo_succ hlt hkq, getD_at hx]
        obtain ⟨y, hy⟩ : ∃ y, btw es q k = y := ⟨_, rfl⟩
        rw [hy] at hbb HTK hS
        have hw1 : IntKind.i64.wrap (x + y) = x + y := IntWalk.i64_in _ (by omega)
        have hkx : (kTo es n q cs k)[k]? = some x := by rw [kTo_at hlt, getD_at hx, if_neg (by omega), Int.add_zero]
        obtain ⟨hgl, hgs, hf, hc⟩ := HO.out.at_ (by rw [kTo_length]; omega)
        have kx := hc k x hkx
        have fx := hf k
        have HSS := Lib.hid hS
        have HBd := Lib.hid (HB.out.drew)
        have HOd := Lib.hid (HO.out.drew)
        have HGd : Hid (Blk wo.drew w.heap.size 24 #[.int .i64 n, .slice A es.length c]) := HGr.out.drew
        clear hx hy hS hkx hf hc
        go_wp2_with fail
        go_region_with (go_at_call 41; refine (HTK.out _ HBd.out).mono ?_; rintro e w5 ⟨rfl, hb5⟩; have O5 := Lib.hid (HOd.out.next hb5); have G5 := Lib.hid (HGd.out.next hb5); have B5 := Lib.hid (HBd.out.trans (hb5.mono HBd.out.size)); have kx5 := (hb5.cell (p := ⟨g, k, none⟩) (by exact hgs)).trans kx; have fx5 := (O5.out.at_ (by rw [kTo_length]; omega)).2.2.1 k)
        all_goals
          go_wp2
          go_roundw
          case rel => exact ⟨k + 1, by go_num, by omega, by rw [HSS.out]; exact O5.out.put k (x + y), G5.out.far (by show w.heap.size ≠ g; exact hgn) _, B5.out.setCell (by show w.heap.size ≤ g; omega) _⟩
          case measure => simp [intOf]; omega
    · obtain rfl : k = n := by omega
      have hf : ¬ (k : Int) < (k : Int) := by omega
      have R3 := HO.out.reads
      rw [kTo_length, HKA.out] at R3
      have SR3 := Lib.hid (SR.out _ c4 _ HB.out R3)
      have hB := HB.out
      clear R3
      go_wp2_with fail
      refine (SR3.out).mono ?_
      rintro e w4 ⟨ds, ss, er, A1, c1, A4, c4, hE, rfl, o4, r4, hb4⟩
      go_wp2
      go_ret3
      exact ⟨ds, ss, er, A1, c1, A4, c4, hE, rfl, o4.mono hB.size, r4, hB.trans (hb4.mono hB.size)⟩
set_option maxHeartbeats 2000000 in
theorem rkick24_any (n : Int) (A : Option Addr) (c : Nat) (es : List E3) (hlen : es.length ≤ 10000) (q : Int) (B : Option Addr) (cB : Nat) (cs : List Int) (hm : cs.length ≤ 1048000) (w : World)
    (h : Reads w w.heap.size 3 A es.length (edgeCells es)) (h' : Reads w w.heap.size 1 B cs.length (ints cs)) :
    Calls Tryz.prog 11 #[.agg #[.int .i64 n, .slice A es.length c], .int .i64 q, .slice B cs.length cB] w fun e w' => ∃ ds ss er A1 c1 A2 c2, KickE n es q cs ds ss er ∧ e = .returned (.tuple #[.slice A1 ds.length c1, .slice A2 ss.length c2, .int .i64 er]) ∧
      OwnI w' w.heap.size A1 c1 ds ∧ Reads w' w'.heap.size 1 A2 ss.length (ints ss) ∧ Below w.heap.size w w' := by
  by_cases hz : burnErr n es q cs = 0
  · obtain ⟨hG, _, hq0, hqn, _⟩ := conf_zero (burn_zero hz).1
    have hlo := hG.lo
    obtain ⟨m, rfl⟩ := Int.eq_ofNat_of_zero_le (show 0 ≤ n by omega)
    obtain ⟨p, rfl⟩ := Int.eq_ofNat_of_zero_le hq0
    refine (rkick24_ok m A c es hlen p B cB cs hz w h h').mono ?_
    rintro e w' ⟨ds, ss, er, A1, c1, A2, c2, hE, he, ho, hr, hb⟩
    refine ⟨ds, ss, er, A1, c1, A2, c2, ?_, he, ho, hr, hb⟩
    unfold KickE
    rw [if_neg (fun hh => hh hz)]
    simpa using hE
  · have BC := Lib.hid (rbcheck_any n A c es (by omega) q B cB cs (by omega))
    obtain ⟨z, hzz⟩ : ∃ z, burnErr n es q cs = z := ⟨_, rfl⟩
    have HE : Hid (KickE n es q cs [] [] z) := by unfold Hid KickE; rw [if_pos hz]; exact ⟨rfl, rfl, hzz.symm⟩
    rw [hzz] at BC hz
    have hb2 : (z != 0) = true := by simpa using hz
    clear hz hzz
    go_enter Tryz.func11, Tryz.ntmps11
    go_wp2_with fail
    refine (BC.out _ ((h.alloc (Nat.le_refl _) _).more (by simp)) ((h'.alloc (Nat.le_refl _) _).more (by simp))).mono ?_
    rintro e w1 ⟨rfl, hb1⟩
    have hB1 : Below w.heap.size w w1 := ((Below.refl _ _).alloc (Nat.le_refl _) _).trans (hb1.mono (by simp))
    clear hb1
    go_wp2
    go_ret3
    exact ⟨[], [], z, none, 0, none, 0, HE.out, rfl, OwnI.nil_ _ _, Reads.nil_, hB1⟩
end Go.Proofs.YtplgbapbgcipdaaGreat

