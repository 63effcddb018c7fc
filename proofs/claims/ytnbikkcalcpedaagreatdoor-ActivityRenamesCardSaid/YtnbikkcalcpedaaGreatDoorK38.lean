/-
  Texts of this claim, put together: PolyC, SortE, BagCmp, BagG.
-/
import Derived.Test.YtnbikkcalcpedaaGreatDoorK35
import Derived.Test.YtnbikkcalcpedaaGreatDoorK33
import Derived.Test.YtnbikkcalcpedaaGreatDoorK14
import Derived.Test.YtnbikkcalcpedaaGreatDoorK06
import Derived.Test.YtnbikkcalcpedaaGreatDoorK34
import Derived.Test.YtnbikkcalcpedaaGreatDoorK07
/-! The comparison of terms in activity.Polynomial. -/
namespace Go.Proofs.YtnbikkcalcpedaaGreatDoor
open Go.RowKit
set_option maxRecDepth 100000 in
set_option maxHeartbeats 1000000 in
theorem actcmp_any (x y : Tm) (w : World) :
    Calls Tryz.prog 60 #[.agg (encT x).toArray, .agg (encT y).toArray] w fun e w' => e = .returned (.int .i64 (tcf x y)) ∧ ∃ q os', w' = Go.Sort.grow (w.drewN q) os' := by
  obtain ⟨⟨x1, x2⟩, x3⟩ := x
  obtain ⟨⟨y1, y2⟩, y3⟩ := y
  have HD : Hid (tcf ((x1, x2), x3) ((y1, y2), y3) = orI (cmpI y1 x1) (cmpI y2 x2)) := rfl
  show Calls Tryz.prog 60 #[.agg #[.int .i64 x1, .int .i64 x2, .string (intS x3)], .agg #[.int .i64 y1, .int .i64 y2, .string (intS y3)]] w _
  obtain ⟨r, hr⟩ : ∃ r, tcf ((x1, x2), x3) ((y1, y2), y3) = r := ⟨_, rfl⟩
  obtain ⟨sx, hsx⟩ : ∃ s, intS x3 = s := ⟨_, rfl⟩
  obtain ⟨sy, hsy⟩ : ∃ s, intS y3 = s := ⟨_, rfl⟩
  rw [hr] at HD ⊢
  rw [hsx, hsy]
  clear hr hsx hsy
  have G := Blk.new ((w.alloc (.cells #[.int .i64 x1, .int .i64 x2, .string sx] 87)).alloc (.cells #[.int .i64 y1, .int .i64 y2, .string sy] 87)) 3 #[.int .i64 (cmpI y1 x1), .int .i64 (cmpI y2 x2)]
  rw [show ((w.alloc (.cells #[.int .i64 x1, .int .i64 x2, .string sx] 87)).alloc (.cells #[.int .i64 y1, .int .i64 y2, .string sy] 87)).heap.size = w.heap.size + 1 + 1 from by simp] at G
  have HC := Lib.hid (or_any (w.heap.size + 1 + 1) 2 (cmpI y1 x1) (cmpI y2 x2) _ (G.drew.cell 0) (G.drew.cell 1))
  clear G
  go_enter Tryz.func60, Tryz.ntmps60
  go_wp2
  refine region_tail 10 (by kernel_rfl) (by kernel_rfl) ?_
  simp only [List.take_succ_cons, List.take_zero, List.drop_succ_cons, List.drop_zero]
  repeat still_step
  still_call ((compare_any _ _ _).mono fun _ _ h => ⟨h.1, h.2.symm⟩)
  repeat still_step
  still_call ((compare_any _ _ _).mono fun _ _ h => ⟨h.1, h.2.symm⟩)
  refine wpStill_nil ?_
  go_wp2_with (go_at_call 61; refine (HC.out).mono ?_; rintro e w' ⟨rfl, rfl⟩)
  go_ret
  refine ⟨by rw [HD.out]; rfl, 1, #[.cells #[.int .i64 x1, .int .i64 x2, .string sx] 87, .cells #[.int .i64 y1, .int .i64 y2, .string sy] 87, .cells #[.int .i64 (cmpI y1 x1), .int .i64 (cmpI y2 x2)] 3], ?_⟩
  rw [show (#[.cells #[.int .i64 x1, .int .i64 x2, .string sx] 87, .cells #[.int .i64 y1, .int .i64 y2, .string sy] 87, .cells #[.int .i64 (cmpI y1 x1), .int .i64 (cmpI y2 x2)] 3] : Array Obj) = #[.cells #[.int .i64 x1, .int .i64 x2, .string sx] 87] ++ #[.cells #[.int .i64 y1, .int .i64 y2, .string sy] 87] ++ #[.cells #[.int .i64 (cmpI y1 x1), .int .i64 (cmpI y2 x2)] 3] from rfl, ← Go.Sort.grow_grow, ← Go.Sort.grow_grow, ← Go.Sort.alloc_eq_grow, ← Go.Sort.alloc_eq_grow, ← Go.Sort.alloc_eq_grow]
  rfl
end Go.Proofs.YtnbikkcalcpedaaGreatDoor

/-! slices.SortFunc of edges at every length, by their ends; the comparison of bag.graph. -/
namespace Go.Proofs.YtnbikkcalcpedaaGreatDoor
open Go.RowKit

instance decLtE (x y : E3) : Decidable (ltE x y) := by unfold ltE; infer_instance
/-- What the comparison of edges returns. -/
def ecf (a b : E3) : Int := lexI a.1 a.2.1 b.1 b.2.1
theorem ecf_lt (a b : E3) : ltOf ecf a b = decide (ltE a b) := by
  unfold ltOf ecf
  rw [Bool.eq_iff_iff]
  simp only [decide_eq_true_eq, lexI_neg]
  exact Iff.rfl
theorem ecf_swo : Go.Sort.SWO (ltOf ecf) where
  irrefl x := by rw [ecf_lt, decide_eq_false_iff_not]; unfold ltE; omega
  trans x y z h1 h2 := by
    rw [ecf_lt, decide_eq_true_eq] at *
    unfold ltE at *
    omega
  ntrans x y z h1 h2 := by
    rw [ecf_lt, decide_eq_false_iff_not] at *
    unfold ltE at *
    omega
/-- An edge's cells. -/
def encE (a : E3) : List Value := [.int .i64 a.1, .int .i64 a.2.1, .int .i64 a.2.2]
theorem flat_ed (p : List E3) : (Go.Sort.flatK encE 3 p.toArray).toList = edgeCells p := by
  refine List.ext_getElem? fun t => ?_
  by_cases ht : t < p.length * 3
  · have hj : t / 3 < p.length := by omega
    obtain ⟨a, ha⟩ : ∃ a, p[t / 3]? = some a := ⟨_, List.getElem?_eq_getElem hj⟩
    obtain ⟨h0, h1, h2⟩ := edgeCells_at ha
    have hg : (p.toArray[t / 3]! : E3) = a := by
      rw [getElem!_pos p.toArray (t / 3) (by simpa using hj)]
      simpa using (List.getElem?_eq_some_iff.1 ha).2
    have hl : (Go.Sort.flatK encE 3 p.toArray).toList[t]? = some ((encE a)[t % 3]!) := by
      have h := Go.Sort.get_flatK encE 3 p.toArray t (by simpa using ht)
      have hs : t < (Go.Sort.flatK encE 3 p.toArray).size := by simpa using ht
      rw [hg, getElem!_pos (Go.Sort.flatK encE 3 p.toArray) t hs] at h
      rw [Array.getElem?_toList, Array.getElem?_eq_getElem hs, h]
    rw [hl]
    rcases (by omega : t % 3 = 0 ∨ t % 3 = 1 ∨ t % 3 = 2) with hr | hr | hr
    · rw [hr]
      rw [show t / 3 * 3 = t by omega] at h0
      rw [h0]; rfl
    · rw [hr]
      rw [show t / 3 * 3 + 1 = t by omega] at h1
      rw [h1]; rfl
    · rw [hr]
      rw [show t / 3 * 3 + 2 = t by omega] at h2
      rw [h2]; rfl
  · rw [List.getElem?_eq_none (by simp; omega), List.getElem?_eq_none (by rw [edgeCells_length]; omega)]
set_option maxHeartbeats 1600000 in
/-- The sort within: pdqsort, at the whole row. -/
theorem pdqE_any (f : Nat) (eg : ∀ args w, (callFunc f args).run Tryz.prog w = .ok (.enter f args) w) (hcmp : ∀ (x y : E3) (W : World), Calls Tryz.prog f #[.agg (encE x).toArray, .agg (encE y).toArray] W fun e w' => e = .returned (.int .i64 (ecf x y)) ∧ ∃ q os', w' = Go.Sort.grow (W.drewN q) os')
    (base : Nat) (A : Option Addr) (c : Nat) (p : List E3) (hn : p.length ≤ 1048576) (w : World) (h : OwnE w base A c p) :
    Calls Tryz.prog 222 #[.slice A p.length c, .int .i64 0, .int .i64 p.length, .int .i64 (Lib.bitLen p.length : Nat), .func (.func f) #[] #[]] w fun e w' => e = .returned (.tuple #[]) ∧ ∃ p', p.Perm p' ∧ (p'.Pairwise fun a b => ¬ ltE b a) ∧ OwnE w' base A c p' ∧ Below base w w' := by
  by_cases h0 : p.length = 0
  · obtain rfl : p = [] := List.eq_nil_of_length_eq_zero h0
    have hc := AnyF.pdqsortCmpFunc_none (P := Tryz.prog) (ρ := laySortEd_ren) { laySortEd with } A c (Lib.bitLen 0 : Nat) (.func (.func f) #[] #[]) w
    refine hc.mono ?_
    rintro e w' ⟨rfl, rfl⟩
    exact ⟨rfl, [], List.Perm.refl _, List.Pairwise.nil, h, Below.refl _ _⟩
  · rcases h.2 with ⟨hnil, hz⟩ | ⟨g, cp, cur, hv, hbase, hb, h1, h2, h3, h4⟩
    · exact absurd hz h0
    · injection hv with hA _ hcap
      subst hA
      subst hcap
      have hgl : g < w.heap.size := (Array.getElem?_eq_some_iff.1 hb).1
      have hsz : p.toArray.size = p.length := by simp
      have hfl : (Go.Sort.flatK encE 3 p.toArray).size = p.length * 3 := by simp
      have hH : Go.Sort.HoldsK encE 3 w g 0 p.toArray := by
        intro j hj
        have hj' : j < p.length * 3 := by rw [hfl] at hj; exact hj
        have h5 : (cur.toList.take (p.length * 3))[j]? = (edgeCells p)[j]? := by rw [h4]
        rw [List.getElem?_take_of_lt hj', ← flat_ed p, Array.getElem?_toList, Array.getElem?_toList] at h5
        refine ⟨?_, by simp [World.frozen?, hb]⟩
        simp only [World.cell?, hb, Nat.zero_add]
        simp only [Option.isSome_none, Bool.false_eq_true, if_false]
        rw [h5, getElem!_pos _ j hj]
        simp
      have hk : ∀ x : E3, (encE x).length = 3 := fun _ => rfl
      have hone : ∀ x : E3, ∀ v ∈ encE x, v.oneCell' = true := fun x v hv => by
        simp [encE] at hv
        rcases hv with rfl | rfl | rfl <;> rfl
      have hlim : Lib.bitLen p.length < 4611686018427387904 := Nat.lt_of_le_of_lt (Lib.bitLen_le p.length 62 (by omega) (by omega)) (by omega)
      have hcl : Go.Proofs.CmpLays Tryz.prog f #[] encE 3 ecf g 0 p.toArray.size w := fun m os dk _ x y => hcmp x y _
      have hp := AnyQ.pdqsortCmpFunc_all (P := Tryz.prog) (ρ := laySortEd_ren) { laySortEd with } 3 Tryz.isAgg107 Tryz.sizeOf107 encE ecf f #[] ecf_swo g 0 c p.toArray w eg hcl ⟨hk, hone, hH, hgl⟩ (p.length + 1) 0 p.length (Lib.bitLen p.length) p.toArray w (by omega) rfl (Go.Proofs.SWK.start hH) (Nat.zero_le _) (by rw [hsz]; exact Nat.le_refl _) (by omega) hlim (Or.inl rfl)
      rw [hsz] at hp
      refine hp.mono ?_
      rintro e w' ⟨rfl, m, os, rfl⟩
      obtain ⟨hP, hS⟩ := Go.Sort.pdq_sorts (ltOf ecf) ecf_swo p.toArray 0 p.length (Lib.bitLen p.length) true true (Nat.zero_le _) (by rw [hsz]; exact Nat.le_refl _) (Or.inl rfl)
      obtain ⟨dd, hdd⟩ : ∃ dd, Go.Sort.pdq (ltOf ecf) p.toArray 0 p.length (Lib.bitLen p.length) true true = dd := ⟨_, rfl⟩
      rw [hdd] at hP hS ⊢
      obtain ⟨q1, _, q3⟩ := hP
      rw [hsz] at q1
      have e1 : dd.extract 0 p.length = dd := by rw [← q1]; simp
      have e2 : p.toArray.extract 0 p.length = p.toArray := by conv => lhs; arg 3; rw [← hsz]
                                                               simp
      rw [e1, e2] at q3
      have hg : w.grownBy (Go.Proofs.sortWorld id w g 0 m (Go.Sort.flatK encE 3 dd) os) (some g) := grown_rowT _
      have hfd : (Go.Sort.flatK encE 3 dd).toList = edgeCells dd.toList := by have := flat_ed dd.toList; simpa using this
      have hfs : (Go.Sort.flatK encE 3 dd).size = p.length * 3 := by simp [q1]
      have hlen : dd.toList.length = p.length := by simp [q1]
      refine ⟨rfl, dd.toList, by simpa using q3.symm, ?_, ?_, ?_⟩
      · rw [List.pairwise_iff_getElem]
        intro i j hi hj hij
        have hjs : j < dd.size := by simpa using hj
        have h := hS i j (Nat.zero_le _) hij (by omega)
        rw [getElem!_pos dd j hjs, getElem!_pos dd i (by omega), ecf_lt, decide_eq_false_iff_not] at h
        exact h
      · unfold OwnE
        rw [hlen]
        refine ⟨by rw [edgeCells_length, hlen], .inr ⟨g, c, _, rfl, hbase, heap_rowT (enc := id) (Go.Sort.flatK encE 3 dd) hb, h1, h2, by simp [Go.Sort.putCells, h3], ?_⟩⟩
        have h6 := take_rowT (enc := id) (cur := cur) (Go.Sort.flatK encE 3 dd) (by rw [hfs, h3]; omega)
        rw [hfs] at h6
        rw [h6, List.map_id, hfd]
      · exact (Below.refl _ _).grown hg (Nat.le_of_lt (Nat.lt_of_le_of_lt hbase hgl)) (fun j hj => by cases hj; exact hbase)
set_option maxRecDepth 100000 in
set_option maxHeartbeats 1000000 in
theorem sortE_any (f : Nat) (eg : ∀ args w, (callFunc f args).run Tryz.prog w = .ok (.enter f args) w) (hcmp : ∀ (x y : E3) (W : World), Calls Tryz.prog f #[.agg (encE x).toArray, .agg (encE y).toArray] W fun e w' => e = .returned (.int .i64 (ecf x y)) ∧ ∃ q os', w' = Go.Sort.grow (W.drewN q) os')
    (base : Nat) (A : Option Addr) (c : Nat) (p : List E3) (hn : p.length ≤ 1048576) (w : World) (h : OwnE w base A c p) :
    Calls Tryz.prog 166 #[.slice A p.length c, .func (.func f) #[] #[]] w fun e w' => e = .returned (.tuple #[]) ∧ ∃ p', p.Perm p' ∧ (p'.Pairwise fun a b => ¬ ltE b a) ∧ OwnE w' base A c p' ∧ Below base w w' := by
  have PC := Lib.hid (pdqE_any f eg hcmp base A c p hn w h)
  have hl : Calls Tryz.prog 118 #[.int .u64 (p.length : Int)] w fun e w' => e = .returned (.int .i64 (Lib.bitLen p.length : Nat)) ∧ w' = w := by
    have h := Any.bits_Len (SlLaysF0.n15.bits (P := Tryz.prog) (ρ := laySortEd_ren) { laySortEd with }) (p.length : Int) w (by omega) (by omega)
    rwa [Int.toNat_natCast] at h
  have LC := Lib.hid hl
  have wr : IntKind.u64.wrap (p.length : Int) = p.length := by simp [IntKind.wrap, IntKind.bits, IntKind.signed]; omega
  obtain ⟨n, hN⟩ : ∃ n, p.length = n := ⟨_, rfl⟩
  obtain ⟨l, hL⟩ : ∃ l, Lib.bitLen n = l := ⟨_, rfl⟩
  rw [hN] at PC LC wr ⊢
  rw [hL] at PC LC
  clear hl hN hL hn h eg hcmp
  go_enter Tryz.func166, Tryz.ntmps166
  go_wp2_with fail
  refine (LC.out).mono ?_
  rintro e w' ⟨rfl, rfl⟩
  go_wp2_with fail
  refine (PC.out).mono ?_
  rintro e w' ⟨rfl, p', h1, h2, h3, h4⟩
  go_wp2
  go_end0
  exact ⟨rfl, p', h1, h2, h3, h4⟩
end Go.Proofs.YtnbikkcalcpedaaGreatDoor

/-! The comparison of edges in bag.graph; joined. -/
namespace Go.Proofs.YtnbikkcalcpedaaGreatDoor
open Go.RowKit
set_option maxRecDepth 100000 in
set_option maxHeartbeats 1000000 in
theorem pcompareG_any (a b c d : Int) (w : World) :
    Calls Tryz.prog 113 #[.agg #[.int .i64 a, .int .i64 b], .agg #[.int .i64 c, .int .i64 d]] w fun e w' => e = .returned (.int .i64 (lexI a b c d)) ∧ ∃ q os', w' = Go.Sort.grow (w.drewN q) os' := by
  have HD : Hid (lexI a b c d = orI (cmpI a c) (cmpI b d)) := rfl
  have G := Blk.new ((w.alloc (.cells #[.int .i64 a, .int .i64 b] 152)).alloc (.cells #[.int .i64 c, .int .i64 d] 152)) 3 #[.int .i64 (cmpI a c), .int .i64 (cmpI b d)]
  rw [show ((w.alloc (.cells #[.int .i64 a, .int .i64 b] 152)).alloc (.cells #[.int .i64 c, .int .i64 d] 152)).heap.size = w.heap.size + 1 + 1 from by simp] at G
  have HC := Lib.hid (or_any (w.heap.size + 1 + 1) 2 (cmpI a c) (cmpI b d) _ (G.drew.cell 0) (G.drew.cell 1))
  clear G
  go_enter Tryz.func113, Tryz.ntmps113
  go_wp2
  refine region_tail 10 (by kernel_rfl) (by kernel_rfl) ?_
  simp only [List.take_succ_cons, List.take_zero, List.drop_succ_cons, List.drop_zero]
  repeat still_step
  still_call ((compare_any _ _ _).mono fun _ _ h => ⟨h.1, h.2.symm⟩)
  repeat still_step
  still_call ((compare_any _ _ _).mono fun _ _ h => ⟨h.1, h.2.symm⟩)
  refine wpStill_nil ?_
  go_wp2_with (go_at_call 61; refine (HC.out).mono ?_; rintro e w' ⟨rfl, rfl⟩)
  go_ret
  refine ⟨by rw [HD.out]; rfl, 1, #[.cells #[.int .i64 a, .int .i64 b] 152, .cells #[.int .i64 c, .int .i64 d] 152, .cells #[.int .i64 (cmpI a c), .int .i64 (cmpI b d)] 3], ?_⟩
  rw [show (#[.cells #[.int .i64 a, .int .i64 b] 152, .cells #[.int .i64 c, .int .i64 d] 152, .cells #[.int .i64 (cmpI a c), .int .i64 (cmpI b d)] 3] : Array Obj) = #[.cells #[.int .i64 a, .int .i64 b] 152] ++ #[.cells #[.int .i64 c, .int .i64 d] 152] ++ #[.cells #[.int .i64 (cmpI a c), .int .i64 (cmpI b d)] 3] from rfl, ← Go.Sort.grow_grow, ← Go.Sort.grow_grow, ← Go.Sort.alloc_eq_grow, ← Go.Sort.alloc_eq_grow, ← Go.Sort.alloc_eq_grow]
  rfl
set_option maxRecDepth 100000 in
set_option maxHeartbeats 1000000 in
theorem bagcmp_any (x y : E3) (w : World) :
    Calls Tryz.prog 167 #[.agg (encE x).toArray, .agg (encE y).toArray] w fun e w' => e = .returned (.int .i64 (ecf x y)) ∧ ∃ q os', w' = Go.Sort.grow (w.drewN q) os' := by
  obtain ⟨x1, x2, x3⟩ := x
  obtain ⟨y1, y2, y3⟩ := y
  have PC := Lib.hid (fun W => pcompareG_any x1 x2 y1 y2 W)
  show Calls Tryz.prog 167 #[.agg #[.int .i64 x1, .int .i64 x2, .int .i64 x3], .agg #[.int .i64 y1, .int .i64 y2, .int .i64 y3]] w _
  rw [show ecf (x1, x2, x3) (y1, y2, y3) = lexI x1 x2 y1 y2 from rfl]
  obtain ⟨r, hr⟩ : ∃ r, lexI x1 x2 y1 y2 = r := ⟨_, rfl⟩
  rw [hr] at PC ⊢
  clear hr
  go_enter Tryz.func167, Tryz.ntmps167
  go_wp2_with fail
  refine (PC.out _).mono ?_
  rintro e w' ⟨rfl, q, os, rfl⟩
  go_wp2
  go_ret
  refine ⟨rfl, q, #[.cells #[.int .i64 x1, .int .i64 x2, .int .i64 x3] 107] ++ #[.cells #[.int .i64 y1, .int .i64 y2, .int .i64 y3] 107] ++ os, ?_⟩
  rw [← Go.Sort.grow_grow, ← Go.Sort.grow_grow, ← Go.Sort.alloc_eq_grow, ← Go.Sort.alloc_eq_grow]
  rfl
theorem info_pair : (Tryz.prog.info? 152).map (·.size) = some 2 := by kernel_rfl
theorem results_p {fn : Func} {p : Tmp} {tmps : Array Value} {w : World} {g : Nat} {cs : Array Value} (h : fn.results = #[.cell p 152]) (hp : tmps.getD p undef = .pointer (some ⟨g, 0, none⟩)) (hg : Blk w g 152 cs) (hs : cs.size = 2) :
    (results fn tmps).run Tryz.prog w = .ok (.agg cs) w := by
  exact results_cell_row h tmps w g _ cs _ _ hp hg Tryz.underlying152 rfl (by rw [info_pair, hs])
set_option maxHeartbeats 1000000 in
theorem gjoined_any (a b : Nat) (w : World) :
    Calls Tryz.prog 114 #[.int .i64 a, .int .i64 b] w fun e w' => e = .returned (.agg #[.int .i64 ((min a b : Nat) : Int), .int .i64 ((max a b : Nat) : Int)]) ∧ Below w.heap.size w w' := by
  have e1 : ((min a b : Nat) : Int) = min (a : Int) (b : Int) := by omega
  have e2 : ((max a b : Nat) : Int) = max (a : Int) (b : Int) := by omega
  rw [e1, e2]
  clear e1 e2
  go_enter Tryz.func114, Tryz.ntmps114
  go_wp2
  refine bodyPost_ret (results_p rfl rfl (Blk.new _ _ _) rfl) rfl ?_
  exact ⟨rfl, (Below.refl _ _).alloc (Nat.le_refl _) _⟩
end Go.Proofs.YtnbikkcalcpedaaGreatDoor

/-! bag.graph: the graph of a bag. -/
namespace Go.Proofs.YtnbikkcalcpedaaGreatDoor
open Go.RowKit

theorem ranges_kept {H : Type} {P : Program} {k : TypeId} {R : Value → Option (DataW H × List MemPlace)} {w w' : World} {b r n : Nat} {D : DataW H} {left : Lit → Bool} {cnt : Nat} (h : w.ranges P k R b r n D left cnt) (hb : w'.heap[b]? = w.heap[b]?) (hr : w'.heap[r]? = w.heap[r]?) : w'.ranges P k R b r n D left cnt := by
  obtain ⟨es, clock, since, seen, c0, h1, F, hs, hD, h2, rest⟩ := h
  exact ⟨es, clock, since, seen, c0, hb.trans h1, F, hs, hD, hr.trans h2, rest⟩
set_option maxRecDepth 100000 in
set_option maxHeartbeats 4000000 in
theorem baggraph_any (n : Int) (b N : Nat) (F : List (Nat × Nat)) (D : DataW Unit) (hFl : F.length < 1000000) (hN : N < 1000000) (hF : ∀ p ∈ F, p.1 ≤ 300 ∧ p.2 ≤ 300) (hD : CntD F D) (w : World) (hM : w.ownsMap Tryz.prog 152 (plainElem (H := Unit) Tryz.prog 3) b N D) :
    Calls Tryz.prog 115 #[.map (some b), .int .i64 n] w fun e w' => ∃ A c es, e = .returned (.agg #[.int .i64 n, .slice A es.length c]) ∧ OwnE w' w.heap.size A c es ∧ es.Pairwise (fun a b => ¬ ltE b a) ∧ (∃ L : List (Nat × Nat), L.Nodup ∧ (∀ p, p ∈ L ↔ p ∈ F) ∧ (L.map (bagE F)).Perm es) ∧ Below w.heap.size w w' := by
  have HF := Lib.hid hF
  have HFl := Lib.hid hFl
  have HD := Lib.hid hD
  obtain ⟨s0, hs0⟩ : ∃ s, w.heap.size = s := ⟨_, rfl⟩
  have hbs : b < s0 := hs0 ▸ hM.lt
  have hB : Below s0 w ((w.alloc (.cells #[.int .i64 0, .slice none 0 0] 24)).alloc (.cells #[.int .i64 n, .slice none 0 0] 24)) := by rw [← hs0]; exact ((Below.refl _ _).alloc (Nat.le_refl _) _).alloc (by simp) _
  have hM1 := ownsMap_below hM (hs0 ▸ hM.lt) hB
  have G4 := (Blk.new w 24 #[.int .i64 0, .slice none 0 0]).alloc (.cells #[.int .i64 n, .slice none 0 0] 24)
  have G5 := Blk.new (w.alloc (.cells #[.int .i64 0, .slice none 0 0] 24)) 24 #[.int .i64 n, .slice none 0 0]
  have hsz2 : ((w.alloc (.cells #[.int .i64 0, .slice none 0 0] 24)).alloc (.cells #[.int .i64 n, .slice none 0 0] 24)).heap.size = s0 + 2 := by simp; omega
  rw [show (w.alloc (.cells #[.int .i64 0, .slice none 0 0] 24)).heap.size = s0 + 1 from by simp; omega] at G5
  rw [hs0] at G4 ⊢
  clear hF hFl hD hM
  go_enter Tryz.func115, Tryz.ntmps115
  go_wp2_with (first
    | (at_range; refine wpList_range_own _ rfl _ 155 rfl 152 3 (Maps.Keyed.of_law gpairLaw) Tryz.underlying155 _ b N D rfl hM1 ?_; intro w2 hrg hg2 hs2)
    | fail)
  have G4 := G4.grown hg2 (by simp)
  have G5 := G5.grown hg2 (by simp)
  have hB2 : Below s0 w w2 := hB.grown hg2 (by rw [hsz2]; omega) (fun j hj => by cases hj)
  have hD0 := ownsMap_size hM1
  rw [hsz2] at hrg hs2 ⊢
  obtain ⟨r, hr⟩ : ∃ r, s0 + 2 = r := ⟨_, rfl⟩
  rw [hr] at hrg hs2 ⊢
  have H0 := Lib.hid hs0
  clear hM1 hg2 hsz2 hs0 hB
  try go_simp
  go_loopw [6, 7] (fun _ _ wr => ∃ left cnt Aq cq, ∃ L : List (Nat × Nat), wr.ranges Tryz.prog 152 (plainElem (H := Unit) Tryz.prog 3) b r N D left cnt ∧ Blk wr (s0 + 1) 24 #[.int .i64 n, .slice Aq L.length cq] ∧ Blk wr s0 24 #[.int .i64 0, .slice none 0 0] ∧ OwnE wr (r + 1) Aq cq (L.map (bagE F)) ∧ Below s0 w wr ∧ r + 1 ≤ wr.heap.size ∧ L.length + cnt ≤ N ∧ L.Nodup ∧ (∀ q ∈ L, q ∈ F) ∧ (∀ kl, left kl = true → Maps.has D kl = true) ∧ (∀ q ∈ F, left (kk q) = true ∨ q ∈ L) ∧ (∀ q ∈ L, left (kk q) = false)) (fun _ _ wr => wr.rangeLeft b r)
  case atStart =>
    exact ⟨_, _, none, 0, [], hrg, G5, G4, OwnE.nil_ _ _, hB2, by omega, by simpa using hD0, List.nodup_nil, by simp, fun _ h => h, fun q hq => .inl (HD.out.mem_ q hq), by simp⟩
  case round =>
    obtain ⟨left, cnt, Aq, cq, L, hrg, G5, G4, hO, hbr, hrs, hcn, hnd, hLF, hlD, hFL, hLl⟩ := hrel
    have HF300 : Hid (∀ q ∈ F, q.1 ≤ 300 ∧ q.2 ≤ 300) := HF
    go_wp2_with (first
      | (at_next; refine wpList_next_cnt _ rfl _ rfl gpairLaw keyOf_gpair Tryz.underlying3 HF300.out b r N D HD.out left hlD cnt rfl hrg ?_ ?_)
      | fail)
    · intro hc0 hl0
      have hdone : ∀ q, q ∈ L ↔ q ∈ F := fun q => ⟨hLF q, fun hq => by
        rcases hFL q hq with h | h
        · rw [hl0] at h; cases h
        · exact h⟩
      have SC := Lib.hid (fun (W : World) (hW : OwnE W (r + 1) Aq cq (L.map (bagE F))) => sortE_any 167 (enters_of Tryz.func167 (by kernel_rfl) rfl) bagcmp_any (r + 1) Aq cq (L.map (bagE F)) (by rw [List.length_map]; omega) W hW)
      rw [List.length_map] at SC
      have q0 := G5.cell 0
      have q1 := G5.cell 1
      go_wp2_with fail
      refine (SC.out _ hO).mono ?_
      rintro e w' ⟨rfl, p', hp1, hp2, hp3, hb3⟩
      have hlen : L.length = p'.length := by rw [← hp1.length_eq, List.length_map]
      have G5 := G5.below hb3 (by omega)
      have G4 := G4.below hb3 (by omega)
      have q0 := G5.cell 0
      have q1 := G5.cell 1
      have r0 := G4.cell 0
      have r1 := G4.cell 1
      have f0 := G4.frozen 0
      have f1 := G4.frozen 1
      go_wp2
      refine bodyPost_ret (results_g rfl rfl ((G4.set_ 0 _).set_ 1 _) rfl) rfl ?_
      have hOf := (hp3.mono (base' := s0) (by omega))
      refine ⟨Aq, cq, p', by rfl, ?_, hp2, ⟨L, hnd, hdone, hp1⟩, ?_⟩
      · exact (hp3.kept fun k hk => (Below.heap_setCell _ ⟨s0, 1, none⟩ _ k (by have := (hp3.lt k hk).1; show k ≠ s0; omega)).trans (Below.heap_setCell _ ⟨s0, 0, none⟩ _ k (by have := (hp3.lt k hk).1; show k ≠ s0; omega))).mono (by omega)
      · exact ((hbr.trans (hb3.mono (by omega))).setCell (p := ⟨s0, 0, none⟩) (Nat.le_refl _) _).setCell (p := ⟨s0, 1, none⟩) (Nat.le_refl _) _
    · intro x y w3 cnt' hp hl hrg' hlt hg3 hs3 hen
      unfold pairV at hen ⊢
      have hcl : F.count (x, y) ≤ F.length := List.count_le_length
      have hbe : Hid (bagE F (x, y) = ((x : Int), (y : Int), (F.count (x, y) : Int))) := rfl
      obtain ⟨cn, hcn⟩ : ∃ cn, F.count (x, y) = cn := ⟨_, rfl⟩
      rw [hcn] at hen hbe ⊢
      have HEN : Hid (L.length ≤ N) := by rw [Hid]; omega
      have hO3 : OwnE w3 (r + 1) Aq cq (L.map (bagE F)) := hO.kept fun k hk => hg3.block k (hO.lt k hk).2 (fun e => by injection e with e; have := (hO.lt k hk).1; omega)
      have G5 := G5.grown hg3 (by simp; omega)
      have G4 := G4.grown hg3 (by simp; omega)
      have hb3 : Below s0 w w3 := hbr.grown hg3 (by omega) (fun j hj => by cases hj; omega)
      obtain ⟨es, hes⟩ : ∃ es, L.map (bagE F) = es := ⟨_, rfl⟩
      have hll : L.length = es.length := by rw [← hes, List.length_map]
      rw [hes] at hO3
      rw [hll] at G5
      have hel : es.length ≤ 1000000 := by omega
      have HLL := Lib.hid hll
      have HES := Lib.hid hes
      have hne := Lib.hid (own_blk_ne hO3 G5 (by decide))
      have G5 := G5.alloc (.cells #[.int .i64 x, .int .i64 y] 152)
      have G4 := G4.alloc (.cells #[.int .i64 x, .int .i64 y] 152)
      have q0 := G5.cell 0
      have q1 := G5.cell 1
      have O4 := OwnE.alloc hO3 (.cells #[.int .i64 x, .int .i64 y] 152)
      have hz4 : r + 1 ≤ (w3.alloc (.cells #[.int .i64 x, .int .i64 y] 152)).heap.size := by simp; omega
      have hcn' := Lib.hid hcn
      have HS3 := Lib.hid hs3
      clear hcn hes hll hO3 hO hs3
      have hne4 := Lib.hid (own_blk_ne O4 G4 (by decide))
      go_wp2_with (first
        | (at_builtin; refine push_edge rfl (.tmp 18) (.tmp 25) _ rfl Tryz.underlying22 (r + 1) Aq cq es x y cn rfl O4 rfl (by simp) (by omega) hz4 ?_; intro A6 c6 w6 hown6 hg6 hb6; have G56 := (G5.alloc (.cells #[.int .i64 x, .int .i64 y, .int .i64 cn] 107)).grown hg6 hne.out; have c61 := G56.cell 1; have f61 := G56.frozen 1)
        | fail)
      have hw3 := HS3.out
      have HBw : Below (r + 1) w3 w6 := ((Below.refl (r + 1) w3).alloc (by omega) (.cells #[.int .i64 x, .int .i64 y] 152)).trans hb6
      have G46 := (G4.alloc (.cells #[.int .i64 x, .int .i64 y, .int .i64 cn] 107)).grown hg6 hne4.out
      have hrg6 := ranges_below hrg' (by omega) (by omega) HBw
      obtain ⟨U, hU⟩ : ∃ U, w6.setCell ⟨s0 + 1, 1, none⟩ (.slice A6 (es.length + 1) c6) = U := ⟨_, rfl⟩
      have hrgU : U.ranges Tryz.prog 152 (plainElem (H := Unit) Tryz.prog 3) b r N D (fun z => left z && !z.sameKey (kk (x, y))) cnt' := by
        rw [← hU]
        exact ranges_kept hrg6 (Below.heap_setCell _ _ _ _ (by show b ≠ s0 + 1; omega)) (Below.heap_setCell _ _ _ _ (by show r ≠ s0 + 1; omega))
      have hm : (L ++ [(x, y)]).map (bagE F) = es ++ [((x : Int), (y : Int), (cn : Int))] := by rw [List.map_append, HES.out, List.map_singleton, hbe.out]
      have hKK : ∀ q ∈ F, (kk q).sameKey (kk (x, y)) = true → q = (x, y) := fun q hq h => kk_inj gpairLaw keyOf_gpair (HF.out q hq) (HF.out _ hp) (WideAt.sameKey_eq h)
      have hself : (kk (x, y)).sameKey (kk (x, y)) = true := WideAt.sameKey_self ((Maps.Keyed.of_law gpairLaw).key (keyOf_gpair _ (HF.out _ hp).1 (HF.out _ hp).2))
      have hnL : (x, y) ∉ L := fun hc => by have := hLl _ hc; rw [hl] at this; cases this
      rw [hU]
      go_roundw
      case rel =>
        refine ⟨_, cnt', A6, c6, L ++ [(x, y)], hrgU, ?_, ?_, ?_, ?_, ?_, by rw [List.length_append, List.length_singleton]; omega, List.nodup_append.2 ⟨hnd, by simp, fun a ha b hb hab => hnL (by rw [List.mem_singleton] at hb; rw [← hb, ← hab]; exact ha)⟩, ?_, ?_, ?_, ?_⟩
        · rw [← hU, List.length_append, HLL.out]; exact G56.set_ 1 _
        · rw [← hU]; exact G46.far (by show s0 ≠ s0 + 1; omega) _
        · rw [← hU, hm]; exact hown6.kept fun k hk => Below.heap_setCell _ _ _ k (by have := (hown6.lt k hk).1; show k ≠ s0 + 1; omega)
        · rw [← hU]; exact (hb3.trans (HBw.mono (by omega))).setCell (p := ⟨s0 + 1, 1, none⟩) (by show s0 ≤ s0 + 1; omega) _
        · rw [← hU]; have := HBw.size; simp [World.setCell]; omega
        · intro q hq
          rcases List.mem_append.1 hq with hq | hq
          · exact hLF q hq
          · rw [List.mem_singleton] at hq; rw [hq]; exact hp
        · intro kl h
          exact hlD kl (Bool.and_eq_true_iff.1 h).1
        · intro q hq
          rcases hFL q hq with h | h
          · by_cases hs : (kk q).sameKey (kk (x, y)) = true
            · right; rw [hKK q hq hs]; simp
            · left; show (left (kk q) && !(kk q).sameKey (kk (x, y))) = true
              rw [h, Bool.eq_false_iff.2 hs]; rfl
          · right; exact List.mem_append.2 (.inl h)
        · intro q hq
          show (left (kk q) && !(kk q).sameKey (kk (x, y))) = false
          rcases List.mem_append.1 hq with hq | hq
          · rw [hLl q hq]; rfl
          · rw [List.mem_singleton] at hq; rw [hq, hself]; simp
      case measure => rw [hrgU.left_eq, hrg.left_eq]; exact hlt
end Go.Proofs.YtnbikkcalcpedaaGreatDoor

