/-
  Texts of this claim, put together: DualS.
-/
import Derived.Test.YtghigdcpinengaaGreatK33
import Derived.Test.YtghigdcpinengaaGreatK34
import Derived.Test.YtghigdcpinengaaGreatK26
import Derived.Test.YtghigdcpinengaaGreatK35
import Derived.Test.YtghigdcpinengaaGreatK37
/-! stabilize.Stable; superstable.Dual of a superstable configuration; ref28.Turned. -/
namespace Go.Proofs.YtghigdcpinengaaGreat
open Go.RowKit

theorem firstT_neg (ws : List Bool) : decide (firstT ws < 0) = (List.range ws.length).all fun v => !ws.getD v false := by
  unfold firstT
  rcases hf : (List.range ws.length).find? fun v => ws.getD v false with _ | v
  · rw [List.find?_eq_none] at hf
    symm
    show ((List.range ws.length).all fun v => !ws.getD v false) = true
    rw [List.all_eq_true]
    intro v hv
    have := hf v hv
    simpa using this
  · have h1 := List.find?_some hf
    have h2 := List.mem_of_find?_eq_some hf
    have h3 : ¬ ((v : Int) < 0) := by omega
    simp only [decide_eq_false h3]
    symm
    rw [List.all_eq_false]
    exact ⟨v, h2, by simpa using h1⟩
theorem stable_wait {n q : Nat} {es : List E3} (hn : n ≤ 12) (hok : ∀ e ∈ es, okE n e) (cs : List Int) : decide (firstT (waitL n q cs (valL n (endsL es))) < 0) = stabTo es cs q n := by
  rw [firstT_neg]
  have hl : (waitL n q cs (valL n (endsL es))).length = 12 := by simp [waitL]
  have hg : ∀ v, v < 12 → (waitL n q cs (valL n (endsL es))).getD v false = (decide (v < n) && unst q cs (valL n (endsL es)) v) := fun v hv => by
    unfold waitL
    rw [List.getD_eq_getElem?_getD, List.getElem?_map, List.getElem?_range hv]; rfl
  rw [hl, Bool.eq_iff_iff]
  unfold stabTo
  rw [List.all_eq_true, List.all_eq_true]
  constructor
  · intro h v hv
    have hvn := List.mem_range.1 hv
    have := h v (List.mem_range.2 (by omega))
    rw [hg v (by omega), decide_eq_true hvn, Bool.true_and] at this
    unfold unst at this
    rw [valL_val (n := n) hok (v := v) ] at this
    by_cases hq : v = q
    · simp [hq]
    · have hq' : ((v : Int) ≠ (q : Int)) := by omega
      simp only [decide_eq_true hq', Bool.true_and, Bool.not_eq_true', decide_eq_false_iff_not] at this
      rw [Bool.or_eq_true]; right; exact decide_eq_true (by omega)
  · intro h v hv
    rw [hg v (List.mem_range.1 hv)]
    by_cases hvn : v < n
    · have := h v (List.mem_range.2 hvn)
      rw [Bool.or_eq_true, decide_eq_true_eq, decide_eq_true_eq] at this
      unfold unst
      rw [valL_val (n := n) hok (v := v)]
      rcases this with h1 | h1
      · simp [h1]
      · have h2 : ¬ valE es v ≤ cs.getD v 0 := by omega
        rw [decide_eq_false h2]; simp
    · simp [hvn]

set_option maxRecDepth 100000 in
set_option maxHeartbeats 4000000 in
theorem sstable_ok (n : Nat) (A : Option Addr) (c : Nat) (es : List E3) (hlen : es.length ≤ 10000) (q : Nat) (B : Option Addr) (cB : Nat) (d : List Int) (hc : confErr n es q d = 0) (w : World)
    (h : Reads w w.heap.size 3 A es.length (edgeCells es)) (h' : Reads w w.heap.size 1 B d.length (ints d)) :
    Calls Tryz.prog 91 #[.agg #[.int .i64 n, .slice A es.length c], .int .i64 q, .slice B d.length cB] w fun e w' => e = .returned (.tuple #[.bool (stabTo es d q n), .int .i64 0]) ∧ Below w.heap.size w w' := by
  have hG := (conf_zero hc).1
  have hn12 : n ≤ 12 := by have := hG.hi; omega
  have hST : decide (firstT (waitL n q d (valL n (endsL es))) < 0) = stabTo es d q n := stable_wait hn12 hG.ok d
  have GC := Lib.hid (fun (W : World) (hB : Below w.heap.size w W) => given_ok n A c es hlen q B cB d hc W ((h.below hB).more hB.size) ((h'.below hB).more hB.size))
  have g0 := Blk.new w 24 #[.int .i64 n, .slice A es.length c]
  have hb0 : Below w.heap.size w (w.alloc (.cells #[.int .i64 n, .slice A es.length c] 24)) := (Below.refl _ _).alloc (Nat.le_refl _) _
  have c0 := g0.cell 0
  have c1 := g0.cell 1
  obtain ⟨S, hS⟩ : ∃ S, stabTo es d q n = S := ⟨_, rfl⟩
  rw [hS] at hST ⊢
  obtain ⟨rows, hrows⟩ : ∃ r, rowsL n (endsL es) = r := ⟨_, rfl⟩
  obtain ⟨val, hval⟩ : ∃ r, valL n (endsL es) = r := ⟨_, rfl⟩
  rw [hrows, hval] at GC
  rw [hval] at hST
  obtain ⟨ws, hws⟩ : ∃ r, waitL n q d val = r := ⟨_, rfl⟩
  rw [hws] at GC hST
  obtain ⟨x, hx⟩ : ∃ x, firstT ws = x := ⟨_, rfl⟩
  have HX := Lib.hid hx
  rw [hx] at hST
  clear hS hrows hval hws hG hc h h' hx
  have HS := Lib.hid hST
  clear hST
  go_enter Tryz.func91, Tryz.ntmps91
  go_wp2_with fail
  refine (GC.out _ hb0).mono ?_
  rintro e w1 ⟨bp, a, rfl, P1, hb1⟩
  have B1 := hb0.trans (hb1.mono hb0.size)
  have NX : Hid (Calls Tryz.prog 121 #[.pointer (some ⟨bp, 0, none⟩)] w1 fun e w' => e = .returned (.int .i64 x) ∧ w' = w1) := by
    have := pnext_any _ bp n a d q rows val (List.replicate n 0) 0 ws w1 P1
    rw [HX.out] at this
    exact this
  clear P1
  go_wp2_with fail
  refine (NX.out).mono ?_
  rintro e w2 ⟨rfl, rfl⟩
  go_wp2
  go_ret2
  exact ⟨by rw [← HS.out]; rfl, B1⟩

set_option maxRecDepth 100000 in
set_option maxHeartbeats 4000000 in
theorem sdual_ok (n : Nat) (A : Option Addr) (c : Nat) (es : List E3) (hlen : es.length ≤ 10000) (q : Nat) (B : Option Addr) (d : Nat) (cs : List Int) (hb : burnErr n es q cs = 0) (hst : stabTo es cs q n = true) (w : World)
    (h : Reads w w.heap.size 3 A es.length (edgeCells es)) (h' : Reads w w.heap.size 1 B cs.length (ints cs)) :
    Calls Tryz.prog 58 #[.agg #[.int .i64 n, .slice A es.length c], .int .i64 q, .slice B cs.length d] w fun e w' => ∃ A' c', e = .returned (.tuple #[.slice A' n c', .int .i64 0]) ∧ OwnI w' w.heap.size A' c' (dulL n es cs q) ∧ Below w.heap.size w w' := by
  obtain ⟨hc, h0⟩ := burn_zero hb
  rw [Int.toNat_natCast] at h0
  obtain ⟨hG, _, hq0, hqn, hcl, hcb, _⟩ := conf_zero hc
  have hcl : cs.length = n := by omega
  have hr : rootErr n es q = 0 := by
    rcases conf_cases n es q cs with ⟨h1, h2⟩ | ⟨h1, _⟩ | ⟨h1, _⟩
    · exact absurd (h2 ▸ hc) h1
    · exact h1
    · exact h1
  have SU : Hid (∀ W, Below w.heap.size w W → Calls Tryz.prog 84 #[.agg #[.int .i64 n, .slice A es.length c], .int .i64 q, .slice B cs.length d] W fun e w' => ∃ b, e = .returned (.tuple #[.bool b, .int .i64 0]) ∧ Below W.heap.size W w') := by
    intro W hB
    refine (super_any n A c es (by omega) q B d cs (by have := hG.hi; omega) W ((h.below hB).more hB.size) ((h'.below hB).more hB.size)).mono ?_
    rintro e w' ⟨rfl, hb'⟩
    have e0 : (superE n es q cs).2 = 0 := by unfold superE; rw [if_pos hb]
    exact ⟨_, by rw [e0], hb'⟩
  have ST : Hid (∀ W, Below w.heap.size w W → Calls Tryz.prog 91 #[.agg #[.int .i64 n, .slice A es.length c], .int .i64 q, .slice B cs.length d] W fun e w' => e = .returned (.tuple #[.bool true, .int .i64 0]) ∧ Below W.heap.size W w') := by
    intro W hB
    have := sstable_ok n A c es hlen q B d cs hc W ((h.below hB).more hB.size) ((h'.below hB).more hB.size)
    rw [hst] at this
    exact this
  have FI' := Lib.hid (fun (W : World) (hB : Below w.heap.size w W) => sfirst_ok n A c es hlen q hr W ((h.below hB).more hB.size))
  have g0 := Blk.new w 24 #[.int .i64 n, .slice A es.length c]
  have B0 : Below w.heap.size w (w.alloc (.cells #[.int .i64 n, .slice A es.length c] 24)) := (Below.refl _ _).alloc (Nat.le_refl _) _
  have c0 := g0.cell 0
  have c1 := g0.cell 1
  have HD : Hid (trnTo n (maxL n es q) cs n = dulL n es cs q) := trn_dul hG.ok h0
  have HDl : Hid ((dulL n es cs q).length = n) := dulL_length n es cs q
  have hml := maxL_length n es q
  have HTB : Hid (∀ x ∈ maxL n es q, -1 ≤ x ∧ x ≤ 1000000) := maxL_bd hlen hG.ok
  have HCL := Lib.hid hcl
  have HCB := Lib.hid hcb
  have hn1 : 1 ≤ n := by have := hG.lo; omega
  have hn12 : n ≤ 12 := by have := hG.hi; omega
  obtain ⟨T, hT⟩ : ∃ T, maxL n es q = T := ⟨_, rfl⟩
  obtain ⟨R, hR⟩ : ∃ R, dulL n es cs q = R := ⟨_, rfl⟩
  rw [hT] at FI' HD hml HTB
  rw [hR] at HD HDl ⊢
  have HML := Lib.hid hml
  rw [hcl] at SU ST h' ⊢
  clear hG hcl hcb h0 hml hT hR hb hc hst hr hq0 hqn
  go_enter Tryz.func58, Tryz.ntmps58
  go_wp2_with fail
  refine (SU.out _ B0).mono ?_
  rintro e w1 ⟨bb, rfl, hb1⟩
  have B1 := B0.trans (hb1.mono B0.size)
  have g1 := g0.next hb1
  have c0 := g1.cell 0
  have c1 := g1.cell 1
  clear hb1
  go_wp2_with fail
  refine (ST.out _ B1).mono ?_
  rintro e w2 ⟨rfl, hb2⟩
  have B2 := B1.trans (hb2.mono B1.size)
  have g2 := g1.next hb2
  have c0 := g2.cell 0
  have c1 := g2.cell 1
  clear hb2
  go_wp2_with fail
  refine (FI'.out _ B2).mono ?_
  rintro e w3 ⟨A3, c3, rfl, o3, hb3⟩
  have B3 := B2.trans (hb3.mono B2.size)
  have o3 := o3.mono B2.size
  obtain ⟨g, rfl, hg, _, _⟩ := o3.block (by rw [HML.out]; omega)
  clear g0 B0 c0 c1 hb3 g1 g2 B1 B2
  go_wp2_with fail
  go_loopw [13, 14, 48] (fun _ _ i wl => ∃ v : Nat, v ≤ n ∧ i = .int .i64 v ∧ Hid (OwnI wl w.heap.size (some ⟨g, 0, none⟩) c3 (trnTo n T cs v)) ∧ Hid (Below w.heap.size w wl)) (fun _ _ i _ => n - (intOf i).toNat)
  case atStart => exact ⟨0, by omega, rfl, by rw [Hid, trnTo_zero cs HML.out]; exact o3, B3⟩
  case round =>
    obtain ⟨v, hv, rfl, HO, HB⟩ := hrel
    clear o3 B3
    by_cases hlt : v < n
    · have hi : (v : Int) < (n : Int) := by omega
      obtain ⟨x, hx⟩ := get_of_lt (xs := T) (k := v) (by rw [HML.out]; exact hlt)
      obtain ⟨y, hy⟩ := get_of_lt (xs := cs) (k := v) (by rw [HCL.out]; exact hlt)
      have hxb := HTB.out x (List.mem_of_getElem? hx)
      have hyb := HCB.out y (List.mem_of_getElem? hy)
      obtain ⟨bB, oB, hA, hbB, hcell⟩ := (h'.below HB.out).at_ (ints_at hy)
      subst hA
      have hms := trnTo_succ (n := n) hx hy
      have hat := trnTo_at (n := n) (cs := cs) hlt hx
      obtain ⟨g', hg', hgb, hfz, hcz⟩ := HO.out.block (by rw [trnTo_length]; omega)
      injection hg' with hg'
      injection hg' with hg'
      subst hg'
      have k0 := hcz v x hat
      have f0 := hfz v
      have hw1 : IntKind.i64.wrap (x - y) = x - y := IntWalk.i64_in _ (by omega)
      have O2 := HO.out.put v (x - y)
      rw [← hms] at O2
      have HO2 := Lib.hid O2
      have B2 := Lib.hid (HB.out.setCell (p := ⟨g, v, none⟩) (by show w.heap.size ≤ g; exact hgb) (.int .i64 (x - y)))
      clear hx hy hms hat O2 hfz hcz
      go_wp2
      go_roundw
      case rel => exact ⟨v + 1, by omega, by go_num, HO2, B2⟩
      case measure => simp [intOf]; omega
    · obtain rfl : v = n := by omega
      have hO := HO.out
      rw [HD.out] at hO
      have hB := HB.out
      go_wp2
      go_ret2
      exact ⟨_, _, rfl, hO, hB⟩
end Go.Proofs.YtghigdcpinengaaGreat

