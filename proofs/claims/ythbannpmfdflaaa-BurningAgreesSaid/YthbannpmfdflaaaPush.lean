/-
  Package burning: Push.
-/
import Derived.Test.YthbannpmfdflaaaBurn
import Derived.Test.YthbannpmfdflaaaPushE
import Derived.Test.YthbannpmfdflaaaOwnSet
import Derived.Deep.MidRow
import Derived.Sort.CutIn
namespace Go.Proofs.Ythbannpmfdflaaa
open Go.RowKit Go.Shelf
attribute [local go_sem] Oper.semAt_some

/-- What holds between two rounds of Push. -/
structure PF (n : Nat) (es : List E3) (q : Nat) (r : Option (List Int × List Int)) (w : World) (A : Option Addr) (c g gs : Nat) (ga cA : Nat) (cs ss : List Int) (m : Nat) (ds : List Deferred) (wo : World) : Prop where
  bel : Below w.heap.size w wo
  gr : Blk wo w.heap.size 24 #[.int .i64 n, .slice A es.length c]
  gw : Wood wo g n es (.slice (some ⟨ga, 0, none⟩) cs.length cA) [q]
  oc : OwnI wo w.heap.size (some ⟨ga, 0, none⟩) cA cs
  os : Blk wo gs 3 (intCells ss)
  ne : ga ≠ gs ∧ w.heap.size < ga ∧ w.heap.size < gs ∧ w.heap.size < g
  st : PState es n q r cs ss m
  mm : m ≤ 1048576
  mks : MarksAt ds wo
  md : ∀ D, ({ target := .collected D, args := #[] } : Deferred) ∈ ds → w.heap.size < D ∧ D < wo.heap.size ∧ D ≠ g ∧ D ≠ ga ∧ D ≠ gs

theorem make_pscript (n : Nat) (hn : n ≤ 1048576) (W : World) : (Instr.makeSlice 29 (.int .i64 (n : Int)) (.int .i64 (n : Int))).run Try.prog W =
    .ok (.slice (some ⟨W.heap.size, 0, none⟩) n n) (W.alloc (.cells (ints (List.replicate n 0)).toArray 3)) := by
  obtain ⟨i0, hi, hz0, hz1, hz2⟩ := info_parts info_int
  have hr := run_make (P := Try.prog) W 29 3 i0 (.int .i64 0) Try.underlying29 hi hz0 .i64 .i64 n n (by omega) (Int.le_refl _) (by rw [hz2]; omega) (by omega)
  simp only [Int.toNat_natCast, hz1, Nat.mul_one] at hr
  rw [hr, show (Value.int .i64 0).cells = #[.int .i64 0] from rfl, made_ints]

theorem wcells_set_ch {n : Nat} {t : Nat → Nat → Int} {ch ch' : Value} {l : List Nat} : (wcells n t ch l).setIfInBounds 145 ch' = wcells n t ch' l := by
  unfold wcells
  rw [List.setIfInBounds_toArray, show 145 = 144 + 1 from rfl, List.set_cons_succ, List.set_append_right _ _ (by rw [wtab_length]; omega), wtab_length]
  rfl
theorem wcells_clear {n : Nat} {t : Nat → Nat → Int} {ch : Value} {l : List Nat} {i : Nat} (hi : i < 12) : (wcells n t ch (l.filter fun u => decide (i ≤ u))).setIfInBounds (146 + i) (.bool false) = wcells n t ch (l.filter fun u => decide (i + 1 ≤ u)) := by
  unfold wcells
  rw [List.setIfInBounds_toArray, show 146 + i = (145 + i) + 1 from by omega, List.set_cons_succ, List.set_append_right _ _ (by rw [wtab_length]; omega), wtab_length, show 145 + i - 144 = i + 1 from by omega]
  congr 3
  unfold wtail
  rw [List.set_cons_succ]
  congr 1
  apply List.ext_getElem?
  intro k
  rw [List.getElem?_set]
  by_cases hk : k < 12
  · by_cases he : i = k
    · subst he; simp [hi]
    · rw [if_neg he, List.getElem?_map, List.getElem?_map, List.getElem?_range hk]
      have : (k ∈ l.filter fun u => decide (i + 1 ≤ u)) ↔ k ∈ l.filter fun u => decide (i ≤ u) := by
        simp only [List.mem_filter, decide_eq_true_eq]
        exact and_congr_right fun _ => by omega
      simp only [Option.map_some, this]
  · rw [if_neg (by omega)]
    rw [List.getElem?_eq_none (by simp; omega), List.getElem?_eq_none (by simp; omega)]
theorem Wood.chips {w : World} {g n : Nat} {es : List E3} {ch : Value} {l : List Nat} (h : Wood w g n es ch l) (ch' : Value) : Wood (w.setCell ⟨g, 145, none⟩ ch') g n es ch' (l.filter fun u => decide (0 ≤ u)) := by
  have := Blk.set_ h 145 ch'
  rw [wcells_set_ch] at this
  rwa [show (l.filter fun u => decide (0 ≤ u)) = l from List.filter_eq_self.2 (by simp)]
theorem Wood.clear {w : World} {g n : Nat} {es : List E3} {ch : Value} {l : List Nat} {i : Nat} (h : Wood w g n es ch (l.filter fun u => decide (i ≤ u))) (hi : i < 12) : Wood (w.setCell ⟨g, 146 + i, none⟩ (.bool false)) g n es ch (l.filter fun u => decide (i + 1 ≤ u)) := by
  have := Blk.set_ h (146 + i) (.bool false)
  rwa [wcells_clear hi] at this
theorem clear12 {V V1 : World} {g n m : Nat} {es : List E3} {ch : Value} {l : List Nat} (G : Wood V g n es ch (l.filter fun u => decide (0 ≤ u))) (h : V.setCells g 146 (List.replicate 12 (Value.bool false)) = V1) (hl : LOk m l) (hm : m ≤ 12) : Wood V1 g n es ch [] := by
  subst h
  have := (((((((((((G.clear (i := 0) (by omega)).clear (i := 1) (by omega)).clear (i := 2) (by omega)).clear (i := 3) (by omega)).clear (i := 4) (by omega)).clear (i := 5) (by omega)).clear (i := 6) (by omega)).clear (i := 7) (by omega)).clear (i := 8) (by omega)).clear (i := 9) (by omega)).clear (i := 10) (by omega)).clear (i := 11) (by omega)
  have e : (l.filter fun u => decide (11 + 1 ≤ u)) = [] := by
    rw [List.filter_eq_nil_iff]
    intro u hu
    have := hl.2 u hu
    simp; omega
  rw [e] at this
  exact this
theorem only_cells {C : Nat → Prop} {a w : World} {b : Nat} (h : Only C a w) (hb : C b) (o : Nat) (vs : List Value) : Only C a (w.setCells b o vs) := by
  induction vs generalizing w o with
  | nil => exact h
  | cons v vs ih => exact ih (h.setCell (p := ⟨b, o, none⟩) (.inl hb) v) (o + 1)
theorem store_gi {F : Fence} {m0 : Nat} {P : Program} {ops : Array Oper} {rest : List Oper} {o : Oper} {a : Act} {Q : Exit → Act → World → Prop} {w : World} {ty : TypeId} {x y : Operand} {b off : Nat} {cells : Array Value}
    (ho : o.op = .store ty x y) (hgd : o.guard = none) (hd : o.dst = none) (hx : a.eval x = .pointer (some ⟨b, off, none⟩)) (hy : a.eval y = .agg cells) (ht : w.there b off cells.size) (hi : (P.info? ty).map (·.size) = some cells.size) (h1 : cells.all (·.oneCell') = true)
    (hK : ∀ w', w.setCells b off cells.toList = w' → wpListIn F m0 P ops Q rest a w') : wpListIn F m0 P ops Q (o :: rest) a w := by
  have hrun := run_storeVar_mid (P := P) w b off ty cells ht hi h1
  refine wpListIn_plain hgd fun K hK2 => ?_
  unfold Oper.wpIn
  refine ⟨?_, ?_⟩
  · simp [Oper.about, ho]
  · rw [Oper.semAt_plain F _ _ (by rw [ho]; intro c hc'; cases hc')]
    simp [execOp, ho, Instr.storeAt, Instr.sureAddr, hx, hy, hrun, Result.andThen]
    exact hK2 _ _ (by have := hK _ rfl; simpa [hd, Act.put] using this)
theorem intCells_at' {xs : List Int} {k : Nat} {x : Int} (h : xs[k]? = some x) : (intCells xs)[k]? = some (.int .i64 x) := by simp [intCells, ints, h]

set_option maxRecDepth 100000 in
set_option maxHeartbeats 8000000 in
theorem push_ok (n : Nat) (A : Option Addr) (c : Nat) (es : List E3) (hn : es.length ≤ 1048576) (q : Nat) (B : Option Addr) (d : Nat) (cs0 : List Int) (hm : cs0.length ≤ 1048000) (hck : burnErr n es q cs0 = 0) (r : Option (List Int × List Int)) (hr : PushR es n q cs0 (List.replicate n 0) 0 r) (w : World) (h : Reads w w.heap.size 3 A es.length (edgeCells es)) (h' : Reads w w.heap.size 1 B cs0.length (ints cs0)) :
    Calls Try.prog 15 #[.agg #[.int .i64 n, .slice A es.length c], .int .i64 q, .slice B cs0.length d] w fun e w' =>
      ((∃ A1 c1 A2 c2 cs ss, r = some (cs, ss) ∧ e = .returned (.tuple #[.slice A1 cs.length c1, .slice A2 ss.length c2, .int .i64 0]) ∧ OwnI w' w.heap.size A1 c1 cs ∧ OwnI w' w.heap.size A2 c2 ss) ∨
       (r = none ∧ e = .returned (.tuple #[.slice none 0 0, .slice none 0 0, .int .i64 12]))) ∧ Below w.heap.size w w' := by
  have hbc := bcheck_any n A c es hn q B d cs0 (by omega)
  rw [hck] at hbc
  have BC := Lib.hid hbc
  obtain ⟨hG, _, _, hqn, hlen, hbd, _⟩ := conf_zero (burn_zero hck).1
  have hhi := hG.hi
  have hq : q < n := by omega
  have hcl : cs0.length = n := by omega
  have KC := Lib.hid (kindled_any n A c es hn hG q hq B d cs0 hm)
  have HG := Lib.hid hG
  have HCL := Lib.hid hcl
  have hP0 : PState es n q r cs0 (List.replicate n 0) 0 := ⟨hcl, by simp, .inl ⟨by omega, hr, (show Bd (1048576 + 14400 * (0:Nat)) cs0 from fun x hx => by have := hbd x hx; simp; omega), fun x hx => by rw [List.eq_of_mem_replicate hx]; simp⟩⟩
  have HP0 := Lib.hid hP0
  have g0 := Blk.new w 24 #[.int .i64 n, .slice A es.length c]
  have hmk := make_pscript n (by omega)
  clear hbc hck hG hlen hcl hr hP0 hbd hqn
  refine (callsIn_wide (n := 3)).1 ?_
  refine callsIn_of_wp_marks Try.func15 rfl trivial ?_
  simp only [Try.ntmps15, List.size_toArray, List.length_cons, List.length_nil, Nat.reduceAdd, Nat.reduceSub, Array.replicate_succ, Array.replicate_zero, List.push_toArray, List.append_toArray, List.nil_append, List.cons_append]
  gi_wp2_with fail
  refine ⟨trivial, ?_⟩
  refine (inW (BC.out _ ((h.alloc (Nat.le_refl _) _).more (by simp)) ((h'.alloc (Nat.le_refl _) _).more (by simp)))).mono ?_
  rintro e w1 ⟨rfl, hb1⟩
  have g1 := g0.next hb1
  have c0 := g1.cell 0
  have c1 := g1.cell 1
  have hbel1 : Below w.heap.size w w1 := ((Below.refl _ _).alloc (Nat.le_refl _) _).trans (hb1.mono (by simp))
  have hs1 := g1.lt
  gi_wp2_with fail
  refine ⟨trivial, ?_⟩
  refine (inW (KC.out _ ((h.below hbel1).more hbel1.size) ((h'.below hbel1).more hbel1.size))).mono ?_
  rintro e w2 ⟨g, A', c', rfl, gw, ow, hgb, hb2⟩
  have g2 := g1.next hb2
  have c0 := g2.cell 0
  have hbel2 := hbel1.trans (hb2.mono hbel1.size)
  have hs2 := hbel2.size
  have hgw := Blk.lt gw
  obtain ⟨ga, rfl, hga, _, _⟩ := ow.block (by have := HCL.out; omega)
  have hgaw := (own_lt ow (k := ga) ⟨_, rfl, rfl⟩).2
  have s3 : Blk (w2.alloc (.cells (ints (List.replicate n 0)).toArray 3)) w2.heap.size 3 (intCells (List.replicate n 0)) := Blk.new w2 3 (ints (List.replicate n 0)).toArray
  have hF0 : PF n es q r w A c g w2.heap.size ga c' cs0 (List.replicate n 0) 0 [] (w2.alloc (.cells (ints (List.replicate n 0)).toArray 3)) :=
    ⟨hbel2.alloc hs2 _, g2.alloc _, Blk.alloc gw _, (ow.alloc _).mono (by omega), s3, ⟨by omega, by omega, by omega, by omega⟩, HP0.out, by omega, trivial, fun D hD => by cases hD⟩
  have HF0 := Lib.hid hF0
  obtain ⟨w3, hw3⟩ : ∃ w3, w2.alloc (.cells (ints (List.replicate n 0)).toArray 3) = w3 := ⟨_, rfl⟩
  rw [hw3] at HF0
  clear g0 g1 c1 hb1 hb2 gw ow s3 hF0 hbel1 HP0
  have HW3 := Lib.hid hw3
  clear hw3
  gi_wp2_with fail
  refine wpIn_loop (fun a' wo => ∃ (ga cA : Nat) (cs ss : List Int) (m : Nat) (ds : List Deferred) (U : Nat → Value), PF n es q r w A c g w2.heap.size ga cA cs ss m ds wo ∧
      a' = { tmps := #[.agg #[.int .i64 n, .slice A es.length c], .int .i64 q, .slice B cs0.length d, .pointer (some ⟨w.heap.size, 0, none⟩), undef, undef, .slice none 0 0, .slice none 0 0, .int .i64 0, .int .i64 0, .pointer (some ⟨g, 0, none⟩), .slice (some ⟨w2.heap.size, 0, none⟩) n n, .int .i64 m, U 13, U 14, U 15, U 16, U 17, .agg #[.int .i64 n, .slice A es.length c], .int .i64 q, .slice B cs0.length d, .int .i64 0, .int .i64 0, .bool false, undef, .agg #[.int .i64 n, .slice A es.length c], .int .i64 q, .slice B cs0.length d, .pointer (some ⟨g, 0, none⟩), .pointer (some ⟨w.heap.size, 0, none⟩), .int .i64 n, .slice (some ⟨w2.heap.size, 0, none⟩) n n, U 32, U 33, U 34, U 35, U 36, U 37, U 38, U 39, U 40, U 41, U 42, U 43, U 44, U 45, U 46, U 47, U 48, U 49, U 50, U 51, U 52, U 53, U 54, U 55, U 56, U 57, U 58, U 59, U 60, U 61, U 62, U 63, U 64, U 65, U 66, U 67, U 68, U 69, U 70, U 71, U 72, U 73, U 74, U 75, U 76, U 77, U 78, U 79, U 80, U 81, U 82, U 83, U 84, U 85, U 86, U 87, U 88, U 89, U 90, U 91, U 92, U 93, U 94, U 95, U 96, U 97, U 98, U 99, U 100, U 101, U 102, U 103, U 104, U 105, U 106, U 107, U 108, U 109, U 110, U 111, U 112, U 113, U 114, U 115, U 116, U 117, U 118, U 119], defers := ds }) (fun a' _ => 1048590 - (intOf (a'.tmps.getD 12 undef)).toNat) ?_ ?_
  · refine ⟨ga, c', cs0, List.replicate n 0, 0, [], fun _ => undef, by rw [HW3.out]; exact HF0.out, rfl⟩
  · rintro a' wo ⟨ga, cA, cs, ss, m, ds, U, hF, rfl⟩
    dsimp only
    clear HF0 HW3 hbel2 g2 c0 hmk h h' hga hgaw
    obtain ⟨gs, hgs⟩ : ∃ gs, w2.heap.size = gs := ⟨_, rfl⟩
    rw [hgs] at hF ⊢
    clear hgs
    have hcl := hF.st.1
    have hsl := hF.st.2.1
    have hgo := Blk.lt hF.gw
    have hgr := hF.gr.lt
    have hgso := hF.os.lt
    have hgao := (own_lt hF.oc (k := ga) ⟨_, rfl, rfl⟩).2
    have hne := hF.ne
    gi_wp2_with fail
    refine ⟨trivial, ?_⟩
    refine (inW (fire_any g wo)).mono ?_
    rintro e w4 ⟨rfl, hw4⟩
    have r2 : Blk w4 wo.heap.size 88 #[.pointer (some ⟨g, 0, none⟩)] := by rw [← hw4]; exact Blk.new wo _ _
    have hb4 : Below wo.heap.size wo w4 := by rw [← hw4]; exact (Below.refl _ _).alloc (Nat.le_refl _) _
    have hs4 : w4.heap.size = wo.heap.size + 1 := by rw [← hw4]; simp
    clear hw4
    have gw4 : Wood w4 g n es (.slice (some ⟨ga, 0, none⟩) cs.length cA) [q] := Blk.next hF.gw hb4
    have oc4 := hF.oc.next hb4
    have hAg : ∀ k, blockOf (some ⟨ga, 0, none⟩) k → ¬ k = g := fun k hk => own_blk oc4 gw4 (by decide) hk
    have hgag : ga ≠ g := hAg ga ⟨_, rfl, rfl⟩
    have hgsg : gs ≠ g := Blk.ne_ hF.os hF.gw (by decide)
    gi_wp2_with fail
    refine rangeF_outer (n := 3) (gf := 116) (lb := #[.pointer (some ⟨wo.heap.size, 0, none⟩)]) (by rfl) (enters_of Try.func116 (by kernel_rfl) rfl)
      (fire_iter g n (by omega) (by omega) es n HG.out.ok (some ⟨ga, 0, none⟩) cA cs hcl [q] ⟨by simp, by simpa using hq⟩ wo.heap.size w4 r2 gw4 oc4.reads hAg) ?hF0 ?hK (fun _ => False) ?hC
      (fun pre C W => Only (fun k => k = g) w4 W ∧ ∀ k, ¬ C k)
      (fun _ _ _ _ => False) ?hI (fun _ _ _ _ _ h _ => h) ?h0 ?hps ?round ?done (fun _ _ _ _ _ h => h.elim)
    case hF0 => intro a b hf ho; exact Blk.only hf ho (by omega)
    case hK =>
      rintro k (rfl | rfl | ⟨a, ha, rfl⟩)
      · omega
      · omega
      · injection ha with ha; subst ha; show ga < _; omega
    case hC => intro k hk; exact hk.elim
    case hI =>
      rintro pre C a b ⟨h1, h2⟩ hst
      exact ⟨⟨hst.os.trans h1.os, hst.tape.trans h1.tape, hst.output.trans h1.output, Nat.le_trans h1.size hst.size, fun k hk hn => (hst.block k (Nat.lt_of_lt_of_le hk h1.size) (.inr ⟨hk, hn⟩)).trans (h1.block k hk hn)⟩, h2⟩
    case h0 => exact ⟨Only.refl _ _, fun _ h => h⟩
    case hps => intro x' args O W' (ha : args = _); subst ha; rfl
    case round =>
      intro l pre x args C O W hpre hI hl hC hO harg hlW hnC hnO T hT
      obtain rfl : args = #[.int .i64 x] := harg
      gi_wp2
      refine hT _ _ (Only.refl _ _) ?_
      intro w5 h5 _
      gi_wp2
      exact ⟨C, Only.refl _ _, fun k hk => .inl hk, ⟨h5.os.trans hI.1.os, h5.tape.trans hI.1.tape, h5.output.trans hI.1.output, Nat.le_trans hI.1.size h5.size, fun k hk hn => (h5.block k (Nat.lt_of_lt_of_le hk hI.1.size) (by omega)).trans (hI.1.block k hk hn)⟩, hI.2⟩
    case done =>
      rintro C W ⟨hO, _⟩ hfin hnD hD
      obtain ⟨bl, hbl⟩ : ∃ bl, burnL es cs n n [q] = bl := ⟨_, rfl⟩
      rw [hbl] at hfin
      have hleft : leftC es n q cs = restL n bl := by unfold leftC burntL; rw [hbl]
      have HBL : Hid (burntL es cs n q = bl) := by rw [Hid]; unfold burntL; exact hbl
      have hWs : w4.heap.size ≤ W.heap.size := hO.size
      have hDl : w4.heap.size < W.heap.size := (Array.getElem?_eq_some_iff.1 hD).1
      have hbelW : Below w.heap.size w W := (hF.bel.trans (hb4.mono hF.bel.size)).trans (hO.below (fun k hk e => by omega) (by omega))
      have grW : Blk W w.heap.size 24 #[.int .i64 n, .slice A es.length c] := (hF.gr.next hb4).only hO (by omega)
      have osW : Blk W gs 3 (intCells ss) := (hF.os.next hb4).only hO (fun e => hgsg e)
      have ocW : OwnI W w.heap.size (some ⟨ga, 0, none⟩) cA cs := oc4.kept (hO.block ga (by omega) (fun e => hgag e))
      have hmks : MarksAt ({ target := .collected w4.heap.size, args := #[] } :: ds) W := by
        refine ⟨w4.heap.size, rfl, hD, ?_, hF.mks.keep fun D hDd => ?_⟩
        · intro d' hd' e
          subst e
          have := (hF.md _ hd').2.1
          omega
        · have := hF.md D hDd
          exact (hO.block D (by omega) (by omega)).trans (hb4.block D this.2.1)
      have hmd : ∀ D, ({ target := .collected D, args := #[] } : Deferred) ∈ ({ target := .collected w4.heap.size, args := #[] } : Deferred) :: ds → w.heap.size < D ∧ D < W.heap.size ∧ D ≠ g ∧ D ≠ ga ∧ D ≠ gs := by
        intro D hDd
        rcases List.mem_cons.1 hDd with e | e
        · obtain rfl : D = w4.heap.size := by injection e with e; injection e
          exact ⟨by omega, hDl, by omega, by omega, by omega⟩
        · have := hF.md D e
          exact ⟨this.1, by omega, this.2.2⟩
      have HST := Lib.hid hF.st
      have hmm := hF.mm
      have HMD := Lib.hid hmd
      have HMK := Lib.hid hmks
      obtain ⟨ds', hds'⟩ : ∃ ds', ({ target := .collected w4.heap.size, args := #[] } : Deferred) :: ds = ds' := ⟨_, rfl⟩
      rw [hds'] at HMD HMK ⊢
      have UC := Lib.hid (unburnt_any g n (by omega) es (.slice (some ⟨ga, 0, none⟩) cs.length cA) bl W hfin)
      have hbdc : Bd (1048576 + 14400 * m) cs ∧ Bd m ss := by
        rcases HST.out.2.2 with h | h
        · exact ⟨h.2.2.1, h.2.2.2⟩
        · omega
      have HBD := Lib.hid hbdc
      have hLl : (restL n bl).length ≤ 12 := by have := restL_length n bl; omega
      rw [← hleft] at UC hLl
      have HLF : Hid (leftC es n q cs = restL n bl) := hleft
      have hblok : LOk n bl := by rw [← hbl]; exact burnL_len ⟨by simp, by simpa using hq⟩
      have HBO := Lib.hid hblok
      obtain ⟨L, hL⟩ : ∃ L, leftC es n q cs = L := ⟨_, rfl⟩
      rw [hL] at UC hLl HLF
      have HL := Lib.hid hL
      clear hF r2 hb4 gw4 oc4 hAg hO hD hbl hleft hmks hmd hds' hbdc hblok hL hnD
      gi_wp2_with fail
      refine ⟨trivial, ?_⟩
      refine (inW UC.out).mono ?_
      rintro e w7 ⟨A7, c7, rfl, o7, b7⟩
      have gw7 : Wood w7 g n es (.slice (some ⟨ga, 0, none⟩) cs.length cA) bl := Blk.next hfin b7
      have cw7 := gw7.ch_
      have oc7 := ocW.next b7
      have os7 := osW.next b7
      have gr7 := grW.next b7
      have hbel7 := hbelW.trans (b7.mono hbelW.size)
      have HMK7 : Hid (MarksAt ds' w7) := HMK.out.keep fun D hD => b7.block D (HMD.out D hD).2.1
      have hs7 := b7.size
      clear UC hfin ocW osW grW hbelW HMK
      by_cases hL0 : L = []
      · subst hL0
        have HR := Lib.hid (show r = some (cs, ss) by
          rcases HST.out.2.2 with h | h
          · exact h.2.1.done_inv HL.out
          · omega)
        gi_wp2
        refine end_marks ds' _ HMK7.out fun w' ho => ⟨.tuple #[.slice (some ⟨ga, 0, none⟩) cs.length cA, .slice (some ⟨gs, 0, none⟩) n n, .int .i64 0], by simp [results, Try.results15, go_sem] <;> omega, .inl ⟨_, _, _, _, cs, ss, HR.out, by rw [hsl], ?_, ?_⟩, ?_⟩
        · exact oc7.kept (ho.block ga (by omega) fun e => (HMD.out ga e).2.2.2.1 rfl)
        · have h1 : Blk w' gs 3 (intCells ss) := (ho.block gs os7.lt fun e => (HMD.out gs e).2.2.2.2 rfl).trans os7
          have := OwnI.of_blk h1 (base := w.heap.size) (by omega) (by rw [hsl]; simp [maxLen]; omega)
          rw [hsl] at this
          exact this
        · exact hbel7.trans (ho.below (fun k hk e => by have := (HMD.out k e).1; omega) hbel7.size)
      · have hLp := List.length_pos_iff.2 hL0
        have hb0 : ((L.length : Int) == 0) = false := by simp; omega
        by_cases hov : m + L.length ≤ 1048576
        · have hi : ¬ (1048576 : Int) < (m : Int) + (L.length : Int) := by omega
          have HPN := Lib.hid (HST.out.next (by omega) HG.out.ok hmm (by rw [HL.out]; exact hL0))
          rw [HL.out] at HPN
          have hrd7 := oc7.reads
          have DC := dclone_any (some ⟨ga, 0, none⟩) cA cs (by omega) w7 hrd7
          rw [hcl] at DC
          have DC := Lib.hid DC
          gi_wp2_with fail
          refine ⟨trivial, ?_⟩
          refine (inW DC.out).mono ?_
          rintro e w8 ⟨A8, c8, rfl, o8, b8⟩
          obtain ⟨gn, rfl, hgn, _, _⟩ := o8.block (by omega)
          have hgn8 := (own_lt o8 (k := gn) ⟨_, rfl, rfl⟩).2
          have gw8 : Wood w8 g n es (.slice (some ⟨ga, 0, none⟩) cs.length cA) bl := Blk.next gw7 b8
          have os8 := os7.next b8
          have gr8 := gr7.next b8
          have o78 := o7.next b8
          have hbel8 := hbel7.trans (b8.mono hbel7.size)
          have HMK8 : Hid (MarksAt ds' w8) := HMK7.out.keep fun D hD => b8.block D (by have := (HMD.out D hD).2.1; omega)
          have hs8 := b8.size
          have HOK := Lib.hid HG.out.ok
          have hA7 : ∀ k, blockOf A7 k → W.heap.size ≤ k ∧ k < w7.heap.size := fun k hk => own_lt o7 hk
          have HA7 := Lib.hid hA7
          clear hA7
          clear DC gw7 os7 gr7 hbel7 HMK7 b7 b8 hrd7 cw7 oc7 o7 hb0 HST
          have hLlt : ∀ u ∈ L, u < n := by rw [← HL.out]; exact fun u hu => (mem_rest.1 hu).1
          have HLT := Lib.hid hLlt
          have HGR : Hid (∀ W' : World, Only (fun k => k = gs ∨ k = gn) w8 W' → Blk W' w.heap.size 24 #[.int .i64 n, .slice A es.length c] ∧ Wood W' g n es (.slice (some ⟨ga, 0, none⟩) cs.length cA) bl ∧ OwnI W' W.heap.size A7 c7 (natI L)) := fun W' hX =>
            ⟨gr8.only hX (by rintro (e | e) <;> omega), Blk.only gw8 hX (by rintro (e | e) <;> omega), own_kept o78 fun k hk => hX.block k (by have := HA7.out k hk; omega) (by have := HA7.out k hk; rintro (e | e) <;> omega)⟩
          have o8' : OwnI w8 w7.heap.size (some ⟨gn, 0, none⟩) c8 (fireL es bl n cs (L.take 0)) := o8
          have os8' : Blk w8 gs 3 (intCells (bumpL ss (L.take 0))) := os8
          have HSL := Lib.hid hsl
          have HCL2 := Lib.hid hcl
          have c0 := gr8.cell 0
          clear hLlt gr8 o78 o8 os8 hsl hcl gw8
          gi_wp2_with fail
          gi_loopw [58] (fun i wr => ∃ k : Nat, k ≤ L.length ∧ i = .int .i64 k ∧ Only (fun k => k = gs ∨ k = gn) w8 wr ∧ Blk wr gs 3 (intCells (bumpL ss (L.take k))) ∧ OwnI wr w7.heap.size (some ⟨gn, 0, none⟩) c8 (fireL es bl n cs (L.take k))) (fun i _ => L.length - (intOf i).toNat)
          case atStart => exact ⟨0, by omega, rfl, Only.refl _ _, os8', o8'⟩
          case round =>
            obtain ⟨k, hk, rfl, hX, os9, on9⟩ := hrel
            clear os8' o8' c0
            obtain ⟨gr9, gw9, ol9⟩ := HGR.out _ hX
            by_cases hkl : k < L.length
            · obtain ⟨v, hv⟩ := get_of_lt hkl
              have hvn := HLT.out v (List.mem_of_getElem? hv)
              have hki : (k : Int) < (L.length : Int) := by omega
              have hvi : (v : Int) < (n : Int) := by omega
              have hrd := ol9.reads
              rw [natI_length] at hrd
              obtain ⟨b, off, rfl, hb, hcell⟩ := hrd.at_ (ints_at (show (natI L)[k]? = some (v : Int) by simp [natI, hv]))
              have hsn := bumpL_snoc (xs := ss) (L.take k) v
              have hfn := fireL_snoc (es := es) (b := bl) (n := n) (xs := cs) (L.take k) v
              rw [← take_snoc hv] at hsn hfn
              have hbl1 := bumpL_length (xs := ss) (L.take k)
              have hbb := bumpL_bd (by omega) HBD.out.2 (L.take k)
              have hfl := fireL_length (es := es) (b := bl) (n := n) (xs := cs) (L.take k)
              have hfb := fireL_bd (b := bl) HOK.out (show n ≤ 12 by omega) (by omega) HBD.out.1 (L.take k)
              rw [HSL.out] at hbl1
              rw [HCL2.out] at hfl
              have htl : (L.take k).length ≤ 12 := by rw [List.length_take]; omega
              obtain ⟨ys, hys⟩ : ∃ ys, bumpL ss (L.take k) = ys := ⟨_, rfl⟩
              obtain ⟨xs, hxs⟩ : ∃ xs, fireL es bl n cs (L.take k) = xs := ⟨_, rfl⟩
              rw [hys] at hsn hbl1 hbb os9
              rw [hxs] at hfn hfl hfb on9
              obtain ⟨y, hy⟩ := get_of_lt (xs := ys) (k := v) (by omega)
              obtain ⟨x, hx⟩ := get_of_lt (xs := xs) (k := v) (by omega)
              have hyb := hbb.at_ hy
              have hxb := hfb.at_ hx
              have hfm := flmTo_bd HOK.out bl v n
              have hy0 : -1048600 ≤ y := by omega
              have hy1 : y ≤ 1048600 := by omega
              have hx0 : -100000000000 ≤ x := by omega
              have hx1 : x ≤ 100000000000 := by omega
              have cy := os9.cell v
              rw [intCells_at' hy] at cy
              have fy := os9.frozen v
              obtain ⟨_, _, fx9, cx9⟩ := on9.at_ (by omega)
              have cx := cx9 v x hx
              have fx := fx9 v
              have cb := gr9.cell 0
              have X1 : Only (fun k => k = gs ∨ k = gn) w8 (wr.setCell ⟨gs, v, none⟩ (.int .i64 (y + 1))) := hX.setCell (.inl (.inl rfl)) _
              have on10 : OwnI (wr.setCell ⟨gs, v, none⟩ (.int .i64 (y + 1))) w7.heap.size (some ⟨gn, 0, none⟩) c8 xs := on9.other (by show gs ≠ gn; omega) _
              obtain ⟨_, _, fx10, cx10⟩ := on10.at_ (by omega)
              have cx1 := cx10 v x hx
              have fx1 := fx10 v
              have FC := Lib.hid (flames_any g n (by omega) es n HOK.out (.slice (some ⟨ga, 0, none⟩) cs.length cA) bl v (by omega) (wr.setCell ⟨gs, v, none⟩ (.int .i64 (y + 1))).drew (by exact (HGR.out _ X1).2.1))
              obtain ⟨fl, hfl2⟩ : ∃ fl, flmTo es bl v n = fl := ⟨_, rfl⟩
              rw [hfl2] at FC hfm
              have hfm0 := hfm.1
              have hfm1 : fl ≤ 600 := by omega
              have HXB := Lib.hid hfb
              have HXL := Lib.hid hfl
              have HFN := Lib.hid (show fireL es bl n cs (L.take (k + 1)) = giveTo es bl v (addAt xs v (-fl)) n by rw [hfn]; unfold fireV; rw [hfl2])
              have HYN := Lib.hid hsn
              have HY := Lib.hid (show addAt ys v 1 = ys.set v (y + 1) by unfold addAt; rw [getD_at hy])
              have HXA := Lib.hid (show addAt xs v (-fl) = xs.set v (x - fl) by unfold addAt; rw [getD_at hx]; congr 1)
              have hwr : IntKind.i64.wrap (x - fl) = x - fl := IntWalk.i64_in _ (by omega)
              have HWR := Lib.hid hwr
              clear hwr hsn hfn hbl1 hbb hfl hfb hfm hfl2 hyb hxb cx9 fx9 cx10 fx10 hrd hv hys hxs
              gi_wp2_with fail
              refine wpIn_nopanic ?_
              gi_region_with (refine ⟨trivial, ?_⟩; gi_at_call 67; refine (inW (FC.out)).mono ?_; rintro e w' ⟨rfl, rfl⟩)
              all_goals (
                refine nopanic_normal ?_
                rw [HWR.out]
                have X2 : Only (fun k => k = gs ∨ k = gn) w8 ((wr.setCell ⟨gs, v, none⟩ (.int .i64 (y + 1))).setCell ⟨gn, v, none⟩ (.int .i64 (x - fl))).drew := (X1.setCell (.inl (.inr rfl)) _).drew
                have os2 : Blk ((wr.setCell ⟨gs, v, none⟩ (.int .i64 (y + 1))).setCell ⟨gn, v, none⟩ (.int .i64 (x - fl))).drew gs 3 (intCells (bumpL ss (L.take (k + 1)))) := by
                  have := ((os9.set_ v (.int .i64 (y + 1))).far (p := ⟨gn, v, none⟩) (by show gs ≠ gn; omega) (.int .i64 (x - fl))).drew
                  rw [intCells_set, ← HY.out, ← HYN.out] at this
                  exact this
                have on2 : OwnI ((wr.setCell ⟨gs, v, none⟩ (.int .i64 (y + 1))).setCell ⟨gn, v, none⟩ (.int .i64 (x - fl))).drew w7.heap.size (some ⟨gn, 0, none⟩) c8 (giveTo es bl v (addAt xs v (-fl)) 0) := by
                  have := (on10.put v (x - fl)).drew
                  rw [← HXA.out] at this
                  exact this
                obtain ⟨w9, hw9⟩ : ∃ w9, ((wr.setCell ⟨gs, v, none⟩ (.int .i64 (y + 1))).setCell ⟨gn, v, none⟩ (.int .i64 (x - fl))).drew = w9 := ⟨_, rfl⟩
                rw [hw9] at X2 os2 on2 ⊢
                have HVL := Lib.hid hvn
                have HZB := Lib.hid (show Bd (1048576 + 14400 * m + 1200 * 12 + 600) (addAt xs v (-fl)) from (HXB.out.addAt_ (by omega) v (D := 600) ⟨by omega, by omega⟩ (by omega)).mono (by omega))
                have HZL := Lib.hid (show (addAt xs v (-fl)).length = n by rw [addAt_length]; exact HXL.out)
                obtain ⟨zs, hzs⟩ : ∃ zs, addAt xs v (-fl) = zs := ⟨_, rfl⟩
                rw [hzs] at on2 HZB HZL HFN
                have c0 := (HGR.out _ X2).1.cell 0
                clear hw9 hzs X1 on10 os9 on9 gr9 gw9 ol9 cx cx1 cy fx fx1 fy cb hX FC hcell
                gi_wp2_with fail
                gi_loopw [79] (fun i wq => ∃ j : Nat, j ≤ n ∧ i = .int .i64 j ∧ Only (fun k => k = gs ∨ k = gn) w8 wq ∧ Blk wq gs 3 (intCells (bumpL ss (L.take (k + 1)))) ∧ OwnI wq w7.heap.size (some ⟨gn, 0, none⟩) c8 (giveTo es bl v zs j)) (fun i _ => n - (intOf i).toNat)
                case atStart => exact ⟨0, by omega, rfl, X2, os2, on2⟩
                case round =>
                  obtain ⟨j, hj, rfl, X3, os3, on3⟩ := hrel
                  clear X2 os2 on2 c0
                  by_cases hjn : j < n
                  · have hji : (j : Int) < (n : Int) := by omega
                    have hj12 : (j : Int) < 12 := by omega
                    have hv12 : (v : Int) < 12 := by omega
                    have gw3 := (HGR.out _ X3).2.1
                    have cb := gw3.burnt_ (u := j) (by omega)
                    have ct := gw3.tab_ (u := v) (v := j) (by omega) (by omega)
                    have hg3 : giveTo es bl v zs (j + 1) = if j ∈ bl then addAt (giveTo es bl v zs j) j (tt es v j) else giveTo es bl v zs j := rfl
                    by_cases hjb : j ∈ bl
                    · rw [if_pos hjb] at hg3
                      rw [decide_eq_true hjb] at cb
                      have hzb := giveTo_bd (b := bl) (v := v) HOK.out (by omega) HZB.out j
                      have hzl := giveTo_length (es := es) (b := bl) (v := v) (xs := zs) j
                      rw [HZL.out] at hzl
                      have htb := tt_bd HOK.out v j
                      obtain ⟨vs, hvs⟩ : ∃ vs, giveTo es bl v zs j = vs := ⟨_, rfl⟩
                      rw [hvs] at hg3 hzb hzl on3
                      obtain ⟨z, hz⟩ := get_of_lt (xs := vs) (k := j) (by omega)
                      have hzz := hzb.at_ hz
                      obtain ⟨_, _, fz, cz⟩ := on3.at_ (by omega)
                      have cz := cz j z hz
                      have fz := fz j
                      obtain ⟨tv, htv⟩ : ∃ tv, tt es v j = tv := ⟨_, rfl⟩
                      rw [htv] at hg3 htb ct
                      have HG3 := Lib.hid (show giveTo es bl v zs (j + 1) = vs.set j (z + tv) by rw [hg3]; unfold addAt; rw [getD_at hz])
                      have hz0 : -100000000000 ≤ z := by omega
                      have hz1 : z ≤ 100000000000 := by omega
                      have ht0 := htb.1
                      have ht1 := htb.2
                      have hwr2 : IntKind.i64.wrap (z + tv) = z + tv := IntWalk.i64_in _ (by omega)
                      have HWR2 := Lib.hid hwr2
                      clear hg3 hzb hzl htb hvs hz hzz htv hjb hwr2
                      gi_wp2_with fail
                      refine wpIn_nopanic ?_
                      gi_region
                      all_goals (
                        refine nopanic_normal ?_
                        try rw [HWR2.out]
                        gi_wp2_with fail
                        go_roundw
                        case rel => exact ⟨j + 1, by omega, by go_num, (X3.setCell (p := ⟨gn, j, none⟩) (.inl (.inr rfl)) _).drew, (os3.far (p := ⟨gn, j, none⟩) (by show gs ≠ gn; omega) _).drew, by rw [HG3.out]; exact (on3.put j (z + tv)).drew⟩
                        case measure => simp [intOf]; omega)
                    · rw [if_neg hjb] at hg3
                      rw [decide_eq_false hjb] at cb
                      have HG3 := Lib.hid hg3
                      clear hg3 hjb
                      gi_wp2_with fail
                      go_roundw
                      case rel => exact ⟨j + 1, by omega, by go_num, X3, os3, by rw [HG3.out]; exact on3⟩
                      case measure => simp [intOf]; omega
                  · obtain rfl : j = n := by omega
                    gi_wp2_with fail
                    go_roundw
                    case rel => exact ⟨k + 1, by omega, by go_num, X3, os3, by rw [HFN.out]; exact on3⟩
                    case measure => simp [intOf]; omega)
            · obtain rfl : k = L.length := by omega
              rw [List.take_length] at os9 on9
              have hlx : (fireL es bl n cs L).length = n := by rw [fireL_length]; exact HCL2.out
              have hstep : stepC es n q cs = (fireL es bl n cs L).set q 0 := by
                unfold stepC
                rw [HBL.out, ← HLF.out]
              obtain ⟨xs, hxs⟩ : ∃ xs, fireL es bl n cs L = xs := ⟨_, rfl⟩
              rw [hxs] at hlx hstep on9
              obtain ⟨x, hx⟩ := get_of_lt (xs := xs) (k := q) (by omega)
              obtain ⟨_, _, fx, cx⟩ := on9.at_ (by omega)
              have cx := cx q x hx
              have fx := fx q
              have hqi : (q : Int) < (n : Int) := by omega
              have HSTEP := Lib.hid hstep
              have HLX := Lib.hid hlx
              have gwX : Wood (wr.setCell ⟨gn, q, none⟩ (.int .i64 0)) g n es (.slice (some ⟨ga, 0, none⟩) cs.length cA) bl := Blk.far (p := ⟨gn, q, none⟩) gw9 (by show g ≠ gn; omega) (.int .i64 0)
              have f2 := Blk.frozen gwX 145
              have c2 := gwX.ch_
              have G0 := Wood.chips gwX (.slice (some ⟨gn, 0, none⟩) n c8)
              have hth : World.there ((wr.setCell ⟨gn, q, none⟩ (.int .i64 0)).setCell ⟨g, 145, none⟩ (.slice (some ⟨gn, 0, none⟩) n c8)) g 146 12 := fun j hj => ⟨by rw [G0.burnt_ hj]; rfl, Blk.frozen G0 _⟩
              have HTH := Lib.hid hth
              have HG0 := Lib.hid G0
              clear hth G0
              clear hlx hstep hxs hx
              have hq12 : (q : Int) < 12 := by omega
              obtain ⟨V, hV⟩ : ∃ V, wr.setCell ⟨gn, q, none⟩ (.int .i64 0) = V := ⟨_, rfl⟩
              have XV : Only (fun k => k = gs ∨ k = gn) w8 V := by rw [← hV]; exact hX.setCell (.inl (.inr rfl)) _
              have osV : Blk V gs 3 (intCells (bumpL ss L)) := by rw [← hV]; exact os9.far (by show gs ≠ gn; omega) _
              have onV : OwnI V w7.heap.size (some ⟨gn, 0, none⟩) c8 (stepC es n q cs) := by rw [← hV, HSTEP.out]; exact on9.put q 0
              rw [hV] at gwX f2 c2 HTH HG0
              have HV := Lib.hid hV
              have HXV := Lib.hid XV
              have HOS := Lib.hid osV
              have HON := Lib.hid onV
              clear hV XV osV onV hX os9 on9 gr9 gw9 ol9
              gi_upto_region 28 with (fail)
              rw [HV.out]
              clear cx fx
              refine wpIn_region_lit ?_
              iterate 9 (refine wpListIn_plain rfl fun K hK => ?_; gi_step; gi_step)
              refine store_gi (ty := 94) (x := .tmp 114) (y := .tmp 110) rfl rfl rfl rfl rfl HTH.out (by kernel_rfl) (by simp [Value.oneCell']) ?_
              intro V1 hV1
              have G1 := clear12 HG0.out hV1 HBO.out (by omega)
              have kq := G1.burnt_ (u := q) (by omega)
              have fq := Blk.frozen G1 (146 + q)
              have XG : Only (fun k => k = g) V V1 := by
                rw [← hV1]
                exact only_cells (C := fun k => k = g) (b := g) (Only.setCell (C := fun k => k = g) (Only.refl _ V) (p := ⟨g, 145, none⟩) (.inl rfl) _) rfl _ _
              have HV1 := Lib.hid hV1
              clear hV1
              gi_wp2_with fail
              refine ⟨⟨gn, c8, stepC es n q cs, bumpL ss L, m + L.length, ?_, by simp, ?_⟩, by simp [intOf]; omega⟩
              · have XF : Only (fun k => k = gs ∨ k = gn ∨ k = g) w8 (V1.setCell ⟨g, 146 + q, none⟩ (.bool true)) :=
                  (((HXV.out.mono fun k _ hk => hk.elim .inl fun hk => .inr (.inl hk)).trans (XG.mono fun k _ hk => .inr (.inr hk))).setCell (p := ⟨g, 146 + q, none⟩) (.inl (.inr (.inr rfl))) _)
                have hgn2 := (own_lt HON.out (k := gn) ⟨_, rfl, rfl⟩).1
                have hlen : (stepC es n q cs).length = n := by rw [stepC_length]; exact HCL2.out
                refine ⟨hbel8.trans (XF.below (fun k hk e => by omega) hbel8.size), ?_, ?_, ?_, ?_, ⟨by omega, by omega, by omega, by omega⟩, HPN.out, hov, HMK8.out.keep fun D hD => XF.block D (by have := (HMD.out D hD).2.1; omega) (by have := HMD.out D hD; omega), ?_⟩
                · exact ((HGR.out _ HXV.out).1.only XG (by omega)).far (p := ⟨g, 146 + q, none⟩) (by show w.heap.size ≠ g; omega) _
                · rw [hlen]
                  have := G1.burn (u := q) (by omega)
                  exact this
                · have h1 : OwnI V1 w7.heap.size (some ⟨gn, 0, none⟩) c8 (stepC es n q cs) := HON.out.kept (XG.block gn (own_lt HON.out (k := gn) ⟨_, rfl, rfl⟩).2 (by omega))
                  exact (h1.other (p := ⟨g, 146 + q, none⟩) (by show g ≠ gn; omega) _).mono (by omega)
                · exact (HOS.out.only XG (by omega)).far (p := ⟨g, 146 + q, none⟩) (by show gs ≠ g; omega) _
                · intro D hD
                  have := HMD.out D hD
                  have := XF.size
                  exact ⟨by omega, by omega, by omega, by omega, by omega⟩
              · apply Exists.intro (fun i => ([_, _, _, _, _, _, _, _, _, _, _, _, _, _, _, _, _, _, _, _, _, _, _, _, _, _, _, _, _, _, _, _, _, _, _, _, _, _, _, _, _, _, _, _, _, _, _, _, _, _, _, _, _, _, _, _, _, _, _, _, _, _, _, _, _, _, _, _, _, _, _, _, _, _, _, _, _, _, _, _, _, _, _, _, _, _, _, _, _, _, _, _, _, _, _, _, _, _, _, _, _, _, _, _, _, _, _, _, _, _, _, _, _, _, _, _, _, _, _, _, _, _, _, _, _, _, _, _, _, _] : List Value).getD i undef)
                repeat (first | exact rfl | refine ⟨rfl, ?_⟩)
                all_goals exact fun _ => undef
        · have hi : (1048576 : Int) < (m : Int) + (L.length : Int) := by omega
          have HR := Lib.hid (show r = none by
            rcases HST.out.2.2 with h | h
            · exact h.2.1.over_inv (by rw [HL.out]; exact hL0) (by rw [HL.out]; omega)
            · exact h.2)
          gi_wp2
          refine end_marks ds' _ HMK7.out fun w' ho => ⟨.tuple #[.slice none 0 0, .slice none 0 0, .int .i64 12], by simp [results, Try.results15, go_sem], .inr ⟨HR.out, rfl⟩, ?_⟩
          exact hbel7.trans (ho.below (fun k hk e => by have := (HMD.out k e).1; omega) hbel7.size)
end Go.Proofs.Ythbannpmfdflaaa

/-! burning.Push, with its errors. -/
namespace Go.Proofs.Ythbannpmfdflaaa
open Go.RowKit Go.Shelf

set_option maxRecDepth 100000 in
set_option maxHeartbeats 4000000 in
theorem push_any (n : Int) (A : Option Addr) (c : Nat) (es : List E3) (hn : es.length ≤ 1048576) (q : Int) (B : Option Addr) (d : Nat) (cs ds ss : List Int) (x : Int) (hm : cs.length ≤ 1048000) (hP : PushE n es q cs ds ss x) (w : World)
    (h : Reads w w.heap.size 3 A es.length (edgeCells es)) (h' : Reads w w.heap.size 1 B cs.length (ints cs)) :
    Calls Try.prog 15 #[.agg #[.int .i64 n, .slice A es.length c], .int .i64 q, .slice B cs.length d] w fun e w' => ∃ C c' S c'',
      e = .returned (.tuple #[.slice C ds.length c', .slice S ss.length c'', .int .i64 x]) ∧ OwnI w' w.heap.size C c' ds ∧ OwnI w' w.heap.size S c'' ss ∧ Below w.heap.size w w' := by
  rcases hP with ⟨h1, rfl, rfl, rfl⟩ | ⟨h1, r, hr, hres⟩
  · have hbc := bcheck_any n A c es hn q B d cs (by omega)
    obtain ⟨z, hz⟩ : ∃ z, burnErr n es q cs = z := ⟨_, rfl⟩
    rw [hz] at hbc h1 ⊢
    have hb : (z == 0) = false := by simpa using h1
    have BC := Lib.hid hbc
    clear h1 hz hbc
    refine (callsIn_wide (n := 3)).1 ?_
    refine callsIn_of_wp_marks Try.func15 rfl trivial ?_
    simp only [Try.ntmps15, List.size_toArray, List.length_cons, List.length_nil, Nat.reduceAdd, Nat.reduceSub, Array.replicate_succ, Array.replicate_zero, List.push_toArray, List.append_toArray, List.nil_append, List.cons_append]
    gi_wp2_with fail
    refine ⟨trivial, ?_⟩
    refine (inW (BC.out _ ((h.alloc (Nat.le_refl _) _).more (by simp)) ((h'.alloc (Nat.le_refl _) _).more (by simp)))).mono ?_
    rintro e w1 ⟨rfl, hb1⟩
    have hbel1 : Below w.heap.size w w1 := ((Below.refl _ _).alloc (Nat.le_refl _) _).trans (hb1.mono (by simp))
    gi_wp2
    refine end_marks [] _ trivial fun w' ho => ⟨.tuple #[.slice none 0 0, .slice none 0 0, .int .i64 z], by simp [results, Try.results15, go_sem], none, 0, none, 0, rfl, OwnI.nil_ _ _, OwnI.nil_ _ _, ?_⟩
    exact hbel1.trans (ho.below (fun k hk e => by cases e) hbel1.size)
  · obtain ⟨hG, _, hq0, hqn, hlen, hbd, _⟩ := conf_zero (burn_zero h1).1
    have hhi := hG.hi
    have hlo := hG.lo
    obtain ⟨m, rfl⟩ := Int.eq_ofNat_of_zero_le (show 0 ≤ n by omega)
    obtain ⟨p, rfl⟩ := Int.eq_ofNat_of_zero_le hq0
    simp only [Int.toNat_natCast] at hr
    refine (push_ok m A c es hn p B d cs hm h1 r hr w h h').mono ?_
    rintro e w' ⟨hc | ⟨hr2, rfl⟩, hb⟩
    · obtain ⟨A1, c1, A2, c2, cs2, ss2, hr2, rfl, o1, o2⟩ := hc
      rcases hres with ⟨he, rfl⟩ | ⟨he, _⟩
      · rw [hr2] at he
        injection he with he
        injection he with e1 e2
        subst e1 e2
        exact ⟨A1, c1, A2, c2, rfl, o1, o2, hb⟩
      · rw [hr2] at he; cases he
    · rcases hres with ⟨he, _⟩ | ⟨_, rfl, rfl, rfl⟩
      · rw [hr2] at he; cases he
      · exact ⟨none, 0, none, 0, rfl, OwnI.nil_ _ _, OwnI.nil_ _ _, hb⟩
end Go.Proofs.Ythbannpmfdflaaa
