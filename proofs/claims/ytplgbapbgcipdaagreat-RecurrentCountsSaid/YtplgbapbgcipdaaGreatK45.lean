/-
  Texts of this claim, put together: SomeO.
-/
import Derived.Test.YtplgbapbgcipdaaGreatK44
import Derived.Test.YtplgbapbgcipdaaGreatK23
import Derived.Test.YtplgbapbgcipdaaGreatK31
import Derived.Test.YtplgbapbgcipdaaGreatK10
/-! orientation.some with the test of Unique: how many orientations fit. -/
namespace Go.Proofs.YtplgbapbgcipdaaGreat
open Go.RowKit Go.Shelf
attribute [local go_sem] Oper.semAt_some

theorem append_stepIn {F : Fence} {m0 : Nat} {P : Program} {ops : Array Oper} {o : Oper} {a : Act} {K : Act → World → Prop} {Q : Exit → Act → World → Prop} {E : Prop} {w w' : World} {sv xv v : Value} (hgd : o.guard = none) (s x : Operand) (t : TypeId)
    (ho : o.op = .call { callee := .builtin .append, args := #[s, x], argTypes := #[t, t] }) (hrun : (Builtin.append_ #[t, t] o.type #[sv, xv]).run P w = .ok v w') (hs : a.eval s = sv) (hx : a.eval x = xv) (hK : K (a.put o.dst v) w') :
    if Region.wanted o (yielded ops a.tmps) = true then Oper.wpIn F m0 P o a w K Q else E := by
  have hw : Region.wanted o (yielded ops a.tmps) = true := by simp [Region.wanted, hgd]
  rw [if_pos hw]
  unfold Oper.wpIn
  refine ⟨?_, ?_⟩
  · simp [Oper.about, ho, resolve, Target.leads, Sem.run_pure]
  · rw [Oper.semAt_plain F _ _ (by rw [ho]; intro c hc'; cases hc')]
    simp [execOp, ho, resolve, invoke, builtin, hs, hx, hrun, Result.andThen]
    exact hK
theorem reads_bools {w : World} {g : Nat} {e : TypeId} {o : List Bool} (h : Blk w g e (bools o)) : Reads w w.heap.size 1 (some ⟨g, 0, none⟩) o.length (boolCells o) :=
  ⟨by simp [boolCells], fun _ => ⟨g, 0, rfl, h.lt, fun j u hj => by rw [Nat.zero_add]; refine (h.cell j).trans ?_; simpa [bools, boolCells] using hj⟩⟩
set_option maxHeartbeats 400000 in
/-- slices.Clone on truths: another block. -/
theorem cloneB_any (g c : Nat) (o : List Bool) (hn : o.length ≤ 1000) (w : World) (h : Blk w g 4 (bools o)) :
    Calls Tryz.prog 99 #[.slice (some ⟨g, 0, none⟩) o.length c] w fun e w' => ∃ A' c', e = .returned (.slice A' o.length c') ∧ Below w.heap.size w w' := by
  have q22 : ∀ (w : World) (a : Option Addr) (n c n' c' : Nat), (binOp .eql 93 (.slice a n c) (.slice none n' c')).run Tryz.prog w = .ok (.bool a.isNone) w := fun w a n c n' c' => Lib.run_eql_slice_nil w _ _ a n c n' c' Tryz.underlying93
  have hr := (reads_bools h).alloc (Nat.le_refl _) (.cells #[] 4)
  go_enter Tryz.func99, Tryz.ntmps99
  have hown0 : (w.alloc (.cells #[] 4)).ownsRow w.heap.size 4 1 (.slice (some ⟨w.heap.size, 0, none⟩) 0 0) 0 [] := World.ownsRow_made w #[] 0 (Nat.le_refl _) (by simp [maxLen]) (by simp)
  go_wp2_with (at_builtin; refine append_go rfl (.tmp 5) (.tmp 6) _ rfl w.heap.size 4 Tryz.underlying93 info_bool rfl (by omega) (some ⟨w.heap.size, 0, none⟩) 0 0 [] rfl hown0 w.heap.size (boolCells o) rfl hr (by intro u hu; simp [boolCells] at hu; rcases hu with ⟨_, rfl⟩ | ⟨_, rfl⟩ <;> rfl) (by omega) (by simp) ?_; intro A' c' w' hown' _ hb' _)
  go_ret
  exact ⟨A', c', rfl, ((Below.refl _ _).alloc (Nat.le_refl _) _).trans hb'⟩
theorem info_bools : (Tryz.prog.info? 93).map (fun i => (i.zero, i.size, i.bytes)) = some (some (.slice none 0 0), 1, 24) := by kernel_rfl
set_option maxRecDepth 100000 in
set_option maxHeartbeats 8000000 in
theorem some_any (n : Nat) (A : Option Addr) (c : Nat) (es : List E3) (hlen : es.length ≤ 10000) (hz : checkG n es = 0) (m : Nat) (hm : (endsL es).length = m) (hm14 : m ≤ 14) (fg fq : Nat) (fit : List Bool → Bool) (w : World) (h : Reads w w.heap.size 3 A es.length (edgeCells es))
    (hfit : ∀ (o : List Bool) (g : Nat) (W : World), o.length = m → Below w.heap.size w W → Blk W g 4 (bools o) → Calls Tryz.prog 60 #[.slice (some ⟨g, 0, none⟩) m m, .pointer (some ⟨fg, 0, none⟩), .pointer (some ⟨fq, 0, none⟩)] W fun e w' => e = .returned (.bool (fit o)) ∧ Below W.heap.size W w') :
    Calls Tryz.prog 59 #[.agg #[.int .i64 n, .slice A es.length c], .func (.func 60) #[] #[.pointer (some ⟨fg, 0, none⟩), .pointer (some ⟨fq, 0, none⟩)]] w fun e w' => ∃ A' c', e = .returned (.tuple #[.slice A' ((orsL m).filter fit).length c', .int .i64 0]) ∧ Below w.heap.size w w' := by
  have SZ := Lib.hid (fun (W : World) (hB : Below w.heap.size w W) => size_ok n A c es hlen hz W ((h.below hB).more hB.size))
  rw [hm] at SZ
  have HF := Lib.hid hfit
  have hpw : 2 ^ m ≤ 16384 := Nat.pow_le_pow_right (n := 2) (by omega) hm14
  have hwr : wrap64 ((2 : Int) ^ m) = ((2 ^ m : Nat) : Int) := by
    rw [show (2 : Int) ^ m = ((2 ^ m : Nat) : Int) by simp]
    exact (show ∀ z : Nat, z ≤ 16384 → wrap64 (z : Int) = (z : Int) from fun z hz => IntWalk.wrap64_in (z : Int) (by omega)) _ hpw
  have HPW : Hid ((orsL m).length ≤ 16384) := by rw [orsL_length]; exact hpw
  obtain ⟨z, hzz⟩ : ∃ z, 2 ^ m = z := ⟨_, rfl⟩
  rw [hzz] at hwr hpw
  have g0 := Blk.new w 24 #[.int .i64 n, .slice A es.length c]
  obtain ⟨w0, hw0⟩ : ∃ w0, (w.alloc (.cells #[.int .i64 n, .slice A es.length c] 24)).alloc (.cells #[(.func (.func 60) #[] #[.pointer (some ⟨fg, 0, none⟩), .pointer (some ⟨fq, 0, none⟩)])] 97) = w0 := ⟨_, rfl⟩
  have hB0 : Below w.heap.size w w0 := by rw [← hw0]; exact ((Below.refl _ _).alloc (Nat.le_refl _) _).alloc (by simp) _
  have rg : Blk w0 w.heap.size 24 #[.int .i64 n, .slice A es.length c] := by rw [← hw0]; exact g0.alloc _
  have r1 : Blk w0 (w.heap.size + 1) 97 #[(.func (.func 60) #[] #[.pointer (some ⟨fg, 0, none⟩), .pointer (some ⟨fq, 0, none⟩)])] := by rw [← hw0]; exact Blk.newAt (by simp)
  have hs0 : w0.heap.size = w.heap.size + 2 := by rw [← hw0]; simp
  have c0 := rg.cell 0
  have c1 := rg.cell 1
  clear hz hm hzz hfit h g0
  refine (callsIn_wide (n := 3)).1 ?_
  refine callsIn_of_wp_marks Tryz.func59 rfl trivial ?_
  simp only [Tryz.ntmps59, List.size_toArray, List.length_cons, List.length_nil, Nat.reduceAdd, Nat.reduceSub, Array.replicate_succ, Array.replicate_zero, List.push_toArray, List.append_toArray, List.nil_append, List.cons_append]
  gi_wp2_with fail
  refine ⟨trivial, ?_⟩
  gi_at_call 97
  refine (inW (SZ.out _ hB0)).mono ?_
  rintro e w1 ⟨rfl, hb1⟩
  have hs1 := hb1.size
  have s1 := r1.next hb1
  have BB := hB0.trans (hb1.mono hB0.size)
  have q0' := Blk.new w1 58 #[.slice none 0 0]
  have hp62 : ¬ (m : Int) > 62 := by omega
  have hp62' : ¬ (62 : Int) < (m : Int) := by omega
  have hpz : ¬ (16384 : Int) < (z : Int) := by omega
  clear hw0 c0 c1 rg r1 hb1 hB0
  gi_wp2_with fail
  refine ⟨trivial, ?_⟩
  gi_at_call 98
  refine (inW (orientations_any (m : Int) _)).mono ?_
  rintro e wF ⟨rfl, hwF⟩
  obtain ⟨p, hp⟩ : ∃ p, w1.heap.size = p := ⟨_, rfl⟩
  have hgn4 : (w1.alloc (.cells #[.slice none 0 0] 58)).heap.size = p + 1 := by simp [hp]
  have hsF : wF.heap.size = p + 2 := by rw [← hwF]; simp [hp]
  have hB12 : Below w1.heap.size w1 wF := by rw [← hwF]; exact ((Below.refl _ _).alloc (Nat.le_refl _) _).alloc (by simp) _
  have q0 : Blk wF p 58 #[.slice none 0 0] := by rw [← hwF, ← hp]; exact q0'.alloc _
  have bN : Blk wF (p + 1) 3 #[.int .i64 m] := by rw [← hwF]; exact Blk.newAt hgn4.symm
  have hpz2 : w.heap.size + 2 ≤ p := by omega
  have hB2 : Below w.heap.size w wF := BB.trans (hB12.mono BB.size)
  have s1 := s1.next hB12
  rw [hgn4]
  try rw [hp]
  have HIT := Lib.hid (ors_iter m (by omega) (p + 1) wF bN)
  have HSF := Lib.hid hsF
  clear hwF hB12 hs0 hs1 q0' bN hwr
  gi_wp2_with fail
  refine range_outerL (n := 3) (gf := 129) (lb := #[.pointer (some ⟨p + 1, 0, none⟩)]) rfl (enters_of Tryz.func129 (by kernel_rfl) rfl)
    HIT.out ?hK (fun k => k = p) ?hC
    (fun pre C W => ∃ A c vs, Blk W p 58 #[.slice A (pre.filter fit).length c] ∧ W.ownsRow w.heap.size 93 1 (.slice A (pre.filter fit).length c) (pre.filter fit).length vs ∧ C p ∧ (∀ k, blockOf A k → C k) ∧ Below w.heap.size w W ∧
      Blk W (w.heap.size + 1) 97 #[(.func (.func 60) #[] #[.pointer (some ⟨fg, 0, none⟩), .pointer (some ⟨fq, 0, none⟩)])] ∧ (∀ k, C k → k = p ∨ p + 2 ≤ k))
    (fun _ _ _ _ => False) ?hI (fun _ _ _ _ _ h _ => h) ?h0 ?hps ?round ?done (fun _ _ _ _ _ h => h.elim)
  case hK => rintro k rfl; omega
  case hC => rintro k rfl; exact ⟨by omega, by omega⟩
  case hI =>
    rintro pre C a b ⟨A, c, vs, i1, i2, i3, i4, i5, i6, i8⟩ hst
    exact ⟨A, c, vs, i1.stays hst (.inl i3), own_kept i2 fun k hk => hst.block k (own_lt i2 hk).2 (.inl (i4 k hk)), i3, i4, i5.trans (hst.below (fun k hk => .inr ⟨by omega, id⟩) i5.size), i6.stays hst (.inr ⟨by omega, id⟩), i8⟩
  case h0 => exact ⟨none, 0, [], q0, World.ownsRow_nil _ _ _ _, rfl, (by rintro k ⟨a, h, _⟩; cases h), hB2, s1, fun k hk => .inl hk⟩
  case hps => rintro x' args O W' ⟨g, rfl, _⟩; rfl
  case round =>
    intro l pre x args C O W hpre hI hl hC hO harg hlW hnC hnO hrl T hT
    obtain ⟨A, c, vs, i1, i2, i3, i4, i5, i6, i8⟩ := hI
    obtain ⟨g, rfl, hg⟩ := harg
    have hxl : x.length = m := mem_orsL.1 (List.IsPrefix.subset hpre (by simp))
    have hpl : pre.length < 16384 := by
      obtain ⟨z, hz⟩ := hpre
      have h1 := congrArg List.length hz
      have h2 := HPW.out
      simp at h1
      omega
    have hfl : (pre.filter fit).length < 16384 := Nat.lt_of_le_of_lt (List.length_filter_le _ _) hpl
    have HXL := Lib.hid hxl
    clear hpre hpl hxl
    obtain ⟨fl, hflx⟩ : ∃ fl, (pre.filter fit).length = fl := ⟨_, rfl⟩
    rw [hflx] at i1 i2 hfl
    have HFL := Lib.hid hflx
    clear hflx
    have hgp : g ≠ p := fun e => by
      subst e
      have h1 : W.heap[g]? = some (.cells (bools x) 4) := hg
      have h2 : W.heap[g]? = some (.cells #[.slice A fl c] 58) := i1
      rw [h1] at h2
      injection h2 with h2
      injection h2 with _ h2
      exact absurd h2 (by decide)
    gi_wp2_with fail
    refine hT _ _ (Only.refl _ _) ?_
    intro w5 h5 _
    have hl5 : ∀ k, C k → k ≠ l := fun k hk e => hnC (e ▸ hk)
    have j1 : Blk w5 p 58 #[.slice A fl c] := i1.only h5 (by omega)
    have j2 : w5.ownsRow w.heap.size 93 1 (.slice A fl c) fl vs := own_kept i2 fun k hk => h5.block k (own_lt i2 hk).2 (hl5 k (i4 k hk))
    have j5 : Below w.heap.size w w5 := i5.trans (h5.below (fun k hk e => by omega) i5.size)
    have j6 := i6.only h5 (by omega)
    have jg : Blk w5 g 4 (bools x) := hg.only h5 (fun e => by
      obtain ⟨r, hr⟩ := hrl
      have h1 : W.heap[g]? = some (.cells (bools x) 4) := hg
      rw [e, hr] at h1
      cases h1)
    have e1 := j1.cell 0
    have e6 := j6.cell 0
    have hC5 : ∀ k, C k → k < w5.heap.size := fun k hk => Nat.lt_of_lt_of_le (hC k hk) h5.size
    clear i1 i2 i5 i6 hg hC
    gi_wp2_with fail
    refine ⟨trivial, ?_⟩
    gi_at_call 60
    refine (inW (HF.out x g w5 HXL.out j5 jg)).mono ?_
    rintro e w6 ⟨rfl, hb6⟩
    have hs6 := hb6.size
    have k1 := j1.next hb6
    have k2 : w6.ownsRow w.heap.size 93 1 (.slice A fl c) fl vs := own_kept j2 fun k hk => hb6.block k (own_lt j2 hk).2
    have k5 := j5.trans (hb6.mono j5.size)
    have k6 := j6.next hb6
    have kg := jg.next hb6
    have o6 : Only (fun k => C k ∨ O k) w5 w6 := Only.of_new hb6
    have hBd : Below w.heap.size w w6.drew := below_drewN k5 1
    have CB := cloneB_any g m x (by rw [HXL.out]; omega) w6.drew kg
    rw [HXL.out] at CB
    replace CB := Lib.hid CB
    have e7 := k1.cell 0
    have f7 := k1.frozen 0
    have hpw6 : p < w6.heap.size := k1.lt
    have hpp : w.heap.size ≤ w6.heap.size := k5.size
    clear e1 e6 j1 j2 j6 jg
    cases hfx : fit x
    · have hflt : Hid ((pre ++ [x]).filter fit = pre.filter fit) := by rw [Hid, List.filter_append]; simp [hfx]
      have O2 := Lib.hid o6
      clear hfx
      gi_wp2
      refine ⟨C, O2.out, fun k hk => .inl hk, A, c, vs, ?_, ?_, i3, i4, k5, k6, i8⟩
      · rw [hflt.out, HFL.out]; exact k1
      · rw [hflt.out, HFL.out]; exact k2
    · have hflt : Hid ((pre ++ [x]).filter fit = pre.filter fit ++ [x]) := by rw [Hid, List.filter_append]; simp [hfx]
      have O2 := Lib.hid o6
      clear hfx o6
      have e7 := k1.drew.cell 0
      have HCL : Hid (∀ (w7 : World) (A8 : Option Addr) (c8 : Nat), Below w6.heap.size w6 w7 → ∃ A6 c6 w9, (Builtin.append_ #[58, 58] 58 #[.slice A fl c, .slice (some ⟨w7.heap.size, 0, none⟩) 1 1]).run Tryz.prog (w7.alloc (.cells #[.slice A8 m c8] 93)) = .ok (.slice A6 (fl + 1) c6) w9 ∧
          w9.ownsRow w.heap.size 93 1 (.slice A6 (fl + 1) c6) (fl + 1) (vs ++ [.slice A8 m c8]) ∧ Only (fun k => C k ∨ O k) w6 w9 ∧ Below w.heap.size w w9 ∧ Blk w9 p 58 #[.slice A fl c] ∧ (∀ k, blockOf A6 k → C k ∨ (w6.heap.size ≤ k ∧ k < w9.heap.size))) := by
        intro w7 A8 c8 hb7
        have l1 := k1.next hb7
        have l2 : w7.ownsRow w.heap.size 93 1 (.slice A fl c) fl vs := own_kept k2 fun k hk => hb7.block k (own_lt k2 hk).2
        have hs7 := hb7.size
        obtain ⟨A6, c6, w9, hrun, hown, hgr, hbel, hor⟩ := run_append_reads (P := Tryz.prog) (w7.alloc (.cells #[.slice A8 m c8] 93)) w.heap.size 58 58 93 Tryz.underlying58 info_bools rfl (by omega) A c fl vs (World.ownsRow.alloc l2 _) _ (some ⟨w7.heap.size, 0, none⟩) 1 1 [.slice A8 m c8] (Reads.box _ _ _) (by simp [Value.oneCell']) (by omega) (by simp; omega)
        have ho : Only (fun k => C k ∨ O k) w6 w9 := ((Only.of_new hb7).alloc _).grown hgr fun k hk => .inl (.inl (i4 k (blockOf_own.1 hk)))
        refine ⟨A6, c6, w9, hrun, hown, ho, (k5.trans (hb7.mono k5.size)).trans (((Below.refl _ _).alloc (Nat.le_trans hpp hs7) _).trans hbel), (l1.alloc _).grown hgr (own_blk_ne l2 l1 (by decide)), ?_⟩
        intro k hk
        rcases hor with e | e
        · rw [blockOf_own.2 hk] at e
          exact .inl (i4 k (blockOf_own.1 e.symm))
        · rw [blockOf_own.2 hk] at e
          injection e with e
          have hlt := (own_lt hown hk).2
          exact .inr ⟨by rw [e]; simp; omega, hlt⟩
      gi_wp2_with fail
      have FIN : Hid (∀ (A6 : Option Addr) (c6 : Nat) (w9 : World) (v8 : Value), w9.ownsRow w.heap.size 93 1 (.slice A6 (fl + 1) c6) (fl + 1) (vs ++ [v8]) → Only (fun k => C k ∨ O k) w6 w9 → Below w.heap.size w w9 → Blk w9 p 58 #[.slice A fl c] → (∀ k, blockOf A6 k → C k ∨ (w6.heap.size ≤ k ∧ k < w9.heap.size)) →
          ∃ C', Only (fun k => C k ∨ O k) w5 (w9.setCell ⟨p, 0, none⟩ (.slice A6 (fl + 1) c6)) ∧ Grows C O C' w5 (w9.setCell ⟨p, 0, none⟩ (.slice A6 (fl + 1) c6)) ∧ ∃ A c vs, Blk (w9.setCell ⟨p, 0, none⟩ (.slice A6 (fl + 1) c6)) p 58 #[.slice A ((pre ++ [x]).filter fit).length c] ∧
            (w9.setCell ⟨p, 0, none⟩ (.slice A6 (fl + 1) c6)).ownsRow w.heap.size 93 1 (.slice A ((pre ++ [x]).filter fit).length c) ((pre ++ [x]).filter fit).length vs ∧ C' p ∧ (∀ k, blockOf A k → C' k) ∧ Below w.heap.size w (w9.setCell ⟨p, 0, none⟩ (.slice A6 (fl + 1) c6)) ∧
            Blk (w9.setCell ⟨p, 0, none⟩ (.slice A6 (fl + 1) c6)) (w.heap.size + 1) 97 #[(.func (.func 60) #[] #[.pointer (some ⟨fg, 0, none⟩), .pointer (some ⟨fq, 0, none⟩)])] ∧ (∀ k, C' k → k = p ∨ p + 2 ≤ k)) := by
        intro A6 c6 w9 v8 hown ho9 hbel k9 hA6
        have hs9 := ho9.size
        have hlen : ((pre ++ [x]).filter fit).length = fl + 1 := by rw [hflt.out, List.length_append, HFL.out]; rfl
        rw [hlen]
        refine ⟨fun k => C k ∨ O k ∨ (w6.heap.size ≤ k ∧ k < w9.heap.size), (O2.out.trans ho9).setCell (.inl (.inl i3)) _, fun k hk => ?_, A6, c6, vs ++ [v8], ?_, ?_, .inl i3, fun k hk => ?_, ?_, ?_, ?_⟩
        · rcases hk with hk | hk | hk
          · exact .inl hk
          · exact .inr (.inl hk)
          · exact .inr (.inr ⟨by omega, by simpa [World.setCell] using hk.2⟩)
        · have := k9.set_ 0 (.slice A6 (fl + 1) c6)
          simpa using this
        · refine own_kept hown fun k hk => Below.heap_setCell _ _ _ _ ?_
          show k ≠ p
          rintro rfl
          exact own_blk_ne hown k9 (by decide) (blockOf_own.2 hk).symm
        · rcases hA6 k hk with h | h
          · exact .inl h
          · exact .inr (.inr h)
        · exact hbel.setCell (by show w.heap.size ≤ p; omega) _
        · exact (k6.only ho9 (fun e => by
            rcases e with e | e
            · have := i8 _ e; omega
            · have := (hO _ e).2.2; have := HSF.out; omega)).far (by show w.heap.size + 1 ≠ p; omega) _
        · rintro k (hk | hk | hk)
          · exact i8 k hk
          · have := (hO k hk).2.2; have := HSF.out; omega
          · have := HSF.out; have := h5.size; omega
      refine wpIn_nopanic ?_
      refine wpIn_region_any (by kernel_rfl) ?_
      change wpAnyIn _ _ _ _ _ _ _ _ _ (World.drew _)
      refine wpAnyIn_ready (rs := [0, 1]) (by kernel_rfl) (by simp) ?_
      refine AllReadyIn.cons rfl (fun K hK => ?_) (AllReadyIn.cons rfl (fun K hK => ?_) AllReadyIn.nil)
      · go_simp
        refine hK _ _ ?_
        clear hK K
        refine wpAnyIn_ready (rs := [1]) (by kernel_rfl) (by simp) ?_
        refine AllReadyIn.cons rfl (fun K hK => ?_) AllReadyIn.nil
        go_simp
        refine hK _ _ ?_
        clear hK K
        refine wpAnyIn_ready (rs := [2]) (by kernel_rfl) (by simp) ?_
        refine AllReadyIn.cons rfl (fun K hK => ?_) AllReadyIn.nil
        go_simp
        refine ⟨trivial, ?_⟩
        gi_at_call 99
        refine (inR (CB.out)).mono ?_
        rintro e w7 ⟨A8, c8, rfl, hb7⟩
        have hb7' : Below w6.heap.size w6 w7 := (Below.refl _ _).drew.trans hb7
        obtain ⟨A6, c6, w9, hrun, hown, ho9, hbel, k9, hA6⟩ := HCL.out w7 A8 c8 hb7'
        have e8 := (k1.next (w' := w7) hb7').cell 0
        have e10 := ((k1.next (w' := w7) hb7').alloc (.cells #[.slice A8 m c8] 93)).cell 0
        have e9 := k9.cell 0
        have f9 := k9.frozen 0
        try go_simp
        refine hK _ _ ?_
        clear hK K
        refine wpAnyIn_ready (rs := [3]) (by kernel_rfl) (by simp) ?_
        refine AllReadyIn.cons rfl (fun K hK => ?_) AllReadyIn.nil
        go_simp
        refine hK _ _ ?_
        clear hK K
        refine wpAnyIn_ready (rs := [4]) (by kernel_rfl) (by simp) ?_
        refine AllReadyIn.cons rfl (fun K hK => ?_) AllReadyIn.nil
        refine append_stepIn rfl (.tmp 31) (.tmp 34) _ rfl hrun rfl rfl ?_
        refine hK _ _ ?_
        clear hK K
        refine wpAnyIn_ready (rs := [5]) (by kernel_rfl) (by simp) ?_
        refine AllReadyIn.cons rfl (fun K hK => ?_) AllReadyIn.nil
        go_simp
        refine hK _ _ ?_
        clear hK K
        refine wpAnyIn_done (by kernel_rfl) ?_ _
        refine nopanic_normal ?_
        clear hrun e8 e9 e10 f9 e7 f7
        gi_wp2
        exact FIN.out A6 c6 w9 _ hown ho9 hbel k9 hA6
      · go_simp
        refine hK _ _ ?_
        clear hK K
        refine wpAnyIn_ready (rs := [0, 2]) (by kernel_rfl) (by simp) ?_
        refine AllReadyIn.cons rfl (fun K hK => ?_) (AllReadyIn.cons rfl (fun K hK => ?_) AllReadyIn.nil)
        · go_simp
          refine hK _ _ ?_
          clear hK K
          refine wpAnyIn_ready (rs := [2]) (by kernel_rfl) (by simp) ?_
          refine AllReadyIn.cons rfl (fun K hK => ?_) AllReadyIn.nil
          go_simp
          refine ⟨trivial, ?_⟩
          gi_at_call 99
          refine (inR (CB.out)).mono ?_
          rintro e w7 ⟨A8, c8, rfl, hb7⟩
          have hb7' : Below w6.heap.size w6 w7 := (Below.refl _ _).drew.trans hb7
          obtain ⟨A6, c6, w9, hrun, hown, ho9, hbel, k9, hA6⟩ := HCL.out w7 A8 c8 hb7'
          have e8 := (k1.next (w' := w7) hb7').cell 0
          have e10 := ((k1.next (w' := w7) hb7').alloc (.cells #[.slice A8 m c8] 93)).cell 0
          have e9 := k9.cell 0
          have f9 := k9.frozen 0
          try go_simp
          refine hK _ _ ?_
          clear hK K
          refine wpAnyIn_ready (rs := [3]) (by kernel_rfl) (by simp) ?_
          refine AllReadyIn.cons rfl (fun K hK => ?_) AllReadyIn.nil
          go_simp
          refine hK _ _ ?_
          clear hK K
          refine wpAnyIn_ready (rs := [4]) (by kernel_rfl) (by simp) ?_
          refine AllReadyIn.cons rfl (fun K hK => ?_) AllReadyIn.nil
          refine append_stepIn rfl (.tmp 31) (.tmp 34) _ rfl hrun rfl rfl ?_
          refine hK _ _ ?_
          clear hK K
          refine wpAnyIn_ready (rs := [5]) (by kernel_rfl) (by simp) ?_
          refine AllReadyIn.cons rfl (fun K hK => ?_) AllReadyIn.nil
          go_simp
          refine hK _ _ ?_
          clear hK K
          refine wpAnyIn_done (by kernel_rfl) ?_ _
          refine nopanic_normal ?_
          clear hrun e8 e9 e10 f9 e7 f7
          gi_wp2
          exact FIN.out A6 c6 w9 _ hown ho9 hbel k9 hA6
        · go_simp
          refine ⟨trivial, ?_⟩
          gi_at_call 99
          refine (inR (CB.out)).mono ?_
          rintro e w7 ⟨A8, c8, rfl, hb7⟩
          have hb7' : Below w6.heap.size w6 w7 := (Below.refl _ _).drew.trans hb7
          obtain ⟨A6, c6, w9, hrun, hown, ho9, hbel, k9, hA6⟩ := HCL.out w7 A8 c8 hb7'
          have e8 := (k1.next (w' := w7) hb7').cell 0
          have e10 := ((k1.next (w' := w7) hb7').alloc (.cells #[.slice A8 m c8] 93)).cell 0
          have e9 := k9.cell 0
          have f9 := k9.frozen 0
          try go_simp
          refine hK _ _ ?_
          clear hK K
          refine wpAnyIn_ready (rs := [0, 3]) (by kernel_rfl) (by simp) ?_
          refine AllReadyIn.cons rfl (fun K hK => ?_) (AllReadyIn.cons rfl (fun K hK => ?_) AllReadyIn.nil)
          · go_simp
            refine hK _ _ ?_
            clear hK K
            refine wpAnyIn_ready (rs := [3]) (by kernel_rfl) (by simp) ?_
            refine AllReadyIn.cons rfl (fun K hK => ?_) AllReadyIn.nil
            go_simp
            refine hK _ _ ?_
            clear hK K
            refine wpAnyIn_ready (rs := [4]) (by kernel_rfl) (by simp) ?_
            refine AllReadyIn.cons rfl (fun K hK => ?_) AllReadyIn.nil
            refine append_stepIn rfl (.tmp 31) (.tmp 34) _ rfl hrun rfl rfl ?_
            refine hK _ _ ?_
            clear hK K
            refine wpAnyIn_ready (rs := [5]) (by kernel_rfl) (by simp) ?_
            refine AllReadyIn.cons rfl (fun K hK => ?_) AllReadyIn.nil
            go_simp
            refine hK _ _ ?_
            clear hK K
            refine wpAnyIn_done (by kernel_rfl) ?_ _
            refine nopanic_normal ?_
            clear hrun e8 e9 e10 f9 e7 f7
            gi_wp2
            exact FIN.out A6 c6 w9 _ hown ho9 hbel k9 hA6
          · go_simp
            refine hK _ _ ?_
            clear hK K
            refine wpAnyIn_ready (rs := [0]) (by kernel_rfl) (by simp) ?_
            refine AllReadyIn.cons rfl (fun K hK => ?_) AllReadyIn.nil
            go_simp
            refine hK _ _ ?_
            clear hK K
            refine wpAnyIn_ready (rs := [4]) (by kernel_rfl) (by simp) ?_
            refine AllReadyIn.cons rfl (fun K hK => ?_) AllReadyIn.nil
            refine append_stepIn rfl (.tmp 31) (.tmp 34) _ rfl hrun rfl rfl ?_
            refine hK _ _ ?_
            clear hK K
            refine wpAnyIn_ready (rs := [5]) (by kernel_rfl) (by simp) ?_
            refine AllReadyIn.cons rfl (fun K hK => ?_) AllReadyIn.nil
            go_simp
            refine hK _ _ ?_
            clear hK K
            refine wpAnyIn_done (by kernel_rfl) ?_ _
            refine nopanic_normal ?_
            clear hrun e8 e9 e10 f9 e7 f7
            gi_wp2
            exact FIN.out A6 c6 w9 _ hown ho9 hbel k9 hA6
  case done =>
    rintro C W ⟨A, c, vs, i1, i2, i3, i4, i5, i6, i8⟩ hnD hD
    have e1 := i1.cell 0
    gi_wp2
    have p1 := Only.put_one W wF.heap.size (.deferred none)
    refine end_mark (v := .tuple #[.slice A ((orsL m).filter fit).length c, .int .i64 0]) hD (by simp [results, Tryz.results59, go_sem]) ⟨A, c, rfl, i5.trans (p1.below (fun k hk e => by have := HSF.out; omega) i5.size)⟩
end Go.Proofs.YtplgbapbgcipdaaGreat

