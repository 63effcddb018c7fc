/-
  Texts of this claim, put together: Fire, Burn, BurnF.
-/
import Derived.Test.YtghigdcpinengaaGreatK22
import Derived.Test.YtghigdcpinengaaGreatK21
import Derived.Test.YtghigdcpinengaaGreatK10
import Derived.Stop.RegionWithIn
/-! Package burning: the fire. -/
namespace Go.Proofs.YtghigdcpinengaaGreat
open Go.RowKit Go.Shelf
attribute [local go_sem] Oper.semAt_some

/-- How many vertices are not burnt, read off the wood. -/
def leftW (w : World) (g n : Nat) : Nat := ((List.range n).filter fun u => match w.cell? ⟨g, 146 + u, none⟩ with | some (.bool false) => true | _ => false).length
theorem leftW_eq {w : World} {g n : Nat} {es : List E3} {ch : Value} {l : List Nat} (hn : n ≤ 12) (h : Wood w g n es ch l) : leftW w g n = (restL n l).length := by
  unfold leftW restL
  congr 1
  apply List.filter_congr
  intro u hu
  rw [List.mem_range] at hu
  rw [h.burnt_ (by omega)]
  by_cases hm : u ∈ l <;> simp [hm]

/-- The argument of a round is an int. -/
def ArgN (x : Nat) (args : Array Value) (_ : Nat → Prop) (_ : World) : Prop := args = #[.int .i64 x]

set_option maxHeartbeats 400000 in
theorem fire_any (g : Nat) (w : World) :
    Calls Tryz.prog 137 #[.pointer (some ⟨g, 0, none⟩)] w fun e w' =>
      e = .returned (.func (.func 155) #[] #[.pointer (some ⟨w.heap.size, 0, none⟩)]) ∧ w.alloc (.cells #[.pointer (some ⟨g, 0, none⟩)] 173) = w' := by
  have hmf : ∀ (fn : Fn) (first cap : Array Value) (w : World), (Instr.makeFunc fn first cap).run Tryz.prog w = .ok (.func fn first cap) w := fun _ _ _ _ => rfl
  go_enter Tryz.func137, Tryz.ntmps137
  go_wp2
  go_ret
  exact ⟨rfl, rfl⟩

set_option maxRecDepth 100000 in
set_option maxHeartbeats 4000000 in
theorem fire_iter (g n : Nat) (hn : n ≤ 12) (hn1 : 1 ≤ n) (es : List E3) (N : Int) (hok : ∀ e ∈ es, okE N e) (A : Option Addr) (c : Nat) (cs : List Int) (hcl : cs.length = n) (l : List Nat) (hl : LOk n l) (bw : Nat) (W0 : World)
    (h1 : Blk W0 bw 173 #[.pointer (some ⟨g, 0, none⟩)]) (h2 : Wood W0 g n es (.slice A cs.length c) l) (h3 : Reads W0 W0.heap.size 1 A cs.length (ints cs)) (hAg : ∀ k, blockOf A k → ¬ k = g) :
    IterF Tryz.prog 155 #[.pointer (some ⟨bw, 0, none⟩)] ArgN (fun k => k = bw ∨ k = g ∨ blockOf A k) (fun k => k = g) (fireS es cs n l) (fun W => Wood W g n es (.slice A cs.length c) (burnL es cs n n l)) W0 := by
  intro l' J Jx C W hL hC hJ hJx hY h0
  have k1 : Blk W bw 173 #[.pointer (some ⟨g, 0, none⟩)] := (hL.block bw h1.lt (.inl rfl)).trans h1
  have k2 : Wood W g n es (.slice A cs.length c) l := (hL.block g (Blk.lt h2) (.inr (.inl rfl))).trans h2
  have k3 : Reads W W.heap.size 1 A cs.length (ints cs) := ⟨h3.1, fun hn => by
    obtain ⟨b, off, rfl, hb, hc⟩ := h3.2 hn
    exact ⟨b, off, rfl, by have := hL.size; omega, fun j u hu => (World.cell?_of_block (w := W0) (hL.block b hb (.inr (.inr ⟨_, rfl, rfl⟩)))).trans (hc j u hu)⟩⟩
  have hgb : g ≠ bw := Blk.ne_ k2 k1 (by decide)
  have hgW : g < W.heap.size := Blk.lt k2
  have hbW : bw < W.heap.size := k1.lt
  have HA : Hid (∀ k, blockOf A k → k < W.heap.size) := fun k ⟨a, ha, hk⟩ => by
    rcases Nat.eq_zero_or_pos cs.length with h0 | h0
    · omega
    · obtain ⟨b, off, e, hb, _⟩ := k3.2 h0
      rw [e] at ha; injection ha with ha; subst ha; subst hk; exact hb
  have HOK := Lib.hid hok
  have HCL := Lib.hid hcl
  have HL := Lib.hid hl
  clear h1 h2 h3 hL hok hcl hl
  refine (callsIn_wide (n := 3)).1 ?_
  refine callsIn_of_wp_marks Tryz.func155 rfl trivial ?_
  simp only [Tryz.ntmps155, List.size_toArray, List.length_cons, List.length_nil, Nat.reduceAdd, Nat.reduceSub, Array.replicate_succ, Array.replicate_zero, List.push_toArray, List.append_toArray, List.nil_append, List.cons_append]
  gi_wp2_with fail
  gi_loopw [3] (fun v wl => ∃ (u : Nat) (pre : List Nat) (C' : Nat → Prop), v = .int .i64 u ∧ u ≤ n ∧ W.heap.size ≤ wl.heap.size ∧ Blk wl bw 173 #[.pointer (some ⟨g, 0, none⟩)] ∧ Wood wl g n es (.slice A cs.length c) (l ++ pre) ∧ Reads wl W.heap.size 1 A cs.length (ints cs) ∧
    Hid (LOk n (l ++ pre)) ∧ Hid (J pre C' wl) ∧ Hid (∀ k, C' k → k < wl.heap.size ∧ ¬ (k = bw ∨ k = g ∨ blockOf A k)) ∧ Hid (∀ x, x < u → catL es cs (l ++ pre) x = false) ∧ Hid (burnL es cs n n (l ++ pre) = burnL es cs n n l)) (fun v wl => leftW wl g n * 13 + (n - (intOf v).toNat))
  case atStart => exact ⟨0, [], C, rfl, by omega, Nat.le_refl _, k1, by rw [List.append_nil]; exact k2, k3, by rw [List.append_nil]; exact HL.out, h0, hC, fun x hx => by omega, by rw [List.append_nil]; rfl⟩
  case round =>
    obtain ⟨u, pre, C', rfl, hu, hsz, i1, i2, i3, IL, IJ, IC, IU, IB⟩ := hrel
    clear k1 k2 k3 h0
    have HY := Lib.hid hY
    have HJ := Lib.hid hJ
    clear hY hJ
    have c1 := i1.cell 0
    have c2 := i2.n_
    have hlw := leftW_eq hn i2
    by_cases hlt : u < n
    · have hi : (u : Int) < (n : Int) := by omega
      have hi2 : (u : Int) < 12 := by omega
      have hcl := HCL.out
      have CC := Lib.hid (catches_any g n hn es N HOK.out A c cs hcl (l ++ pre) IL.out u hlt wr i2 (i3.more hsz))
      cases hcat : catL es cs (l ++ pre) u
      · rw [hcat] at CC
        have HC := Lib.hid hcat
        clear hcat hcl
        gi_wp2_with fail
        refine ⟨trivial, ?_⟩
        refine (inW (CC.out)).mono ?_
        rintro e w' ⟨rfl, m, rfl⟩
        gi_wp2
        go_roundw
        case rel =>
          refine ⟨u + 1, pre, C', by go_num, by omega, hsz, i1.drewN m, Blk.drewN i2 m, i3.drewN m, IL, HJ.out _ _ _ _ IJ.out (Stays.of_only ((Only.refl (fun _ => False) wr).drewN m) (fun _ _ h => h.elim)), IC.out, ?_, IB⟩
          intro x hx
          by_cases he : x = u
          · subst he; exact HC.out
          · exact IU.out x (by omega)
        case measure =>
          rw [show leftW (wr.drewN m) g n = leftW wr g n from rfl]
          simp [intOf]; omega
      · have hct := catL_true.1 hcat
        rw [hcat] at CC
        have hhead := head_ready_of hlt hcat IU.out
        have HB2 := Lib.hid ((burnL_next IL.out hhead).symm.trans IB.out)
        rw [List.append_assoc] at HB2
        have HLO := Lib.hid (IL.out.snoc hct.1 hlt)
        rw [List.append_assoc] at HLO
        have HPX := Lib.hid (fire_pre HB2.out)
        have hrl := rest_len (n := n) (l ++ pre) IL.out
        have hrl2 := rest_len (n := n) (l ++ (pre ++ [u])) HLO.out
        have hll : (l ++ (pre ++ [u])).length = (l ++ pre).length + 1 := by simp; omega
        rw [← hlw] at hrl
        obtain ⟨rl2, hrl3⟩ : ∃ r, (restL n (l ++ (pre ++ [u]))).length = r := ⟨_, rfl⟩
        have HRL := Lib.hid hrl3
        rw [hrl3, hll] at hrl2
        obtain ⟨LL, hLL⟩ : ∃ r, (l ++ pre).length = r := ⟨_, rfl⟩
        rw [hLL] at hrl hrl2
        clear hcat hcl hct hhead hlw hll hrl3 hLL
        gi_wp2_with fail
        refine ⟨trivial, ?_⟩
        refine (inW (CC.out)).mono ?_
        rintro e w' ⟨rfl, m, rfl⟩
        have j1 : Blk ((wr.drewN m).setCell ⟨g, 146 + u, none⟩ (.bool true)) bw 173 #[.pointer (some ⟨g, 0, none⟩)] := (i1.drewN m).far (by simpa using Ne.symm hgb) _
        have j2 : Wood ((wr.drewN m).setCell ⟨g, 146 + u, none⟩ (.bool true)) g n es (.slice A cs.length c) (l ++ (pre ++ [u])) := by
          have := Wood.burn (w := wr.drewN m) (Blk.drewN i2 m) (u := u) (by omega)
          rwa [List.append_assoc] at this
        have hoS : Only (fun k => k = g) wr ((wr.drewN m).setCell ⟨g, 146 + u, none⟩ (.bool true)) := Only.setCell (C := fun k => k = g) (p := ⟨g, 146 + u, none⟩) ((Only.refl _ wr).drewN m) (.inl rfl) _
        have hIC := IC.out
        have hJ1 := HJ.out _ _ _ _ IJ.out (Stays.of_only (B := W.heap.size) (M := fun k => k = g) (C' := C') hoS (fun k _ hk => ⟨fun hc => (hIC k hc).2 (.inr (.inl hk)), .inr hk⟩))
        have hIB : ∀ k, k < W.heap.size → k = bw ∨ k = g ∨ blockOf A k → ¬ C' k := fun k _ hk hc => (hIC k hc).2 hk
        have hsz1 : wr.heap.size ≤ ((wr.drewN m).setCell ⟨g, 146 + u, none⟩ (.bool true)).heap.size := hoS.size
        obtain ⟨fn, tmps, assign, body, hy, hR⟩ := HY.out pre u C' ((wr.drewN m).setCell ⟨g, 146 + u, none⟩ (.bool true)) #[.int .i64 u] (fun _ => False) HPX.out hJ1 (by omega) (fun k hk => Nat.lt_of_lt_of_le (hIC k hk).1 hsz1) (fun k hk => hk.elim) rfl
        have c3 : (wr.drewN m).cell? ⟨bw, 0, none⟩ = some (.pointer (some ⟨g, 0, none⟩)) := c1
        have c4 : (wr.drewN m).cell? ⟨g, 146 + u, none⟩ = some (.bool (decide (u ∈ l ++ pre))) := Wood.burnt_ (w := wr.drewN m) (Blk.drewN i2 m) (by omega)
        have f4 : (wr.drewN m).frozen? ⟨g, 146 + u, none⟩ = false := Blk.frozen i2 _
        gi_wp2_with fail
        refine (roundIn_wide hR).mono ?_
        rintro e w2 ⟨C2, b2, ho2, hg2, rfl, hj2, hx2⟩
        cases b2
        · have HX2 := Lib.hid (hx2 rfl)
          clear hj2 hx2
          gi_wp2
          exact ⟨_, results_none rfl _ _ _, ⟨⟨_, rfl⟩, C2, .inr ⟨pre ++ [u], HPX.out, HX2.out⟩⟩⟩
        · have hJ2 := Lib.hid (hj2 rfl)
          have m1 := j1.only ho2 (fun hc => hc.elim (fun hc => (hIC _ hc).2 (.inl rfl)) id)
          have m2 : Wood w2 g n es (.slice A cs.length c) (l ++ (pre ++ [u])) := Blk.only j2 ho2 (fun hc => hc.elim (fun hc => (hIC _ hc).2 (.inr (.inl rfl))) id)
          have m3 := reads_only (reads_only i3 hoS hsz hAg) ho2 (by omega) (fun k hk hc => hc.elim (fun hc => (hIC _ hc).2 (.inr (.inr hk))) id)
          have hsz2 := ho2.size
          have hIC2 : Hid (∀ k, C2 k → k < w2.heap.size ∧ ¬ (k = bw ∨ k = g ∨ blockOf A k)) := by
            intro k hk
            rcases hg2 k hk with h | h | h
            · have := hIC k h; exact ⟨by omega, this.2⟩
            · exact h.elim
            · refine ⟨h.2, ?_⟩
              rintro (e | e | e)
              · omega
              · omega
              · have := HA.out k e; omega
          have hlw2 := leftW_eq hn m2
          rw [HRL.out] at hlw2
          clear hj2 hx2 j1 j2 ho2 hg2 hR hy c3 c4 f4 hJ1 hIB hoS i1 i2 i3 hIC
          gi_wp2
          go_roundw
          case rel => exact ⟨0, pre ++ [u], C2, rfl, by omega, by omega, m1, m2, m3, HLO.out, hJ2.out, hIC2.out, fun x hx => by omega, HB2.out⟩
          case measure => simp [intOf]; omega
    · obtain rfl : u = n := by omega
      obtain ⟨e1, e2⟩ := fire_end IB.out IU.out
      have E1 := Lib.hid e1
      have E2 := Lib.hid e2
      clear e1 e2
      gi_wp2
      exact ⟨_, results_none rfl _ _ _, ⟨⟨_, rfl⟩, C', .inl ⟨by rw [← E1.out]; exact IJ.out, by rw [E2.out]; exact i2⟩⟩⟩
end Go.Proofs.YtghigdcpinengaaGreat

/-! Package burning: Burn and Superstable. -/
namespace Go.Proofs.YtghigdcpinengaaGreat
open Go.RowKit Go.Shelf
attribute [local go_sem] Oper.semAt_some

set_option maxRecDepth 100000 in
set_option maxHeartbeats 4000000 in
theorem burn_ok (n : Nat) (A : Option Addr) (c : Nat) (es : List E3) (hn : es.length ≤ 1048576) (q : Nat) (B : Option Addr) (d : Nat) (cs : List Int) (hm : cs.length ≤ 1048000) (hck : burnErr n es q cs = 0) (w : World) (h : Reads w w.heap.size 3 A es.length (edgeCells es)) (h' : Reads w w.heap.size 1 B cs.length (ints cs)) :
    Calls Tryz.prog 117 #[.agg #[.int .i64 n, .slice A es.length c], .int .i64 q, .slice B cs.length d] w fun e w' => ∃ A1 c1 A2 c2, e = .returned (.tuple #[.slice A1 (burntL es cs n q).length c1, .slice A2 (restL n (burntL es cs n q)).length c2, .int .i64 0]) ∧
      OwnI w' w.heap.size A1 c1 (natI (burntL es cs n q)) ∧ OwnI w' w.heap.size A2 c2 (natI (restL n (burntL es cs n q))) ∧ Below w.heap.size w w' := by
  obtain ⟨bl, hbl⟩ : ∃ bl, burntL es cs n q = bl := ⟨_, rfl⟩
  rw [hbl]
  have HBL := Lib.hid hbl
  clear hbl
  have hbc := bcheck_any n A c es hn q B d cs (by omega)
  rw [hck] at hbc
  have BC := Lib.hid hbc
  obtain ⟨hG, _, _, hqn, hlen, _, _⟩ := conf_zero (burn_zero hck).1
  have hhi := hG.hi
  have hq : q < n := by omega
  have hcl : cs.length = n := by omega
  have KC := Lib.hid (kindled_any n A c es hn hG q hq B d cs hm)
  have HG := Lib.hid hG
  have HCL := Lib.hid hcl
  have g0 := Blk.new w 24 #[.int .i64 n, .slice A es.length c]
  clear hbc hck hG hlen hcl
  refine (callsIn_wide (n := 3)).1 ?_
  refine callsIn_of_wp_marks Tryz.func117 rfl trivial ?_
  simp only [Tryz.ntmps117, List.size_toArray, List.length_cons, List.length_nil, Nat.reduceAdd, Nat.reduceSub, Array.replicate_succ, Array.replicate_zero, List.push_toArray, List.append_toArray, List.nil_append, List.cons_append]
  gi_wp2_with fail
  refine ⟨trivial, ?_⟩
  refine (inW (BC.out _ ((h.alloc (Nat.le_refl _) _).more (by simp)) ((h'.alloc (Nat.le_refl _) _).more (by simp)))).mono ?_
  rintro e w1 ⟨rfl, hb1⟩
  have g1 := g0.next hb1
  have c0 := g1.cell 0
  have c1 := g1.cell 1
  have hbel1 : Below w.heap.size w w1 := ((Below.refl _ _).alloc (Nat.le_refl _) _).trans (hb1.mono (by simp))
  have hs1 := g1.lt
  gi_wp2_with fail
  refine ⟨trivial, ?_⟩
  refine (inW (KC.out _ ((h.below hbel1).more hbel1.size) ((h'.below hbel1).more hbel1.size))).mono ?_
  rintro e w2 ⟨g, A', c', rfl, gw, ow, hgb, hb2⟩
  have hbel2 := hbel1.trans (hb2.mono hbel1.size)
  have hs2 := hbel2.size
  have hgw := Blk.lt gw
  clear g0 g1 c0 c1 hb1 hb2 h h'
  gi_wp2_with fail
  refine ⟨trivial, ?_⟩
  refine (inW (fire_any g _)).mono ?_
  rintro e w3 ⟨rfl, hw3⟩
  have r0 : Blk w3 w2.heap.size 3 (intCells (natI ([q] ++ []))) := by rw [← hw3]; exact ((Blk.new w2 3 #[.int .i64 q]).alloc _).alloc _
  have r1 : Blk w3 (w2.heap.size + 1) 25 #[.slice (some ⟨w2.heap.size, 0, none⟩) 1 1] := by
    rw [← hw3]
    have := (Blk.new (w2.alloc (.cells #[.int .i64 q] 3)) 25 #[.slice (some ⟨w2.heap.size, 0, none⟩) 1 1]).alloc (.cells #[.pointer (some ⟨g, 0, none⟩)] 173)
    rwa [show (w2.alloc (.cells #[.int .i64 q] 3)).heap.size = w2.heap.size + 1 from by simp] at this
  have r2 : Blk w3 (w2.heap.size + 1 + 1) 173 #[.pointer (some ⟨g, 0, none⟩)] := by
    rw [← hw3]
    have := Blk.new ((w2.alloc (.cells #[.int .i64 q] 3)).alloc (.cells #[.slice (some ⟨w2.heap.size, 0, none⟩) 1 1] 25)) 173 #[.pointer (some ⟨g, 0, none⟩)]
    rwa [show ((w2.alloc (.cells #[.int .i64 q] 3)).alloc (.cells #[.slice (some ⟨w2.heap.size, 0, none⟩) 1 1] 25)).heap.size = w2.heap.size + 1 + 1 from by simp] at this
  have hb3 : Below w2.heap.size w2 w3 := by rw [← hw3]; exact (((Below.refl _ _).alloc (Nat.le_refl _) _).alloc (by simp) _).alloc (by simp; omega) _
  have hs3 : w3.heap.size = w2.heap.size + 3 := by rw [← hw3]; simp
  have gw3 : Wood w3 g n es (.slice A' cs.length c') [q] := Blk.next gw hb3
  have ow3 := ow.next hb3
  have ox3 : OwnI w3 w2.heap.size (some ⟨w2.heap.size, 0, none⟩) 1 (natI ([q] ++ [])) := OwnI.of_blk r0 (Nat.le_refl _) (by simp [natI, maxLen])
  have hbel3 := hbel2.trans (hb3.mono hs2)
  have hAg : ∀ k, blockOf A' k → ¬ k = g := fun k hk => own_blk ow3 gw3 (by decide) hk
  have hAb : ∀ k, blockOf A' k → w1.heap.size ≤ k ∧ k < w2.heap.size := fun k hk => own_lt ow hk
  have hr3 : Reads w3 w3.heap.size 1 A' cs.length (ints cs) := ow3.reads
  clear hw3 hb3 gw ow hbel1 hbel2
  gi_wp2_with fail
  refine rangeF_outer (n := 3) (gf := 155) (lb := #[.pointer (some ⟨w2.heap.size + 1 + 1, 0, none⟩)]) (by rfl) (enters_of Tryz.func155 (by kernel_rfl) rfl)
    (fire_iter g n (by omega) (by omega) es n HG.out.ok A' c' cs HCL.out [q] ⟨by simp, by simpa using hq⟩ (w2.heap.size + 1 + 1) w3 r2 gw3 hr3 hAg) ?hF0 ?hK (fun k => k = w2.heap.size ∨ k = w2.heap.size + 1) ?hC
    (fun pre C W => ∃ Ar cr, Blk W (w2.heap.size + 1) 25 #[.slice Ar (natI ([q] ++ pre)).length cr] ∧ OwnI W w2.heap.size Ar cr (natI ([q] ++ pre)) ∧ C (w2.heap.size + 1) ∧ (∀ k, blockOf Ar k → C k) ∧ Below w.heap.size w W ∧ w3.heap.size ≤ W.heap.size ∧ (∀ k, C k → k = w2.heap.size + 1 ∨ k = w2.heap.size ∨ w3.heap.size ≤ k))
    (fun _ _ _ _ => False) ?hI (fun _ _ _ _ _ h _ => h) ?h0 ?hps ?round ?done (fun _ _ _ _ _ h => h.elim)
  case hF0 => intro a b hf ho; exact Blk.only hf ho (by omega)
  case hK =>
    rintro k (rfl | rfl | hk)
    · omega
    · omega
    · have := (hAb k hk).2; omega
  case hC =>
    rintro k (rfl | rfl)
    · refine ⟨by omega, ?_⟩
      rintro (e | e | e)
      · omega
      · omega
      · have := (hAb _ e).2; omega
    · refine ⟨by omega, ?_⟩
      rintro (e | e | e)
      · omega
      · omega
      · have := (hAb _ e).2; omega
  case hI =>
    rintro pre C a b ⟨Ar, cr, i1, i2, i3, i4, i5, i6, i7⟩ hst
    exact ⟨Ar, cr, i1.stays hst (.inl i3), own_kept i2 fun k hk => hst.block k (own_lt i2 hk).2 (.inl (i4 k hk)), i3, i4, i5.trans (hst.below (fun k hk => .inr ⟨by omega, by omega⟩) i5.size), Nat.le_trans i6 hst.size, i7⟩
  case h0 =>
    refine ⟨some ⟨w2.heap.size, 0, none⟩, 1, r1, ox3, .inr rfl, ?_, hbel3, Nat.le_refl _, ?_⟩
    · rintro k ⟨a, ha, hk⟩; injection ha with ha; subst ha; exact .inl hk.symm
    · rintro k (hk | hk)
      · exact .inr (.inl hk)
      · exact .inl hk
  case hps => intro x' args O W' (ha : args = _); subst ha; rfl
  case round =>
    intro l pre x args C O W hpre hI hl hC hO harg hlW hnC hnO T hT
    obtain ⟨Ar, cr, i1, i2, i3, i4, i5, i6, i7⟩ := hI
    obtain rfl : args = #[.int .i64 x] := harg
    have hpl : (natI ([q] ++ pre)).length ≤ 12 := by
      obtain ⟨z, hz⟩ := hpre
      have e := fireS_eq (es := es) (c := cs) (n := n) (l := [q])
      have := nodup_len (burnL_len (es := es) (c := cs) (n := n) (l := [q]) ⟨by simp, by simpa using hq⟩)
      rw [e, ← hz] at this
      rw [natI_length]
      simp at this ⊢
      omega
    obtain ⟨rr, hrr⟩ : ∃ r, natI ([q] ++ pre) = r := ⟨_, rfl⟩
    rw [hrr] at hpl i1 i2
    have HRR := Lib.hid hrr
    clear hrr hpre r0 r1 r2 ox3 hbel3 gw3 ow3 hr3
    gi_wp2
    refine hT _ _ (Only.refl _ _) ?_
    intro w5 h5 _
    have hl5 : ∀ k, C k → k ≠ l := fun k hk e => hnC (e ▸ hk)
    have j1 : Blk w5 (w2.heap.size + 1) 25 #[.slice Ar (rr).length cr] := i1.only h5 (hl5 _ i3)
    have j2 : OwnI w5 w2.heap.size Ar cr (rr) := own_kept i2 fun k hk => h5.block k (own_lt i2 hk).2 (hl5 k (i4 k hk))
    have j5 : Below w.heap.size w w5 := i5.trans (h5.below (fun k hk e => by omega) i5.size)
    have e1 := j1.cell 0
    have hC5 : ∀ k, C k → k < w5.heap.size := fun k hk => Nat.lt_of_lt_of_le (hC k hk) h5.size
    have hs5 := h5.size
    clear i1 i2 i5 hC
    gi_wp2_with (gi_at_builtin; refine append_gi rfl (.tmp 29) (.tmp 31) _ rfl w2.heap.size 3 Tryz.underlying25 info_int rfl (by omega) Ar cr (rr).length (ints (rr)) rfl (World.ownsRow.alloc j2 _) _ [.int .i64 x] rfl (Reads.box _ _ _) (by simp [Value.oneCell']) (by omega) (by simp; omega) ?_; intro A6 c6 w6 hown6 hg6 hb6 hw6; have k1 := (j1.alloc (.cells #[.int .i64 x] 3)).grown hg6 (own_blk_ne j2 j1 (by decide)); have e2 := k1.cell 0; have f2 := k1.frozen 0)
    have k2 : OwnI w6 w2.heap.size A6 c6 (natI ([q] ++ (pre ++ [x]))) := by
      rw [← List.append_assoc, natI_snoc, HRR.out]
      unfold OwnI
      rw [List.length_append, ints_snoc]
      exact hown6
    have k3 : Only (fun k => C k ∨ O k) w5 w6 := ((Only.refl _ w5).alloc _).grown hg6 fun k hk => .inl (.inl (i4 k (blockOf_own.1 hk)))
    refine ⟨fun k => C k ∨ (w5.heap.size ≤ k ∧ k < w6.heap.size), k3.setCell (.inl (.inl i3)) _, fun k hk => ?_, A6, c6, ?_, ?_, .inl i3, ?_, ?_, ?_, ?_⟩
    · rcases hk with hk | hk
      · exact .inl hk
      · exact .inr (.inr (by simpa [World.setCell] using hk))
    · have := k1.set_ 0 (.slice A6 ((rr).length + 1) c6)
      rw [← List.append_assoc, natI_snoc, HRR.out, List.length_append]
      simpa using this
    · exact k2.set_blk k1 (by decide) _ _
    · intro k hk
      rcases hw6 with e | e
      · rw [blockOf_own.2 hk] at e
        exact .inl (i4 k (blockOf_own.1 e.symm))
      · rw [blockOf_own.2 hk] at e
        injection e with e
        have hlt := (own_lt hown6 hk).2
        exact .inr ⟨by rw [e]; simp, hlt⟩
    · exact (j5.trans (k3.below (fun k hk e => by
        rcases e with e | e
        · have := i7 k e; omega
        · have := (hO k e).2.2; omega) j5.size)).setCell (by simp; omega) _
    · have := k3.size; simp [World.setCell]; omega
    · rintro k (hk | hk)
      · exact i7 k hk
      · exact .inr (.inr (by omega))
  case done =>
    rintro C W ⟨Ar, cr, i1, i2, i3, i4, i5, i6, i7⟩ hfin hnD hD
    have e1 := i1.cell 0
    have efn : burnL es cs n n [q] = bl := HBL.out
    have efs : [q] ++ fireS es cs n [q] = bl := (fireS_eq).symm.trans efn
    rw [efs] at i1 i2 e1
    rw [efn] at hfin
    clear efs efn r0 r1 r2 ox3 hbel3 gw3 ow3 hr3
    have UC := Lib.hid (unburnt_any g n (by omega) es (.slice A' cs.length c') bl W.drew (by exact hfin))
    gi_wp2
    refine wpIn_nopanic ?_
    gi_region_with (refine ⟨trivial, ?_⟩; gi_at_call 138; refine (inW (UC.out)).mono ?_; rintro e w7 ⟨A7, c7, rfl, o7, b7⟩; have e7 := (i1.drew.next b7).cell 0)
    all_goals (
      refine nopanic_normal ?_
      have i1' : Blk W.drew (w2.heap.size + 1) 25 #[.slice Ar (natI bl).length cr] := i1
      have b7' : Below W.heap.size W w7 := (Below.refl _ _).drew.trans b7
      have hszW : W.heap.size ≤ w7.heap.size := b7'.size
      rw [hs3] at hD hnD i6
      have hDl : w2.heap.size + 3 < W.heap.size := by
        rcases Nat.lt_or_ge (w2.heap.size + 3) W.heap.size with hlt | hge
        · exact hlt
        · rw [Array.getElem?_eq_none hge] at hD; cases hD
      have p1 := Only.put_one w7 (w2.heap.size + 3) (.deferred none)
      have o8 : OwnI w7 w2.heap.size Ar cr (natI bl) := i2.next b7'
      have hD7 : w7.heap[w2.heap.size + 3]? = some (.deferred (some [])) := (b7'.block (w2.heap.size + 3) (by omega)).trans hD
      have hb9 : Below w.heap.size w w7 := i5.trans (b7'.mono i5.size)
      have hi4 := Lib.hid i4
      have hn7 := Lib.hid hnD
      clear i1 i1' i2 e1 hfin UC e7 i4 hnD hD b7
      gi_wp2
      refine end_mark (v := .tuple #[.slice Ar (natI bl).length cr, .slice A7 (restL n bl).length c7, .int .i64 0]) hD7 (by simp [results, Tryz.results117, go_sem]) ⟨Ar, cr, A7, c7, by rw [natI_length], ?_, ?_, hb9.trans (p1.below (fun k hk e => by omega) hb9.size)⟩
      · have o9 : OwnI (w7.putObj (w2.heap.size + 3) (.deferred none)) w2.heap.size Ar cr (natI bl) := own_kept o8 fun k hk => p1.block k (own_lt o8 hk).2 fun e => hn7.out (by rw [← e]; exact hi4.out k hk)
        exact o9.mono (by omega)
      · have h2 : W.drew.heap.size = W.heap.size := rfl
        have o9 : OwnI (w7.putObj (w2.heap.size + 3) (.deferred none)) W.drew.heap.size A7 c7 (natI (restL n bl)) := own_kept o7 fun k hk => p1.block k (own_lt o7 hk).2 fun e => by have h1 := (own_lt o7 hk).1; omega
        have o10 := o9.mono (base' := w.heap.size) (by omega)
        exact o10)
end Go.Proofs.YtghigdcpinengaaGreat

/-! burning.Burn and Superstable with their errors. -/
namespace Go.Proofs.YtghigdcpinengaaGreat
open Go.RowKit Go.Shelf

/-- What Burn, Superstable return. -/
def burnE (n : Int) (es : List E3) (q : Int) (cs : List Int) : List Int × List Int × Int := if burnErr n es q cs = 0 then (natI (burntL es cs n.toNat q.toNat), natI (restL n.toNat (burntL es cs n.toNat q.toNat)), 0) else ([], [], burnErr n es q cs)
def superE (n : Int) (es : List E3) (q : Int) (cs : List Int) : Bool × Int := if burnErr n es q cs = 0 then (decide (restL n.toNat (burntL es cs n.toNat q.toNat) = []), 0) else (false, burnErr n es q cs)
set_option maxRecDepth 100000 in
set_option maxHeartbeats 4000000 in
theorem burn_any (n : Int) (A : Option Addr) (c : Nat) (es : List E3) (hn : es.length ≤ 1048576) (q : Int) (B : Option Addr) (d : Nat) (cs : List Int) (hm : cs.length ≤ 1048000) (w : World) (h : Reads w w.heap.size 3 A es.length (edgeCells es)) (h' : Reads w w.heap.size 1 B cs.length (ints cs)) :
    Calls Tryz.prog 117 #[.agg #[.int .i64 n, .slice A es.length c], .int .i64 q, .slice B cs.length d] w fun e w' => ∃ A1 c1 A2 c2, e = .returned (.tuple #[.slice A1 (burnE n es q cs).1.length c1, .slice A2 (burnE n es q cs).2.1.length c2, .int .i64 (burnE n es q cs).2.2]) ∧
      OwnI w' w.heap.size A1 c1 (burnE n es q cs).1 ∧ OwnI w' w.heap.size A2 c2 (burnE n es q cs).2.1 ∧ Below w.heap.size w w' := by
  by_cases hz : burnErr n es q cs = 0
  · obtain ⟨hG, _, hq0, hqn, _⟩ := conf_zero (burn_zero hz).1
    have hlo := hG.lo
    obtain ⟨m, rfl⟩ := Int.eq_ofNat_of_zero_le (show 0 ≤ n by omega)
    obtain ⟨p, rfl⟩ := Int.eq_ofNat_of_zero_le hq0
    have hE : burnE m es p cs = (natI (burntL es cs m p), natI (restL m (burntL es cs m p)), 0) := by unfold burnE; rw [if_pos hz]; simp
    rw [hE]
    refine (burn_ok m A c es hn p B d cs hm hz w h h').mono ?_
    rintro e w' ⟨A1, c1, A2, c2, he, o1, o2, hb⟩
    exact ⟨A1, c1, A2, c2, by dsimp only; rw [natI_length, natI_length]; exact he, o1, o2, hb⟩
  · have hE : burnE n es q cs = ([], [], burnErr n es q cs) := by unfold burnE; rw [if_neg hz]
    rw [hE]
    have hbc := bcheck_any n A c es hn q B d cs (by omega)
    obtain ⟨z, hzz⟩ : ∃ z, burnErr n es q cs = z := ⟨_, rfl⟩
    rw [hzz] at hbc hz ⊢
    have hb : (z == 0) = false := by simpa using hz
    have BC := Lib.hid hbc
    clear hz hE hbc hzz
    refine (callsIn_wide (n := 3)).1 ?_
    refine callsIn_of_wp_marks Tryz.func117 rfl trivial ?_
    simp only [Tryz.ntmps117, List.size_toArray, List.length_cons, List.length_nil, Nat.reduceAdd, Nat.reduceSub, Array.replicate_succ, Array.replicate_zero, List.push_toArray, List.append_toArray, List.nil_append, List.cons_append]
    gi_wp2_with fail
    refine ⟨trivial, ?_⟩
    refine (inW (BC.out _ ((h.alloc (Nat.le_refl _) _).more (by simp)) ((h'.alloc (Nat.le_refl _) _).more (by simp)))).mono ?_
    rintro e w1 ⟨rfl, hb1⟩
    have hbel1 : Below w.heap.size w w1 := ((Below.refl _ _).alloc (Nat.le_refl _) _).trans (hb1.mono (by simp))
    gi_wp2
    refine end_marks [] _ trivial fun w' ho => ⟨.tuple #[.slice none 0 0, .slice none 0 0, .int .i64 z], by simp [results, Tryz.results117, go_sem], none, 0, none, 0, rfl, OwnI.nil_ _ _, OwnI.nil_ _ _, ?_⟩
    exact hbel1.trans (ho.below (fun k hk e => by cases e) hbel1.size)

set_option maxRecDepth 100000 in
set_option maxHeartbeats 2000000 in
theorem super_any (n : Int) (A : Option Addr) (c : Nat) (es : List E3) (hn : es.length ≤ 1048576) (q : Int) (B : Option Addr) (d : Nat) (cs : List Int) (hm : cs.length ≤ 1048000) (w : World) (h : Reads w w.heap.size 3 A es.length (edgeCells es)) (h' : Reads w w.heap.size 1 B cs.length (ints cs)) :
    Calls Tryz.prog 84 #[.agg #[.int .i64 n, .slice A es.length c], .int .i64 q, .slice B cs.length d] w fun e w' => e = .returned (.tuple #[.bool (superE n es q cs).1, .int .i64 (superE n es q cs).2]) ∧ Below w.heap.size w w' := by
  have hE : superE n es q cs = (decide ((burnE n es q cs).2.2 = 0) && decide ((burnE n es q cs).2.1.length = 0), (burnE n es q cs).2.2) := by
    unfold superE burnE
    by_cases hz : burnErr n es q cs = 0
    · rw [if_pos hz, if_pos hz]
      simp [natI_length]
    · rw [if_neg hz, if_neg hz]
      simp [hz]
  have BC := Lib.hid (fun w h h' => burn_any n A c es hn q B d cs hm w h h')
  rw [hE]
  clear hE
  obtain ⟨⟨l, r, x⟩, hp⟩ : ∃ p, burnE n es q cs = p := ⟨_, rfl⟩
  rw [hp] at BC ⊢
  clear hp
  dsimp only at BC ⊢
  have g0 := Blk.new w 24 #[.int .i64 n, .slice A es.length c]
  by_cases hx : x = 0
  · subst hx
    obtain ⟨m, hm'⟩ : ∃ m, r.length = m := ⟨_, rfl⟩
    go_enter Tryz.func84, Tryz.ntmps84
    go_wp2_with fail
    refine (BC.out _ ((h.alloc (Nat.le_refl _) _).more (by simp)) ((h'.alloc (Nat.le_refl _) _).more (by simp))).mono ?_
    rintro e w1 ⟨A1, c1, A2, c2, rfl, _, _, hb1⟩
    have hbel1 : Below w.heap.size w w1 := ((Below.refl _ _).alloc (Nat.le_refl _) _).trans (hb1.mono (by simp))
    go_wp2
    go_ret2
    refine ⟨?_, hbel1⟩
    rw [hm', show ((m : Int) == 0) = decide (m = 0) from by rw [Bool.eq_iff_iff]; simp]
    simp
  · have hxb : (x == 0) = false := by simpa using hx
    rw [decide_eq_false hx, Bool.false_and]
    clear hx
    go_enter Tryz.func84, Tryz.ntmps84
    go_wp2_with fail
    refine (BC.out _ ((h.alloc (Nat.le_refl _) _).more (by simp)) ((h'.alloc (Nat.le_refl _) _).more (by simp))).mono ?_
    rintro e w1 ⟨A1, c1, A2, c2, rfl, _, _, hb1⟩
    have hbel1 : Below w.heap.size w w1 := ((Below.refl _ _).alloc (Nat.le_refl _) _).trans (hb1.mono (by simp))
    go_wp2
    go_ret2
    exact ⟨rfl, hbel1⟩
end Go.Proofs.YtghigdcpinengaaGreat

