/-
  Package burning: the fire.
-/
import Derived.Test.YtjeggocindcgaaaKindle
import Derived.Test.YtjeggocindcgaaaBurnP
import Derived.Test.YtjeggocindcgaaaIterX
import Derived.Stop.RegionWithIn
namespace Go.Proofs.Ytjeggocindcgaaa
open Go.RowKit Go.Shelf
attribute [local go_sem] Oper.semAt_some

/-- How many vertices are not burnt, read off the wood. -/
def leftW (w : World) (g n : Nat) : Nat := ((List.range n).filter fun u => match w.cell? ⟨g, 146 + u, none⟩ with | some (.bool false) => true | _ => false).length
theorem leftW_eq {w : World} {g n : Nat} {es : List E3} {ch : Value} {l : List Nat} (hn : n ≤ 12) (h : Wood w g n es ch l) : leftW w g n = (restL n l).length := by
  unfold leftW restL
  congr 1
  apply List.filter_congr
  intro u hu
  rw [List.mem_range] at hu
  rw [h.burnt_ (by omega)]
  by_cases hm : u ∈ l <;> simp [hm]

/-- The argument of a round is an int. -/
def ArgN (x : Nat) (args : Array Value) (_ : Nat → Prop) (_ : World) : Prop := args = #[.int .i64 x]

set_option maxHeartbeats 400000 in
theorem fire_any (g : Nat) (w : World) :
    Calls Try.prog 75 #[.pointer (some ⟨g, 0, none⟩)] w fun e w' =>
      e = .returned (.func (.func 101) #[] #[.pointer (some ⟨w.heap.size, 0, none⟩)]) ∧ w.alloc (.cells #[.pointer (some ⟨g, 0, none⟩)] 101) = w' := by
  have hmf : ∀ (fn : Fn) (first cap : Array Value) (w : World), (Instr.makeFunc fn first cap).run Try.prog w = .ok (.func fn first cap) w := fun _ _ _ _ => rfl
  go_enter Try.func75, Try.ntmps75
  go_wp2
  go_ret
  exact ⟨rfl, rfl⟩

set_option maxRecDepth 100000 in
set_option maxHeartbeats 4000000 in
theorem fire_iter (g n : Nat) (hn : n ≤ 12) (hn1 : 1 ≤ n) (es : List E3) (N : Int) (hok : ∀ e ∈ es, okE N e) (A : Option Addr) (c : Nat) (cs : List Int) (hcl : cs.length = n) (l : List Nat) (hl : LOk n l) (bw : Nat) (W0 : World)
    (h1 : Blk W0 bw 101 #[.pointer (some ⟨g, 0, none⟩)]) (h2 : Wood W0 g n es (.slice A cs.length c) l) (h3 : Reads W0 W0.heap.size 1 A cs.length (ints cs)) (hAg : ∀ k, blockOf A k → ¬ k = g) :
    IterF Try.prog 101 #[.pointer (some ⟨bw, 0, none⟩)] ArgN (fun k => k = bw ∨ k = g ∨ blockOf A k) (fun k => k = g) (fireS es cs n l) (fun W => Wood W g n es (.slice A cs.length c) (burnL es cs n n l)) W0 := by
  intro l' J Jx C W hL hC hJ hJx hY h0
  have k1 : Blk W bw 101 #[.pointer (some ⟨g, 0, none⟩)] := (hL.block bw h1.lt (.inl rfl)).trans h1
  have k2 : Wood W g n es (.slice A cs.length c) l := (hL.block g (Blk.lt h2) (.inr (.inl rfl))).trans h2
  have k3 : Reads W W.heap.size 1 A cs.length (ints cs) := ⟨h3.1, fun hn => by
    obtain ⟨b, off, rfl, hb, hc⟩ := h3.2 hn
    exact ⟨b, off, rfl, by have := hL.size; omega, fun j u hu => (World.cell?_of_block (w := W0) (hL.block b hb (.inr (.inr ⟨_, rfl, rfl⟩)))).trans (hc j u hu)⟩⟩
  have hgb : g ≠ bw := Blk.ne_ k2 k1 (by decide)
  have hgW : g < W.heap.size := Blk.lt k2
  have hbW : bw < W.heap.size := k1.lt
  have HA : Hid (∀ k, blockOf A k → k < W.heap.size) := fun k ⟨a, ha, hk⟩ => by
    rcases Nat.eq_zero_or_pos cs.length with h0 | h0
    · omega
    · obtain ⟨b, off, e, hb, _⟩ := k3.2 h0
      rw [e] at ha; injection ha with ha; subst ha; subst hk; exact hb
  have HOK := Lib.hid hok
  have HCL := Lib.hid hcl
  have HL := Lib.hid hl
  clear h1 h2 h3 hL hok hcl hl
  refine (callsIn_wide (n := 3)).1 ?_
  refine callsIn_of_wp_marks Try.func101 rfl trivial ?_
  simp only [Try.ntmps101, List.size_toArray, List.length_cons, List.length_nil, Nat.reduceAdd, Nat.reduceSub, Array.replicate_succ, Array.replicate_zero, List.push_toArray, List.append_toArray, List.nil_append, List.cons_append]
  gi_wp2_with fail
  gi_loopw [3] (fun v wl => ∃ (u : Nat) (pre : List Nat) (C' : Nat → Prop), v = .int .i64 u ∧ u ≤ n ∧ W.heap.size ≤ wl.heap.size ∧ Blk wl bw 101 #[.pointer (some ⟨g, 0, none⟩)] ∧ Wood wl g n es (.slice A cs.length c) (l ++ pre) ∧ Reads wl W.heap.size 1 A cs.length (ints cs) ∧
    Hid (LOk n (l ++ pre)) ∧ Hid (J pre C' wl) ∧ Hid (∀ k, C' k → k < wl.heap.size ∧ ¬ (k = bw ∨ k = g ∨ blockOf A k)) ∧ Hid (∀ x, x < u → catL es cs (l ++ pre) x = false) ∧ Hid (burnL es cs n n (l ++ pre) = burnL es cs n n l)) (fun v wl => leftW wl g n * 13 + (n - (intOf v).toNat))
  case atStart => exact ⟨0, [], C, rfl, by omega, Nat.le_refl _, k1, by rw [List.append_nil]; exact k2, k3, by rw [List.append_nil]; exact HL.out, h0, hC, fun x hx => by omega, by rw [List.append_nil]; rfl⟩
  case round =>
    obtain ⟨u, pre, C', rfl, hu, hsz, i1, i2, i3, IL, IJ, IC, IU, IB⟩ := hrel
    clear k1 k2 k3 h0
    have HY := Lib.hid hY
    have HJ := Lib.hid hJ
    clear hY hJ
    have c1 := i1.cell 0
    have c2 := i2.n_
    have hlw := leftW_eq hn i2
    by_cases hlt : u < n
    · have hi : (u : Int) < (n : Int) := by omega
      have hi2 : (u : Int) < 12 := by omega
      have hcl := HCL.out
      have CC := Lib.hid (catches_any g n hn es N HOK.out A c cs hcl (l ++ pre) IL.out u hlt wr i2 (i3.more hsz))
      cases hcat : catL es cs (l ++ pre) u
      · rw [hcat] at CC
        have HC := Lib.hid hcat
        clear hcat hcl
        gi_wp2_with fail
        refine ⟨trivial, ?_⟩
        refine (inW (CC.out)).mono ?_
        rintro e w' ⟨rfl, m, rfl⟩
        gi_wp2
        go_roundw
        case rel =>
          refine ⟨u + 1, pre, C', by go_num, by omega, hsz, i1.drewN m, Blk.drewN i2 m, i3.drewN m, IL, HJ.out _ _ _ _ IJ.out (Stays.of_only ((Only.refl (fun _ => False) wr).drewN m) (fun _ _ h => h.elim)), IC.out, ?_, IB⟩
          intro x hx
          by_cases he : x = u
          · subst he; exact HC.out
          · exact IU.out x (by omega)
        case measure =>
          rw [show leftW (wr.drewN m) g n = leftW wr g n from rfl]
          simp [intOf]; omega
      · have hct := catL_true.1 hcat
        rw [hcat] at CC
        have hhead := head_ready_of hlt hcat IU.out
        have HB2 := Lib.hid ((burnL_next IL.out hhead).symm.trans IB.out)
        rw [List.append_assoc] at HB2
        have HLO := Lib.hid (IL.out.snoc hct.1 hlt)
        rw [List.append_assoc] at HLO
        have HPX := Lib.hid (fire_pre HB2.out)
        have hrl := rest_len (n := n) (l ++ pre) IL.out
        have hrl2 := rest_len (n := n) (l ++ (pre ++ [u])) HLO.out
        have hll : (l ++ (pre ++ [u])).length = (l ++ pre).length + 1 := by simp; omega
        rw [← hlw] at hrl
        obtain ⟨rl2, hrl3⟩ : ∃ r, (restL n (l ++ (pre ++ [u]))).length = r := ⟨_, rfl⟩
        have HRL := Lib.hid hrl3
        rw [hrl3, hll] at hrl2
        obtain ⟨LL, hLL⟩ : ∃ r, (l ++ pre).length = r := ⟨_, rfl⟩
        rw [hLL] at hrl hrl2
        clear hcat hcl hct hhead hlw hll hrl3 hLL
        gi_wp2_with fail
        refine ⟨trivial, ?_⟩
        refine (inW (CC.out)).mono ?_
        rintro e w' ⟨rfl, m, rfl⟩
        have j1 : Blk ((wr.drewN m).setCell ⟨g, 146 + u, none⟩ (.bool true)) bw 101 #[.pointer (some ⟨g, 0, none⟩)] := (i1.drewN m).far (by simpa using Ne.symm hgb) _
        have j2 : Wood ((wr.drewN m).setCell ⟨g, 146 + u, none⟩ (.bool true)) g n es (.slice A cs.length c) (l ++ (pre ++ [u])) := by
          have := Wood.burn (w := wr.drewN m) (Blk.drewN i2 m) (u := u) (by omega)
          rwa [List.append_assoc] at this
        have hoS : Only (fun k => k = g) wr ((wr.drewN m).setCell ⟨g, 146 + u, none⟩ (.bool true)) := Only.setCell (C := fun k => k = g) (p := ⟨g, 146 + u, none⟩) ((Only.refl _ wr).drewN m) (.inl rfl) _
        have hIC := IC.out
        have hJ1 := HJ.out _ _ _ _ IJ.out (Stays.of_only (B := W.heap.size) (M := fun k => k = g) (C' := C') hoS (fun k _ hk => ⟨fun hc => (hIC k hc).2 (.inr (.inl hk)), .inr hk⟩))
        have hIB : ∀ k, k < W.heap.size → k = bw ∨ k = g ∨ blockOf A k → ¬ C' k := fun k _ hk hc => (hIC k hc).2 hk
        have hsz1 : wr.heap.size ≤ ((wr.drewN m).setCell ⟨g, 146 + u, none⟩ (.bool true)).heap.size := hoS.size
        obtain ⟨fn, tmps, assign, body, hy, hR⟩ := HY.out pre u C' ((wr.drewN m).setCell ⟨g, 146 + u, none⟩ (.bool true)) #[.int .i64 u] (fun _ => False) HPX.out hJ1 (by omega) (fun k hk => Nat.lt_of_lt_of_le (hIC k hk).1 hsz1) (fun k hk => hk.elim) rfl
        have c3 : (wr.drewN m).cell? ⟨bw, 0, none⟩ = some (.pointer (some ⟨g, 0, none⟩)) := c1
        have c4 : (wr.drewN m).cell? ⟨g, 146 + u, none⟩ = some (.bool (decide (u ∈ l ++ pre))) := Wood.burnt_ (w := wr.drewN m) (Blk.drewN i2 m) (by omega)
        have f4 : (wr.drewN m).frozen? ⟨g, 146 + u, none⟩ = false := Blk.frozen i2 _
        gi_wp2_with fail
        refine (roundIn_wide hR).mono ?_
        rintro e w2 ⟨C2, b2, ho2, hg2, rfl, hj2, hx2⟩
        cases b2
        · have HX2 := Lib.hid (hx2 rfl)
          clear hj2 hx2
          gi_wp2
          exact ⟨_, results_none rfl _ _ _, ⟨⟨_, rfl⟩, C2, .inr ⟨pre ++ [u], HPX.out, HX2.out⟩⟩⟩
        · have hJ2 := Lib.hid (hj2 rfl)
          have m1 := j1.only ho2 (fun hc => hc.elim (fun hc => (hIC _ hc).2 (.inl rfl)) id)
          have m2 : Wood w2 g n es (.slice A cs.length c) (l ++ (pre ++ [u])) := Blk.only j2 ho2 (fun hc => hc.elim (fun hc => (hIC _ hc).2 (.inr (.inl rfl))) id)
          have m3 := reads_only (reads_only i3 hoS hsz hAg) ho2 (by omega) (fun k hk hc => hc.elim (fun hc => (hIC _ hc).2 (.inr (.inr hk))) id)
          have hsz2 := ho2.size
          have hIC2 : Hid (∀ k, C2 k → k < w2.heap.size ∧ ¬ (k = bw ∨ k = g ∨ blockOf A k)) := by
            intro k hk
            rcases hg2 k hk with h | h | h
            · have := hIC k h; exact ⟨by omega, this.2⟩
            · exact h.elim
            · refine ⟨h.2, ?_⟩
              rintro (e | e | e)
              · omega
              · omega
              · have := HA.out k e; omega
          have hlw2 := leftW_eq hn m2
          rw [HRL.out] at hlw2
          clear hj2 hx2 j1 j2 ho2 hg2 hR hy c3 c4 f4 hJ1 hIB hoS i1 i2 i3 hIC
          gi_wp2
          go_roundw
          case rel => exact ⟨0, pre ++ [u], C2, rfl, by omega, by omega, m1, m2, m3, HLO.out, hJ2.out, hIC2.out, fun x hx => by omega, HB2.out⟩
          case measure => simp [intOf]; omega
    · obtain rfl : u = n := by omega
      obtain ⟨e1, e2⟩ := fire_end IB.out IU.out
      have E1 := Lib.hid e1
      have E2 := Lib.hid e2
      clear e1 e2
      gi_wp2
      exact ⟨_, results_none rfl _ _ _, ⟨⟨_, rfl⟩, C', .inl ⟨by rw [← E1.out]; exact IJ.out, by rw [E2.out]; exact i2⟩⟩⟩
end Go.Proofs.Ytjeggocindcgaaa
