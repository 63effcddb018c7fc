/-
  Texts of this claim, put together: FireX, Fire, SNext, RDual, TPar, BelowP, RPar, RTree2, TCycM, TSwap, TAll.
-/
import Derived.Test.YtnbikkcalcpedaaGreatDoorK26
import Derived.Test.YtnbikkcalcpedaaGreatDoorK06
import Derived.Test.YtnbikkcalcpedaaGreatDoorK10
import Derived.Stop.RegionWithIn
import Derived.Test.YtnbikkcalcpedaaGreatDoorK22
import Derived.Test.YtnbikkcalcpedaaGreatDoorK24
import Derived.Test.YtnbikkcalcpedaaGreatDoorK17
import Derived.Deep.QuietTactic
import Derived.BigQuiet
import Derived.Test.YtnbikkcalcpedaaGreatDoorK14
import Derived.Deep.RegionLaw
import Derived.Deep.DeepMust
import Derived.Test.YtnbikkcalcpedaaGreatDoorK03
namespace Go.Proofs.YtnbikkcalcpedaaGreatDoor
open Go.RowKit
section
variable {w w' : World} {base b n : Nat} {E : List (Nat × Nat)} {lv : Value} {a : FireA} {s : FireS} {H : List Int}
theorem FireW.step {e : Nat} {w1 : World} {A' : Option Addr} {c' : Nat} {x : Nat} (h : FireW w base b E n lv a s H)
    (hg : (w.alloc (.cells #[.int .i64 e] 3)).grownBy w1 (Value.slice a.AS x a.cS).ownBlock)
    (hO : OwnI w1 base A' c' (nI (s.steps ++ [e]))) (hA : ∀ k, blockOf A' k → blockOf a.AS k ∨ w.heap.size ≤ k) :
    FireW (w1.setCell ⟨b, 4, none⟩ (.slice A' (s.steps.length + 1) c')) base b E n lv { a with AS := A', cS := c' } { s with steps := s.steps ++ [e] } H := by
  have hk : ∀ k, k < w.heap.size → k ≠ b → ¬ blockOf a.AS k → (w1.setCell ⟨b, 4, none⟩ (.slice A' (s.steps.length + 1) c')).heap[k]? = w.heap[k]? := fun k k1 k2 k4 =>
    (Below.heap_setCell w1 ⟨b, 4, none⟩ _ k k2).trans ((hg.block k (by simp; omega) (fun e => k4 (blockOf_own.1 e.symm))).trans (Below.heap_alloc w _ k k1))
  have keepI : ∀ {A : Option Addr} {c : Nat} {xs : List Int}, OwnI w base A c xs → Dj A a.AS → OwnI (w1.setCell ⟨b, 4, none⟩ (.slice A' (s.steps.length + 1) c')) base A c xs := fun {A c xs} ho hd => own_kept ho fun k k1 => hk k (own_ltI ho k k1) (own_neB ho h.blk (by decide) k k1) (hd k k1)
  have b1 : Blk w1 b 242 (fireC E n lv a s H) := (hg.block b (by have := h.blk.lt; simp; omega) (fun e => own_neB h.steps h.blk (by decide) b (blockOf_own.1 e.symm) rfl)).trans (h.blk.alloc _)
  have g1 : Blk w1 a.gB 4 (bools (bntL n s.order)) := (hg.block a.gB (by have := h.burnt.lt; simp; omega) (fun e => own_neB h.steps h.burnt (by decide) a.gB (blockOf_own.1 e.symm) rfl)).trans (h.burnt.alloc _)
  have hO' : OwnI (w1.setCell ⟨b, 4, none⟩ (.slice A' (s.steps.length + 1) c')) base A' c' (nI (s.steps ++ [e])) := own_kept hO fun k k1 => Below.heap_setCell w1 ⟨b, 4, none⟩ _ k (own_neB hO b1 (by decide) k k1)
  refine { blk := ?_, ends := ?_, burnt := g1.far (fun e => h.ne e) _, hb := h.hb, hgB := h.hgB, tlen := h.tlen, times := keepI h.times h.tS, order := keepI h.order h.sO.symm, tree := keepI h.tree h.sD.symm, next := keepI h.next h.sH.symm, steps := hO', tS := (h.tS.symm.upd hA (own_ltI h.times)).symm, tO := h.tO, tD := h.tD, tH := h.tH, sO := h.sO.upd hA (own_ltI h.order), sD := h.sD.upd hA (own_ltI h.tree), sH := h.sH.upd hA (own_ltI h.next), oD := h.oD, oH := h.oH, dH := h.dH }
  · have := b1.set_ 4 (.slice A' (s.steps.length + 1) c')
    have e : (fireC E n lv a s H).setIfInBounds 4 (.slice A' (s.steps.length + 1) c') = fireC E n lv { a with AS := A', cS := c' } { s with steps := s.steps ++ [e] } H := by simp [fireC]
    rw [e] at this; exact this
  · refine h.ends.keep fun p hp => ?_
    have h1 := h.hb
    have hne : ¬ blockOf a.AS p.block := fun hc => by have := own_geI h.steps _ hc; omega
    have e := hk p.block (by have := h.blk.lt; omega) (by omega) hne
    simp only [World.cell?, e]
theorem FireW.edge {e : Nat} {w1 : World} {A' : Option Addr} {c' : Nat} {x : Nat} (h : FireW w base b E n lv a s H)
    (hg : (w.alloc (.cells #[.int .i64 e] 3)).grownBy w1 (Value.slice a.AD x a.cD).ownBlock)
    (hO : OwnI w1 base A' c' (nI (s.tree ++ [e]))) (hA : ∀ k, blockOf A' k → blockOf a.AD k ∨ w.heap.size ≤ k) :
    FireW (w1.setCell ⟨b, 6, none⟩ (.slice A' (s.tree.length + 1) c')) base b E n lv { a with AD := A', cD := c' } { s with tree := s.tree ++ [e] } H := by
  have hk : ∀ k, k < w.heap.size → k ≠ b → ¬ blockOf a.AD k → (w1.setCell ⟨b, 6, none⟩ (.slice A' (s.tree.length + 1) c')).heap[k]? = w.heap[k]? := fun k k1 k2 k4 =>
    (Below.heap_setCell w1 ⟨b, 6, none⟩ _ k k2).trans ((hg.block k (by simp; omega) (fun e => k4 (blockOf_own.1 e.symm))).trans (Below.heap_alloc w _ k k1))
  have keepI : ∀ {A : Option Addr} {c : Nat} {xs : List Int}, OwnI w base A c xs → Dj A a.AD → OwnI (w1.setCell ⟨b, 6, none⟩ (.slice A' (s.tree.length + 1) c')) base A c xs := fun {A c xs} ho hd => own_kept ho fun k k1 => hk k (own_ltI ho k k1) (own_neB ho h.blk (by decide) k k1) (hd k k1)
  have b1 : Blk w1 b 242 (fireC E n lv a s H) := (hg.block b (by have := h.blk.lt; simp; omega) (fun e => own_neB h.tree h.blk (by decide) b (blockOf_own.1 e.symm) rfl)).trans (h.blk.alloc _)
  have g1 : Blk w1 a.gB 4 (bools (bntL n s.order)) := (hg.block a.gB (by have := h.burnt.lt; simp; omega) (fun e => own_neB h.tree h.burnt (by decide) a.gB (blockOf_own.1 e.symm) rfl)).trans (h.burnt.alloc _)
  have hO' : OwnI (w1.setCell ⟨b, 6, none⟩ (.slice A' (s.tree.length + 1) c')) base A' c' (nI (s.tree ++ [e])) := own_kept hO fun k k1 => Below.heap_setCell w1 ⟨b, 6, none⟩ _ k (own_neB hO b1 (by decide) k k1)
  refine { blk := ?_, ends := ?_, burnt := g1.far (fun e => h.ne e) _, hb := h.hb, hgB := h.hgB, tlen := h.tlen, times := keepI h.times h.tD, order := keepI h.order h.oD, steps := keepI h.steps h.sD, next := keepI h.next h.dH.symm, tree := hO', tS := h.tS, tO := h.tO, tD := (h.tD.symm.upd hA (own_ltI h.times)).symm, tH := h.tH, sO := h.sO, sD := (h.sD.symm.upd hA (own_ltI h.steps)).symm, sH := h.sH, oD := (h.oD.symm.upd hA (own_ltI h.order)).symm, oH := h.oH, dH := h.dH.upd hA (own_ltI h.next) }
  · have := b1.set_ 6 (.slice A' (s.tree.length + 1) c')
    have e : (fireC E n lv a s H).setIfInBounds 6 (.slice A' (s.tree.length + 1) c') = fireC E n lv { a with AD := A', cD := c' } { s with tree := s.tree ++ [e] } H := by simp [fireC]
    rw [e] at this; exact this
  · refine h.ends.keep fun p hp => ?_
    have h1 := h.hb
    have hne : ¬ blockOf a.AD p.block := fun hc => by have := own_geI h.tree _ hc; omega
    have e := hk p.block (by have := h.blk.lt; omega) (by omega) hne
    simp only [World.cell?, e]
theorem FireW.time (h : FireW w base b E n lv a s H) (v : Nat) (x : Int) : FireW (w.setCell ⟨a.gT, v, none⟩ (.int .i64 x)) base b E n lv a { s with times := s.times.set v x } H := by
  have hT : blockOf (some ⟨a.gT, 0, none⟩) a.gT := by simp [blockOf]
  have hbT : base ≤ a.gT := own_geI h.times _ hT
  have nb : a.gT ≠ b := own_neB h.times h.blk (by decide) _ hT
  have ng : a.gT ≠ a.gB := own_neB h.times h.burnt (by decide) _ hT
  have keepI : ∀ {A : Option Addr} {c : Nat} {xs : List Int}, OwnI w base A c xs → Dj (some ⟨a.gT, 0, none⟩) A → OwnI (w.setCell ⟨a.gT, v, none⟩ (.int .i64 x)) base A c xs := fun {A c xs} ho hd => own_kept ho fun k k1 => Below.heap_setCell w ⟨a.gT, v, none⟩ _ k (fun e => by have e : k = a.gT := e; subst e; exact hd _ hT k1)
  refine { h with blk := ?_, ends := ?_, burnt := h.burnt.far (fun e => ng e.symm) _, times := h.times.put v x, tlen := by rw [List.length_set]; exact h.tlen, steps := keepI h.steps h.tS, order := keepI h.order h.tO, tree := keepI h.tree h.tD, next := keepI h.next h.tH }
  · exact h.blk.far (p := ⟨a.gT, v, none⟩) (fun e => nb e.symm) _
  · refine h.ends.keep fun p hp => ?_
    have e := Below.heap_setCell w ⟨a.gT, v, none⟩ (.int .i64 x) p.block (by show p.block ≠ a.gT; omega)
    simp only [World.cell?, e]
def lenAt (w : World) (b o : Nat) : Nat := match w.cell? ⟨b, o, none⟩ with | some (.slice _ m _) => m | _ => 0
theorem lenAt_of {b o m c : Nat} {A : Option Addr} (h : w.cell? ⟨b, o, none⟩ = some (.slice A m c)) : lenAt w b o = m := by unfold lenAt; rw [h]
theorem FireW.lenH (h : FireW w base b E n lv a s H) : lenAt w b 7 = H.length := lenAt_of (h.blk.cell 7)
theorem FireW.lenO (h : FireW w base b E n lv a s H) : lenAt w b 5 = s.order.length := lenAt_of (h.blk.cell 5)
end
end Go.Proofs.YtnbikkcalcpedaaGreatDoor
namespace Go.Proofs.YtnbikkcalcpedaaGreatDoor
open Go.RowKit Go.Shelf
attribute [local go_sem] Oper.semAt_some
def leftW (w : World) (g n : Nat) : Nat := ((List.range n).filter fun u => match w.cell? ⟨g, 146 + u, none⟩ with | some (.bool false) => true | _ => false).length
theorem leftW_eq {w : World} {g n : Nat} {es : List E3} {ch : Value} {l : List Nat} (hn : n ≤ 12) (h : Wood w g n es ch l) : leftW w g n = (restL n l).length := by
  unfold leftW restL
  congr 1
  apply List.filter_congr
  intro u hu
  rw [List.mem_range] at hu
  rw [h.burnt_ (by omega)]
  by_cases hm : u ∈ l <;> simp [hm]
def ArgN (x : Nat) (args : Array Value) (_ : Nat → Prop) (_ : World) : Prop := args = #[.int .i64 x]
set_option maxHeartbeats 400000 in
theorem fire_any (g : Nat) (w : World) :
    Calls Tryz.prog 303 #[.pointer (some ⟨g, 0, none⟩)] w fun e w' =>
      e = .returned (.func (.func 329) #[] #[.pointer (some ⟨w.heap.size, 0, none⟩)]) ∧ w.alloc (.cells #[.pointer (some ⟨g, 0, none⟩)] 336) = w' := by
  have hmf : ∀ (fn : Fn) (first cap : Array Value) (w : World), (Instr.makeFunc fn first cap).run Tryz.prog w = .ok (.func fn first cap) w := fun _ _ _ _ => rfl
  go_enter Tryz.func303, Tryz.ntmps303
  go_wp2
  go_ret
  exact ⟨rfl, rfl⟩
set_option maxRecDepth 100000 in
set_option maxHeartbeats 4000000 in
theorem fire_iter (g n : Nat) (hn : n ≤ 12) (hn1 : 1 ≤ n) (es : List E3) (N : Int) (hok : ∀ e ∈ es, okE N e) (A : Option Addr) (c : Nat) (cs : List Int) (hcl : cs.length = n) (l : List Nat) (hl : LOk n l) (bw : Nat) (W0 : World)
    (h1 : Blk W0 bw 336 #[.pointer (some ⟨g, 0, none⟩)]) (h2 : Wood W0 g n es (.slice A cs.length c) l) (h3 : Reads W0 W0.heap.size 1 A cs.length (ints cs)) (hAg : ∀ k, blockOf A k → ¬ k = g) :
    IterF Tryz.prog 329 #[.pointer (some ⟨bw, 0, none⟩)] ArgN (fun k => k = bw ∨ k = g ∨ blockOf A k) (fun k => k = g) (fireS es cs n l) (fun W => Wood W g n es (.slice A cs.length c) (burnL es cs n n l)) W0 := by
  intro l' J Jx C W hL hC hJ hJx hY h0
  have k1 : Blk W bw 336 #[.pointer (some ⟨g, 0, none⟩)] := (hL.block bw h1.lt (.inl rfl)).trans h1
  have k2 : Wood W g n es (.slice A cs.length c) l := (hL.block g (Blk.lt h2) (.inr (.inl rfl))).trans h2
  have k3 : Reads W W.heap.size 1 A cs.length (ints cs) := ⟨h3.1, fun hn => by
    obtain ⟨b, off, rfl, hb, hc⟩ := h3.2 hn
    exact ⟨b, off, rfl, by have := hL.size; omega, fun j u hu => (World.cell?_of_block (w := W0) (hL.block b hb (.inr (.inr ⟨_, rfl, rfl⟩)))).trans (hc j u hu)⟩⟩
  have hgb : g ≠ bw := Blk.ne_ k2 k1 (by decide)
  have hgW : g < W.heap.size := Blk.lt k2
  have hbW : bw < W.heap.size := k1.lt
  have HA : Hid (∀ k, blockOf A k → k < W.heap.size) := fun k ⟨a, ha, hk⟩ => by
    rcases Nat.eq_zero_or_pos cs.length with h0 | h0
    · omega
    · obtain ⟨b, off, e, hb, _⟩ := k3.2 h0
      rw [e] at ha; injection ha with ha; subst ha; subst hk; exact hb
  have HOK := Lib.hid hok
  have HCL := Lib.hid hcl
  have HL := Lib.hid hl
  clear h1 h2 h3 hL hok hcl hl
  refine (callsIn_wide (n := 3)).1 ?_
  refine callsIn_of_wp_marks Tryz.func329 rfl trivial ?_
  simp only [Tryz.ntmps329, List.size_toArray, List.length_cons, List.length_nil, Nat.reduceAdd, Nat.reduceSub, Array.replicate_succ, Array.replicate_zero, List.push_toArray, List.append_toArray, List.nil_append, List.cons_append]
  gi_wp2_with fail
  gi_loopw [3] (fun v wl => ∃ (u : Nat) (pre : List Nat) (C' : Nat → Prop), v = .int .i64 u ∧ u ≤ n ∧ W.heap.size ≤ wl.heap.size ∧ Blk wl bw 336 #[.pointer (some ⟨g, 0, none⟩)] ∧ Wood wl g n es (.slice A cs.length c) (l ++ pre) ∧ Reads wl W.heap.size 1 A cs.length (ints cs) ∧
    Hid (LOk n (l ++ pre)) ∧ Hid (J pre C' wl) ∧ Hid (∀ k, C' k → k < wl.heap.size ∧ ¬ (k = bw ∨ k = g ∨ blockOf A k)) ∧ Hid (∀ x, x < u → catL es cs (l ++ pre) x = false) ∧ Hid (burnL es cs n n (l ++ pre) = burnL es cs n n l)) (fun v wl => leftW wl g n * 13 + (n - (intOf v).toNat))
  case atStart => exact ⟨0, [], C, rfl, by omega, Nat.le_refl _, k1, by rw [List.append_nil]; exact k2, k3, by rw [List.append_nil]; exact HL.out, h0, hC, fun x hx => by omega, by rw [List.append_nil]; rfl⟩
  case round =>
    obtain ⟨u, pre, C', rfl, hu, hsz, i1, i2, i3, IL, IJ, IC, IU, IB⟩ := hrel
    clear k1 k2 k3 h0
    have HY := Lib.hid hY
    have HJ := Lib.hid hJ
    clear hY hJ
    have c1 := i1.cell 0
    have c2 := i2.n_
    have hlw := leftW_eq hn i2
    by_cases hlt : u < n
    · have hi : (u : Int) < (n : Int) := by omega
      have hi2 : (u : Int) < 12 := by omega
      have hcl := HCL.out
      have CC := Lib.hid (catches_any g n hn es N HOK.out A c cs hcl (l ++ pre) IL.out u hlt wr i2 (i3.more hsz))
      cases hcat : catL es cs (l ++ pre) u
      · rw [hcat] at CC
        have HC := Lib.hid hcat
        clear hcat hcl
        gi_wp2_with fail
        refine ⟨trivial, ?_⟩
        refine (inW (CC.out)).mono ?_
        rintro e w' ⟨rfl, m, rfl⟩
        gi_wp2
        go_roundw
        case rel =>
          refine ⟨u + 1, pre, C', by go_num, by omega, hsz, i1.drewN m, Blk.drewN i2 m, i3.drewN m, IL, HJ.out _ _ _ _ IJ.out (Stays.of_only ((Only.refl (fun _ => False) wr).drewN m) (fun _ _ h => h.elim)), IC.out, ?_, IB⟩
          intro x hx
          by_cases he : x = u
          · subst he; exact HC.out
          · exact IU.out x (by omega)
        case measure =>
          rw [show leftW (wr.drewN m) g n = leftW wr g n from rfl]
          simp [intOf]; omega
      · have hct := catL_true.1 hcat
        rw [hcat] at CC
        have hhead := head_ready_of hlt hcat IU.out
        have HB2 := Lib.hid ((burnL_next IL.out hhead).symm.trans IB.out)
        rw [List.append_assoc] at HB2
        have HLO := Lib.hid (IL.out.snoc hct.1 hlt)
        rw [List.append_assoc] at HLO
        have HPX := Lib.hid (fire_pre HB2.out)
        have hrl := rest_len (n := n) (l ++ pre) IL.out
        have hrl2 := rest_len (n := n) (l ++ (pre ++ [u])) HLO.out
        have hll : (l ++ (pre ++ [u])).length = (l ++ pre).length + 1 := by simp; omega
        rw [← hlw] at hrl
        obtain ⟨rl2, hrl3⟩ : ∃ r, (restL n (l ++ (pre ++ [u]))).length = r := ⟨_, rfl⟩
        have HRL := Lib.hid hrl3
        rw [hrl3, hll] at hrl2
        obtain ⟨LL, hLL⟩ : ∃ r, (l ++ pre).length = r := ⟨_, rfl⟩
        rw [hLL] at hrl hrl2
        clear hcat hcl hct hhead hlw hll hrl3 hLL
        gi_wp2_with fail
        refine ⟨trivial, ?_⟩
        refine (inW (CC.out)).mono ?_
        rintro e w' ⟨rfl, m, rfl⟩
        have j1 : Blk ((wr.drewN m).setCell ⟨g, 146 + u, none⟩ (.bool true)) bw 336 #[.pointer (some ⟨g, 0, none⟩)] := (i1.drewN m).far (by simpa using Ne.symm hgb) _
        have j2 : Wood ((wr.drewN m).setCell ⟨g, 146 + u, none⟩ (.bool true)) g n es (.slice A cs.length c) (l ++ (pre ++ [u])) := by
          have := Wood.burn (w := wr.drewN m) (Blk.drewN i2 m) (u := u) (by omega)
          rwa [List.append_assoc] at this
        have hoS : Only (fun k => k = g) wr ((wr.drewN m).setCell ⟨g, 146 + u, none⟩ (.bool true)) := Only.setCell (C := fun k => k = g) (p := ⟨g, 146 + u, none⟩) ((Only.refl _ wr).drewN m) (.inl rfl) _
        have hIC := IC.out
        have hJ1 := HJ.out _ _ _ _ IJ.out (Stays.of_only (B := W.heap.size) (M := fun k => k = g) (C' := C') hoS (fun k _ hk => ⟨fun hc => (hIC k hc).2 (.inr (.inl hk)), .inr hk⟩))
        have hIB : ∀ k, k < W.heap.size → k = bw ∨ k = g ∨ blockOf A k → ¬ C' k := fun k _ hk hc => (hIC k hc).2 hk
        have hsz1 : wr.heap.size ≤ ((wr.drewN m).setCell ⟨g, 146 + u, none⟩ (.bool true)).heap.size := hoS.size
        obtain ⟨fn, tmps, assign, body, hy, hR⟩ := HY.out pre u C' ((wr.drewN m).setCell ⟨g, 146 + u, none⟩ (.bool true)) #[.int .i64 u] (fun _ => False) HPX.out hJ1 (by omega) (fun k hk => Nat.lt_of_lt_of_le (hIC k hk).1 hsz1) (fun k hk => hk.elim) rfl
        have c3 : (wr.drewN m).cell? ⟨bw, 0, none⟩ = some (.pointer (some ⟨g, 0, none⟩)) := c1
        have c4 : (wr.drewN m).cell? ⟨g, 146 + u, none⟩ = some (.bool (decide (u ∈ l ++ pre))) := Wood.burnt_ (w := wr.drewN m) (Blk.drewN i2 m) (by omega)
        have f4 : (wr.drewN m).frozen? ⟨g, 146 + u, none⟩ = false := Blk.frozen i2 _
        gi_wp2_with fail
        refine (roundIn_wide hR).mono ?_
        rintro e w2 ⟨C2, b2, ho2, hg2, rfl, hj2, hx2⟩
        cases b2
        · have HX2 := Lib.hid (hx2 rfl)
          clear hj2 hx2
          gi_wp2
          exact ⟨_, results_none rfl _ _ _, ⟨⟨_, rfl⟩, C2, .inr ⟨pre ++ [u], HPX.out, HX2.out⟩⟩⟩
        · have hJ2 := Lib.hid (hj2 rfl)
          have m1 := j1.only ho2 (fun hc => hc.elim (fun hc => (hIC _ hc).2 (.inl rfl)) id)
          have m2 : Wood w2 g n es (.slice A cs.length c) (l ++ (pre ++ [u])) := Blk.only j2 ho2 (fun hc => hc.elim (fun hc => (hIC _ hc).2 (.inr (.inl rfl))) id)
          have m3 := reads_only (reads_only i3 hoS hsz hAg) ho2 (by omega) (fun k hk hc => hc.elim (fun hc => (hIC _ hc).2 (.inr (.inr hk))) id)
          have hsz2 := ho2.size
          have hIC2 : Hid (∀ k, C2 k → k < w2.heap.size ∧ ¬ (k = bw ∨ k = g ∨ blockOf A k)) := by
            intro k hk
            rcases hg2 k hk with h | h | h
            · have := hIC k h; exact ⟨by omega, this.2⟩
            · exact h.elim
            · refine ⟨h.2, ?_⟩
              rintro (e | e | e)
              · omega
              · omega
              · have := HA.out k e; omega
          have hlw2 := leftW_eq hn m2
          rw [HRL.out] at hlw2
          clear hj2 hx2 j1 j2 ho2 hg2 hR hy c3 c4 f4 hJ1 hIB hoS i1 i2 i3 hIC
          gi_wp2
          go_roundw
          case rel => exact ⟨0, pre ++ [u], C2, rfl, by omega, by omega, m1, m2, m3, HLO.out, hJ2.out, hIC2.out, fun x hx => by omega, HB2.out⟩
          case measure => simp [intOf]; omega
    · obtain rfl : u = n := by omega
      obtain ⟨e1, e2⟩ := fire_end IB.out IU.out
      have E1 := Lib.hid e1
      have E2 := Lib.hid e2
      clear e1 e2
      gi_wp2
      exact ⟨_, results_none rfl _ _ _, ⟨⟨_, rfl⟩, C', .inl ⟨by rw [← E1.out]; exact IJ.out, by rw [E2.out]; exact i2⟩⟩⟩
end Go.Proofs.YtnbikkcalcpedaaGreatDoor
namespace Go.Proofs.YtnbikkcalcpedaaGreatDoor
open Go.RowKit
def firstT (ws : List Bool) : Int := match (List.range ws.length).find? fun v => ws.getD v false with
  | some v => v
  | none => -1
theorem firstT_some {ws : List Bool} {k : Nat} (hk : k < ws.length) (h : ws[k]? = some true) (hl : ∀ j, j < k → ws.getD j false = false) : firstT ws = k := by
  unfold firstT
  have : (List.range ws.length).find? (fun v => ws.getD v false) = some k := by
    rw [List.find?_range_eq_some]
    refine ⟨by rw [List.getD_eq_getElem?_getD, h]; rfl, by simpa using hk, fun j hj => ?_⟩
    rw [hl j hj]; rfl
  rw [this]
theorem firstT_none {ws : List Bool} (h : ∀ j, j < ws.length → ws.getD j false = false) : firstT ws = -1 := by
  unfold firstT
  have : (List.range ws.length).find? (fun v => ws.getD v false) = none := by
    rw [List.find?_eq_none]
    intro x hx
    rw [h x (List.mem_range.1 hx)]
    simp
  rw [this]
set_option maxHeartbeats 2000000 in
theorem indexB_any (g o c : Nat) (ws : List Bool) (w : World) (hl : ws.length ≤ 1048576) (h : ∀ k b, ws[k]? = some b → w.cell? ⟨g, o + k, none⟩ = some (.bool b)) :
    Calls Tryz.prog 305 #[.slice (some ⟨g, o, none⟩) ws.length c, .bool true] w fun e w' => e = .returned (.int .i64 (firstT ws)) ∧ w' = w := by
  have HC := Lib.hid h
  clear h
  go_enter Tryz.func305, Tryz.ntmps305
  go_wp2_with fail
  go_loop [5, 8] (fun _ i => ∃ k : Nat, i = .int .i64 k ∧ k ≤ ws.length ∧ Hid (∀ j, j < k → ws.getD j false = false)) (fun _ i => ws.length - (intOf i).toNat)
  case atStart => exact ⟨0, rfl, by omega, fun j hj => by omega⟩
  case round =>
    obtain ⟨k, rfl, hk, HN⟩ := hrel
    by_cases hlt : k < ws.length
    · obtain ⟨b, hb⟩ := get_of_lt hlt
      have hi : (k : Int) < (ws.length : Int) := by omega
      have c0 := HC.out k b hb
      have HB := Lib.hid hb
      clear hb
      cases b
      · go_wp2
        go_round
        case rel => exact ⟨k + 1, by go_num, by omega, fun j hj => by
          by_cases e : j = k
          · subst e; rw [List.getD_eq_getElem?_getD, HB.out]; rfl
          · exact HN.out j (by omega)⟩
        case measure => simp [intOf]; omega
      · go_wp2
        go_ret
        exact ⟨ret_int (firstT_some hlt HB.out HN.out).symm, rfl⟩
    · obtain rfl : k = ws.length := by omega
      go_wp2
      go_ret
      exact ⟨ret_int (firstT_none HN.out).symm, rfl⟩
set_option maxHeartbeats 2000000 in
theorem pnext_any (base bp n : Nat) (a : PA) (d : List Int) (q : Int) (rows : List (List Int)) (val fired : List Int) (total : Int) (ws : List Bool) (w : World) (h : PileW w base bp n a d q rows val fired total ws) :
    Calls Tryz.prog 260 #[.pointer (some ⟨bp, 0, none⟩)] w fun e w' => e = .returned (.int .i64 (firstT ws)) ∧ w' = w := by
  have hwl := h.wl
  have IB := Lib.hid (indexB_any bp 6 12 ws w (by omega) (fun k b hb => (h.blk.cell (6 + k)).trans (by rw [Nat.add_comm]; simp [pileCells, hb])))
  rw [hwl] at IB
  clear h
  go_enter Tryz.func260, Tryz.ntmps260
  go_wp2_with fail
  refine (IB.out).mono ?_
  rintro e w' ⟨rfl, rfl⟩
  go_wp2
  go_ret
  exact ⟨rfl, rfl⟩
end Go.Proofs.YtnbikkcalcpedaaGreatDoor
namespace Go.Proofs.YtnbikkcalcpedaaGreatDoor
open Go.RowKit
def dualL (n : Nat) (es : List E3) (cs : List Int) : List Int := (List.range n).map fun v : Nat => valE es v - 1 - cs.getD v 0
theorem dualL_get {n v : Nat} (es : List E3) (cs : List Int) (hv : v < n) : (dualL n es cs).getD v 0 = valE es v - 1 - cs.getD v 0 := by
  rw [List.getD_eq_getElem?_getD]
  simp [dualL, hv]
theorem jn_joins {n : Nat} {es : List E3} (hG : RightG n es) {l : List Nat} (hl : LOk n l) {v : Nat} (hv : v ∉ l) : jnE es l v = joinsN es v l := by
  rw [jnE_flm hG, flm_joins l hl hv]
theorem cat_dual {n : Nat} {es : List E3} (hG : RightG n es) (cs : List Int) {l : List Nat} (hl : LOk n l) {v : Nat} (hv : v < n) : catL es (dualL n es cs) l v = (!decide (v ∈ l) && catchB es cs l v) := by
  unfold catL catchB
  by_cases hm : v ∈ l
  · simp [hm]
  · rw [dualL_get es cs hv, jn_joins hG hl hm]
    congr 1
    rw [decide_eq_decide]; omega
def recL (n : Nat) (es : List E3) (cs : List Int) (q : Nat) : List Nat := burntL es (dualL n es cs) n q
def recB (n : Nat) (es : List E3) (cs : List Int) (q : Nat) : Bool := stabTo es cs q n && decide ((recL n es cs q).length = n)
theorem lok_one {n q : Nat} (hq : q < n) : LOk n [q] := ⟨by simp, by simpa using hq⟩
theorem recL_ok {n q : Nat} {es : List E3} {cs : List Int} (hq : q < n) : LOk n (recL n es cs q) := burnL_ok n [q] (lok_one hq)
theorem burn_full {n : Nat} {es : List E3} {c : List Int} {l : List Nat} (hl : LOk n l) (hn : l.length = n) : burnL es c n n l = l := by
  obtain ⟨z, hz⟩ := burnL_pre (es := es) (c := c) (n := n) n l
  have h1 := nodup_len (burnL_ok (es := es) (c := c) n l hl)
  rw [← hz, List.length_append] at h1
  have h2 : z = [] := List.length_eq_zero_iff.1 (by omega)
  rw [← hz, h2, List.append_nil]
end Go.Proofs.YtnbikkcalcpedaaGreatDoor
namespace Go.Proofs.YtnbikkcalcpedaaGreatDoor
open Go.RowKit
end Go.Proofs.YtnbikkcalcpedaaGreatDoor
namespace Go.Proofs.YtnbikkcalcpedaaGreatDoor
end Go.Proofs.YtnbikkcalcpedaaGreatDoor
namespace Go.Proofs.YtnbikkcalcpedaaGreatDoor
open Go.RowKit
end Go.Proofs.YtnbikkcalcpedaaGreatDoor
namespace Go.Proofs.YtnbikkcalcpedaaGreatDoor
open Go.RowKit
end Go.Proofs.YtnbikkcalcpedaaGreatDoor
namespace Go.Proofs.YtnbikkcalcpedaaGreatDoor
open Go.RowKit
end Go.Proofs.YtnbikkcalcpedaaGreatDoor
namespace Go.Proofs.YtnbikkcalcpedaaGreatDoor
open Go.RowKit
end Go.Proofs.YtnbikkcalcpedaaGreatDoor
namespace Go.Proofs.YtnbikkcalcpedaaGreatDoor
open Go.RowKit Go.Shelf
attribute [local go_sem] Oper.semAt_some
theorem OwnQ.cap_ {w : World} {base : Nat} {A : Option Addr} {c : Nat} {ps : List (Nat × Nat)} (h : OwnQ w base A c ps) : ps.length ≤ c := by
  rcases h.2 with ⟨hv, h0⟩ | ⟨g, cap, cur, hv, _, _, h1, _⟩
  · omega
  · injection hv with _ _ e; omega
end Go.Proofs.YtnbikkcalcpedaaGreatDoor
