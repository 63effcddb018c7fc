/-
 Texts of this claim, put together: Fire, SNext, RDual, TPar, BelowP, RPar, RTree2, TCycM, TSwap, TAll.
-/
import Derived.Test.YtnbikkcalcpedaaGreatDoorK25
import Derived.Test.YtnbikkcalcpedaaGreatDoorK04
import Derived.Test.YtnbikkcalcpedaaGreatDoorK08
import Derived.Stop.RegionWithIn
import Derived.Test.YtnbikkcalcpedaaGreatDoorK21
import Derived.Test.YtnbikkcalcpedaaGreatDoorK23
import Derived.Test.YtnbikkcalcpedaaGreatDoorK16
import Derived.Deep.QuietTactic
import Derived.BigQuiet
import Derived.Test.YtnbikkcalcpedaaGreatDoorK26
import Derived.Test.YtnbikkcalcpedaaGreatDoorK12
import Derived.Deep.RegionLaw
import Derived.Deep.DeepMust
import Derived.Test.YtnbikkcalcpedaaGreatDoorK02
set_option maxRecDepth 100000
set_option maxHeartbeats 4000000
namespace Go.Proofs.YtnbikkcalcpedaaGreatDoor
open Go.RowKit Go.Shelf
attribute [local go_sem] Oper.semAt_some
def leftW (w : World) (g n : Nat) : Nat := ((List.range n).filter fun u => match w.cell? ⟨g, 146 + u, none⟩ with | some (.bool false) => true | _ => false).length
theorem leftW_eq {w : World} {g n : Nat} {es : List E3} {ch : Value} {l : List Nat} (hn : n ≤ 12) (h : Wood w g n es ch l) : leftW w g n = (restL n l).length := by
 unfold leftW restL
 congr 1
 apply List.filter_congr
 intro u hu
 rw [List.mem_range] at hu
 rw [h.burnt_ (by omega)]
 by_cases hm : u ∈ l <;> simp [hm]
def ArgN (x : Nat) (args : Array Value) (_ : Nat → Prop) (_ : World) : Prop := args = #[.int .i64 x]
theorem fire_any (g : Nat) (w : World) :
  Calls Tryz.prog 303 #[.pointer (some ⟨g, 0, none⟩)] w fun e w' =>
   e = .returned (.func (.func 329) #[] #[.pointer (some ⟨w.heap.size, 0, none⟩)]) ∧ w.alloc (.cells #[.pointer (some ⟨g, 0, none⟩)] 336) = w' := by
 have hmf : ∀ (fn : Fn) (first cap : Array Value) (w : World), (Instr.makeFunc fn first cap).run Tryz.prog w = .ok (.func fn first cap) w := fun _ _ _ _ => rfl
 go_enter Tryz.func303, Tryz.ntmps303
 go_wp2
 go_ret
 exact ⟨rfl, rfl⟩
theorem fire_iter (g n : Nat) (hn : n ≤ 12) (hn1 : 1 ≤ n) (es : List E3) (N : Int) (hok : ∀ e ∈ es, okE N e) (A : Option Addr) (c : Nat) (cs : List Int) (hcl : cs.length = n) (l : List Nat) (hl : LOk n l) (bw : Nat) (W0 : World)
  (h1 : Blk W0 bw 336 #[.pointer (some ⟨g, 0, none⟩)]) (h2 : Wood W0 g n es (.slice A cs.length c) l) (h3 : Reads W0 W0.heap.size 1 A cs.length (ints cs)) (hAg : ∀ k, blockOf A k → ¬ k = g) :
  IterF Tryz.prog 329 #[.pointer (some ⟨bw, 0, none⟩)] ArgN (fun k => k = bw ∨ k = g ∨ blockOf A k) (fun k => k = g) (fireS es cs n l) (fun W => Wood W g n es (.slice A cs.length c) (burnL es cs n n l)) W0 := by
 intro l' J Jx C W hL hC hJ hJx hY h0
 have k1 : Blk W bw 336 #[.pointer (some ⟨g, 0, none⟩)] := (hL.block bw h1.lt (.inl rfl)).trans h1
 have k2 : Wood W g n es (.slice A cs.length c) l := (hL.block g (Blk.lt h2) (.inr (.inl rfl))).trans h2
 have k3 : Reads W W.heap.size 1 A cs.length (ints cs) := ⟨h3.1, fun hn => by
  obtain ⟨b, off, rfl, hb, hc⟩ := h3.2 hn
  exact ⟨b, off, rfl, by have := hL.size; omega, fun j u hu => (World.cell?_of_block (w := W0) (hL.block b hb (.inr (.inr ⟨_, rfl, rfl⟩)))).trans (hc j u hu)⟩⟩
 have hgb : g ≠ bw := Blk.ne_ k2 k1 (by decide)
 have hgW : g < W.heap.size := Blk.lt k2
 have hbW : bw < W.heap.size := k1.lt
 have HA : Hid (∀ k, blockOf A k → k < W.heap.size) := fun k ⟨a, ha, hk⟩ => by
  rcases Nat.eq_zero_or_pos cs.length with h0 | h0
  ·omega
  ·obtain ⟨b, off, e, hb, _⟩ := k3.2 h0
   rw [e] at ha; injection ha with ha; subst ha; subst hk; exact hb
 have HOK := Lib.hid hok
 have HCL := Lib.hid hcl
 have HL := Lib.hid hl
 clear h1 h2 h3 hL hok hcl hl
 refine (callsIn_wide (n := 3)).1 ?_
 refine callsIn_of_wp_marks Tryz.func329 rfl trivial ?_
 simp only [Tryz.ntmps329, List.size_toArray, List.length_cons, List.length_nil, Nat.reduceAdd, Nat.reduceSub, Array.replicate_succ, Array.replicate_zero, List.push_toArray, List.append_toArray, List.nil_append, List.cons_append]
 gi_wp2_with fail
 gi_loopw [3] (fun v wl => ∃ (u : Nat) (pre : List Nat) (C' : Nat → Prop), v = .int .i64 u ∧ u ≤ n ∧ W.heap.size ≤ wl.heap.size ∧ Blk wl bw 336 #[.pointer (some ⟨g, 0, none⟩)] ∧ Wood wl g n es (.slice A cs.length c) (l ++ pre) ∧ Reads wl W.heap.size 1 A cs.length (ints cs) ∧
  Hid (LOk n (l ++ pre)) ∧ Hid (J pre C' wl) ∧ Hid (∀ k, C' k → k < wl.heap.size ∧ ¬ (k = bw ∨ k = g ∨ blockOf A k)) ∧ Hid (∀ x, x < u → catL es cs (l ++ pre) x = false) ∧ Hid (burnL es cs n n (l ++ pre) = burnL es cs n n l)) (fun v wl => leftW wl g n * 13 + (n - (intOf v).toNat))
 case atStart => exact ⟨0, [], C, rfl, by omega, Nat.le_refl _, k1, by rw [List.append_nil]; exact k2, k3, by rw [List.append_nil]; exact HL.out, h0, hC, fun x hx => by omega, by rw [List.append_nil]; rfl⟩
 case round =>
  obtain ⟨u, pre, C', rfl, hu, hsz, i1, i2, i3, IL, IJ, IC, IU, IB⟩ := hrel
  clear k1 k2 k3 h0
  have HY := Lib.hid hY
  have HJ := Lib.hid hJ
  clear hY hJ
  have c1 := i1.cell 0
  have c2 := i2.n_
  have hlw := leftW_eq hn i2
  by_cases hlt : u < n
  ·have hi : (u : Int) < (n : Int) := by omega
   have hi2 : (u : Int) < 12 := by omega
   have hcl := HCL.out
   have CC := Lib.hid (catches_any g n hn es N HOK.out A c cs hcl (l ++ pre) IL.out u hlt wr i2 (i3.more hsz))
   cases hcat : catL es cs (l ++ pre) u
   ·rw [hcat] at CC
    have HC := Lib.hid hcat
    clear hcat hcl
    gi_wp2_with fail
    refine ⟨trivial, ?_⟩
    refine (inW (CC.out)).mono ?_
    rintro e w' ⟨rfl, m, rfl⟩
    gi_wp2
    go_roundw
    case rel =>
     refine ⟨u + 1, pre, C', by go_num, by omega, hsz, i1.drewN m, Blk.drewN i2 m, i3.drewN m, IL, HJ.out _ _ _ _ IJ.out (Stays.of_only ((Only.refl (fun _ => False) wr).drewN m) (fun _ _ h => h.elim)), IC.out, ?_, IB⟩
     intro x hx
     by_cases he : x = u
     ·subst he; exact HC.out
     ·exact IU.out x (by omega)
    case measure =>
     rw [show leftW (wr.drewN m) g n = leftW wr g n from rfl]
     simp [intOf]; omega
   ·have hct := catL_true.1 hcat
    rw [hcat] at CC
    have hhead := head_ready_of hlt hcat IU.out
    have HB2 := Lib.hid ((burnL_next IL.out hhead).symm.trans IB.out)
    rw [List.append_assoc] at HB2
    have HLO := Lib.hid (IL.out.snoc hct.1 hlt)
    rw [List.append_assoc] at HLO
    have HPX := Lib.hid (fire_pre HB2.out)
    have hrl := rest_len (n := n) (l ++ pre) IL.out
    have hrl2 := rest_len (n := n) (l ++ (pre ++ [u])) HLO.out
    have hll : (l ++ (pre ++ [u])).length = (l ++ pre).length + 1 := by simp; omega
    rw [← hlw] at hrl
    obtain ⟨rl2, hrl3⟩ : ∃ r, (restL n (l ++ (pre ++ [u]))).length = r := ⟨_, rfl⟩
    have HRL := Lib.hid hrl3
    rw [hrl3, hll] at hrl2
    obtain ⟨LL, hLL⟩ : ∃ r, (l ++ pre).length = r := ⟨_, rfl⟩
    rw [hLL] at hrl hrl2
    clear hcat hcl hct hhead hlw hll hrl3 hLL
    gi_wp2_with fail
    refine ⟨trivial, ?_⟩
    refine (inW (CC.out)).mono ?_
    rintro e w' ⟨rfl, m, rfl⟩
    have j1 : Blk ((wr.drewN m).setCell ⟨g, 146 + u, none⟩ (.bool true)) bw 336 #[.pointer (some ⟨g, 0, none⟩)] := (i1.drewN m).far (by simpa using Ne.symm hgb) _
    have j2 : Wood ((wr.drewN m).setCell ⟨g, 146 + u, none⟩ (.bool true)) g n es (.slice A cs.length c) (l ++ (pre ++ [u])) := by
     have := Wood.burn (w := wr.drewN m) (Blk.drewN i2 m) (u := u) (by omega)
     rwa [List.append_assoc] at this
    have hoS : Only (fun k => k = g) wr ((wr.drewN m).setCell ⟨g, 146 + u, none⟩ (.bool true)) := Only.setCell (C := fun k => k = g) (p := ⟨g, 146 + u, none⟩) ((Only.refl _ wr).drewN m) (.inl rfl) _
    have hIC := IC.out
    have hJ1 := HJ.out _ _ _ _ IJ.out (Stays.of_only (B := W.heap.size) (M := fun k => k = g) (C' := C') hoS (fun k _ hk => ⟨fun hc => (hIC k hc).2 (.inr (.inl hk)), .inr hk⟩))
    have hIB : ∀ k, k < W.heap.size → k = bw ∨ k = g ∨ blockOf A k → ¬ C' k := fun k _ hk hc => (hIC k hc).2 hk
    have hsz1 : wr.heap.size ≤ ((wr.drewN m).setCell ⟨g, 146 + u, none⟩ (.bool true)).heap.size := hoS.size
    obtain ⟨fn, tmps, assign, body, hy, hR⟩ := HY.out pre u C' ((wr.drewN m).setCell ⟨g, 146 + u, none⟩ (.bool true)) #[.int .i64 u] (fun _ => False) HPX.out hJ1 (by omega) (fun k hk => Nat.lt_of_lt_of_le (hIC k hk).1 hsz1) (fun k hk => hk.elim) rfl
    have c3 : (wr.drewN m).cell? ⟨bw, 0, none⟩ = some (.pointer (some ⟨g, 0, none⟩)) := c1
    have c4 : (wr.drewN m).cell? ⟨g, 146 + u, none⟩ = some (.bool (decide (u ∈ l ++ pre))) := Wood.burnt_ (w := wr.drewN m) (Blk.drewN i2 m) (by omega)
    have f4 : (wr.drewN m).frozen? ⟨g, 146 + u, none⟩ = false := Blk.frozen i2 _
    gi_wp2_with fail
    refine (roundIn_wide hR).mono ?_
    rintro e w2 ⟨C2, b2, ho2, hg2, rfl, hj2, hx2⟩
    cases b2
    ·have HX2 := Lib.hid (hx2 rfl)
     clear hj2 hx2
     gi_wp2
     exact ⟨_, results_none rfl _ _ _, ⟨⟨_, rfl⟩, C2, .inr ⟨pre ++ [u], HPX.out, HX2.out⟩⟩⟩
    ·have hJ2 := Lib.hid (hj2 rfl)
     have m1 := j1.only ho2 (fun hc => hc.elim (fun hc => (hIC _ hc).2 (.inl rfl)) id)
     have m2 : Wood w2 g n es (.slice A cs.length c) (l ++ (pre ++ [u])) := Blk.only j2 ho2 (fun hc => hc.elim (fun hc => (hIC _ hc).2 (.inr (.inl rfl))) id)
     have m3 := reads_only (reads_only i3 hoS hsz hAg) ho2 (by omega) (fun k hk hc => hc.elim (fun hc => (hIC _ hc).2 (.inr (.inr hk))) id)
     have hsz2 := ho2.size
     have hIC2 : Hid (∀ k, C2 k → k < w2.heap.size ∧ ¬ (k = bw ∨ k = g ∨ blockOf A k)) := by
      intro k hk
      rcases hg2 k hk with h | h | h
      ·have := hIC k h; exact ⟨by omega, this.2⟩
      ·exact h.elim
      ·refine ⟨h.2, ?_⟩
       rintro (e | e | e)
       ·omega
       ·omega
       ·have := HA.out k e; omega
     have hlw2 := leftW_eq hn m2
     rw [HRL.out] at hlw2
     clear hj2 hx2 j1 j2 ho2 hg2 hR hy c3 c4 f4 hJ1 hIB hoS i1 i2 i3 hIC
     gi_wp2
     go_roundw
     case rel => exact ⟨0, pre ++ [u], C2, rfl, by omega, by omega, m1, m2, m3, HLO.out, hJ2.out, hIC2.out, fun x hx => by omega, HB2.out⟩
     case measure => simp [intOf]; omega
  ·obtain rfl : u = n := by omega
   obtain ⟨e1, e2⟩ := fire_end IB.out IU.out
   have E1 := Lib.hid e1
   have E2 := Lib.hid e2
   clear e1 e2
   gi_wp2
   exact ⟨_, results_none rfl _ _ _, ⟨⟨_, rfl⟩, C', .inl ⟨by rw [← E1.out]; exact IJ.out, by rw [E2.out]; exact i2⟩⟩⟩
end Go.Proofs.YtnbikkcalcpedaaGreatDoor
namespace Go.Proofs.YtnbikkcalcpedaaGreatDoor
open Go.RowKit
def firstT (ws : List Bool) : Int := match (List.range ws.length).find? fun v => ws.getD v false with
 | some v => v
 | none => -1
theorem firstT_some {ws : List Bool} {k : Nat} (hk : k < ws.length) (h : ws[k]? = some true) (hl : ∀ j, j < k → ws.getD j false = false) : firstT ws = k := by
 unfold firstT
 have : (List.range ws.length).find? (fun v => ws.getD v false) = some k := by
  rw [List.find?_range_eq_some]
  refine ⟨by rw [List.getD_eq_getElem?_getD, h]; rfl, by simpa using hk, fun j hj => ?_⟩
  rw [hl j hj]; rfl
 rw [this]
theorem firstT_none {ws : List Bool} (h : ∀ j, j < ws.length → ws.getD j false = false) : firstT ws = -1 := by
 unfold firstT
 have : (List.range ws.length).find? (fun v => ws.getD v false) = none := by
  rw [List.find?_eq_none]
  intro x hx
  rw [h x (List.mem_range.1 hx)]
  simp
 rw [this]
theorem indexB_any (g o c : Nat) (ws : List Bool) (w : World) (hl : ws.length ≤ 1048576) (h : ∀ k b, ws[k]? = some b → w.cell? ⟨g, o + k, none⟩ = some (.bool b)) :
  Calls Tryz.prog 305 #[.slice (some ⟨g, o, none⟩) ws.length c, .bool true] w fun e w' => e = .returned (.int .i64 (firstT ws)) ∧ w' = w := by
 have HC := Lib.hid h
 clear h
 go_enter Tryz.func305, Tryz.ntmps305
 go_wp2_with fail
 go_loop [5, 8] (fun _ i => ∃ k : Nat, i = .int .i64 k ∧ k ≤ ws.length ∧ Hid (∀ j, j < k → ws.getD j false = false)) (fun _ i => ws.length - (intOf i).toNat)
 case atStart => exact ⟨0, rfl, by omega, fun j hj => by omega⟩
 case round =>
  obtain ⟨k, rfl, hk, HN⟩ := hrel
  by_cases hlt : k < ws.length
  ·obtain ⟨b, hb⟩ := get_of_lt hlt
   have hi : (k : Int) < (ws.length : Int) := by omega
   have c0 := HC.out k b hb
   have HB := Lib.hid hb
   clear hb
   cases b
   ·go_wp2
    go_round
    case rel => exact ⟨k + 1, by go_num, by omega, fun j hj => by
     by_cases e : j = k
     ·subst e; rw [List.getD_eq_getElem?_getD, HB.out]; rfl
     ·exact HN.out j (by omega)⟩
    case measure => simp [intOf]; omega
   ·go_wp2
    go_ret
    exact ⟨ret_int (firstT_some hlt HB.out HN.out).symm, rfl⟩
  ·obtain rfl : k = ws.length := by omega
   go_wp2
   go_ret
   exact ⟨ret_int (firstT_none HN.out).symm, rfl⟩
theorem pnext_any (base bp n : Nat) (a : PA) (d : List Int) (q : Int) (rows : List (List Int)) (val fired : List Int) (total : Int) (ws : List Bool) (w : World) (h : PileW w base bp n a d q rows val fired total ws) :
  Calls Tryz.prog 260 #[.pointer (some ⟨bp, 0, none⟩)] w fun e w' => e = .returned (.int .i64 (firstT ws)) ∧ w' = w := by
 have hwl := h.wl
 have IB := Lib.hid (indexB_any bp 6 12 ws w (by omega) (fun k b hb => (h.blk.cell (6 + k)).trans (by rw [Nat.add_comm]; simp [pileCells, hb])))
 rw [hwl] at IB
 clear h
 go_enter Tryz.func260, Tryz.ntmps260
 go_wp2_with fail
 refine (IB.out).mono ?_
 rintro e w' ⟨rfl, rfl⟩
 go_wp2
 go_ret
 exact ⟨rfl, rfl⟩
def dualL (n : Nat) (es : List E3) (cs : List Int) : List Int := (List.range n).map fun v : Nat => valE es v - 1 - cs.getD v 0
theorem dualL_get {n v : Nat} (es : List E3) (cs : List Int) (hv : v < n) : (dualL n es cs).getD v 0 = valE es v - 1 - cs.getD v 0 := by
 rw [List.getD_eq_getElem?_getD]
 simp [dualL, hv]
theorem jn_joins {n : Nat} {es : List E3} (hG : RightG n es) {l : List Nat} (hl : LOk n l) {v : Nat} (hv : v ∉ l) : jnE es l v = joinsN es v l := by
 rw [jnE_flm hG, flm_joins l hl hv]
theorem cat_dual {n : Nat} {es : List E3} (hG : RightG n es) (cs : List Int) {l : List Nat} (hl : LOk n l) {v : Nat} (hv : v < n) : catL es (dualL n es cs) l v = (!decide (v ∈ l) && catchB es cs l v) := by
 unfold catL catchB
 by_cases hm : v ∈ l
 ·simp [hm]
 ·rw [dualL_get es cs hv, jn_joins hG hl hm]
  congr 1
  rw [decide_eq_decide]; omega
def recL (n : Nat) (es : List E3) (cs : List Int) (q : Nat) : List Nat := burntL es (dualL n es cs) n q
def recB (n : Nat) (es : List E3) (cs : List Int) (q : Nat) : Bool := stabTo es cs q n && decide ((recL n es cs q).length = n)
theorem lok_one {n q : Nat} (hq : q < n) : LOk n [q] := ⟨by simp, by simpa using hq⟩
theorem recL_ok {n q : Nat} {es : List E3} {cs : List Int} (hq : q < n) : LOk n (recL n es cs q) := burnL_ok n [q] (lok_one hq)
theorem burn_full {n : Nat} {es : List E3} {c : List Int} {l : List Nat} (hl : LOk n l) (hn : l.length = n) : burnL es c n n l = l := by
 obtain ⟨z, hz⟩ := burnL_pre (es := es) (c := c) (n := n) n l
 have h1 := nodup_len (burnL_ok (es := es) (c := c) n l hl)
 rw [← hz, List.length_append] at h1
 have h2 : z = [] := List.length_eq_zero_iff.1 (by omega)
 rw [← hz, h2, List.append_nil]
end Go.Proofs.YtnbikkcalcpedaaGreatDoor
namespace Go.Proofs.YtnbikkcalcpedaaGreatDoor
end Go.Proofs.YtnbikkcalcpedaaGreatDoor
namespace Go.Proofs.YtnbikkcalcpedaaGreatDoor
open Go.RowKit
theorem spans_parts {n : Nat} {E : List (Nat × Nat)} (hE : BdP n E) {t : List Nat} (ht : ∀ e ∈ t, e < E.length) (hl : t.length + 1 = n) : spansB n E t = decide (partsP n (pk E t) = 1) := by
 unfold spansB
 rw [decide_eq_true hl, Bool.and_true, Bool.eq_iff_iff, foB_iff, decide_eq_true_eq, tree_of_len (bd_pk hE ht) (by rw [pk_length]; exact hl)]
theorem ris13_any (n : Nat) (A : Option Addr) (c : Nat) (es : List E3) (hn : es.length ≤ 40) (hG : RightG n es) (B : Option Addr) (d : Nat) (t : List Nat) (ht : ∀ e ∈ t, e < (endsL es).length) (htl : t.length ≤ 50) (w : World)
  (h : Reads w w.heap.size 3 A es.length (edgeCells es)) (h' : Reads w w.heap.size 1 B t.length (ints (nI t))) :
  Calls Tryz.prog 69 #[.agg #[.int .i64 n, .slice A es.length c], .slice B t.length d] w fun e w' => e = .returned (.bool (spansB n (endsL es) t)) ∧ Below w.heap.size w w' := by
 have hlo := hG.lo
 have hhi := hG.hi
 have hbe := bd_ends hG
 have hbd := bd_pk hbe ht
 have WC := Lib.hid (fun (W : World) (hB : Below w.heap.size w W) => rwith_any n A c es hn hG B d t ht htl W ((h.below hB).more hB.size) ((h'.below hB).more hB.size))
 have hmr := made_right (n := n) (ps := pk (endsL es) t) (by omega) (by omega) (by rw [pk_length]; exact htl)
 have hml : (madeS n (pk (endsL es) t)).length ≤ 1048576 := by
  have h1 : (madeS n (pk (endsL es) t)).length ≤ n * n := joinTo_length _ _ _
  have h2 : n * n ≤ 12 * 12 := Nat.mul_le_mul (by omega) (by omega)
  omega
 have hcb := made_parts (n := n) (ps := pk (endsL es) t) (by omega) (by omega) (by rw [pk_length]; exact htl) hbd
 have g0 := Blk.new w 24 #[.int .i64 n, .slice A es.length c]
 have hb0 : Below w.heap.size w (w.alloc (.cells #[.int .i64 n, .slice A es.length c] 24)) := (Below.refl _ _).alloc (Nat.le_refl _) _
 have c0 := g0.cell 0
 have c1 := g0.cell 1
 have hwn : IntKind.i64.wrap ((n : Int) - 1) = (n : Int) - 1 := IntWalk.i64_in _ (by omega)
 by_cases hl : t.length + 1 = n
 ·have hsp := spans_parts hbe ht hl
  rw [← hcb] at hsp
  rw [hsp]
  have hq : ((t.length : Int) == (n : Int) - 1) = true := by simp; omega
  obtain ⟨M, hM⟩ : ∃ M, madeS n (pk (endsL es) t) = M := ⟨_, rfl⟩
  rw [hM] at WC hml ⊢
  have CC := Lib.hid (fun (A1 : Option Addr) (c1 : Nat) (W : World) (hr : Reads W W.heap.size 3 A1 M.length (edgeCells M)) => rconnected_any n (by omega) A1 c1 M hml W hr)
  obtain ⟨b, hb⟩ : ∃ b, connB n M = b := ⟨_, rfl⟩
  rw [hb] at CC ⊢
  clear hl hsp hcb hM hb hmr hbd hbe hG ht
  go_enter Tryz.func69, Tryz.ntmps69
  go_wp2_with first
   | (go_at_call 77; refine (WC.out _ hb0).mono ?_; rintro e w1 ⟨A1, c1', rfl, o1, hb1⟩)
   | (go_at_call 108; refine (CC.out A1 c1' w1 (Reads.of_own o1)).mono ?_; rintro e w2 ⟨rfl, hb2⟩)
  go_ret
  exact ⟨rfl, (hb0.trans (hb1.mono hb0.size)).trans (hb2.mono (hb0.trans (hb1.mono hb0.size)).size)⟩
 ·have hsp : spansB n (endsL es) t = false := by unfold spansB; rw [decide_eq_false hl, Bool.and_false]
  rw [hsp]
  have hq : ((t.length : Int) == (n : Int) - 1) = false := by simp; omega
  clear hl hsp hcb hml hmr hbd hbe hG ht
  go_enter Tryz.func69, Tryz.ntmps69
  go_wp2
  go_ret
  exact ⟨rfl, hb0⟩
theorem rtcheck_any (n : Int) (A : Option Addr) (c : Nat) (es : List E3) (hn : es.length ≤ 40) (B : Option Addr) (d : Nat) (xs : List Int) (hm : xs.length ≤ 1048576) (w : World) (h : Reads w w.heap.size 3 A es.length (edgeCells es)) (h' : Reads w w.heap.size 1 B xs.length (ints xs)) :
  Calls Tryz.prog 21 #[.agg #[.int .i64 n, .slice A es.length c], .slice B xs.length d] w fun e w' => e = .returned (.int .i64 (treeErr n es xs)) ∧ Below w.heap.size w w' := by
 have JC := Lib.hid (fun (W : World) (hB : Below w.heap.size w W) => rjoinedErr_any n A c es (by omega) W ((h.below hB).more hB.size))
 have g0 := Blk.new w 24 #[.int .i64 n, .slice A es.length c]
 have hb0 : Below w.heap.size w (w.alloc (.cells #[.int .i64 n, .slice A es.length c] 24)) := (Below.refl _ _).alloc (Nat.le_refl _) _
 have c0 := g0.cell 0
 have c1 := g0.cell 1
 by_cases hj : joinErr n es = 0
 ·obtain ⟨hz, hG, _⟩ := join_zero hj
  have hlo := hG.lo
  have hhi := hG.hi
  obtain ⟨m, rfl⟩ := Int.eq_ofNat_of_zero_le (show 0 ≤ n by omega)
  rw [hj] at JC
  have EC := Lib.hid (fun (W : World) (hB : Below w.heap.size w W) => redges_any m A c es hn hG.ok B d xs hm W ((h.below hB).more hB.size) ((h'.below hB).more hB.size))
  have hbd := bd_ends hG
  by_cases he : edgErr (endsL es).length xs = 0
  ·obtain ⟨t, rfl, hs⟩ := edg_set he
   rw [he] at EC
   have htt : (nI t).map Int.toNat = t := by
    unfold nI
    rw [List.map_map]
    conv => rhs; rw [← List.map_id t]
    exact List.map_congr_left fun x _ => by simp
   have hnl := nI_length t
   have HE : Hid (treeErr m es (nI t) = if (t.length : Int) + 1 ≠ (m : Int) then 8 else if spansB m (endsL es) t = true then 0 else 3) := by
    unfold Hid treeErr spansB
    rw [if_neg (fun hc => hc hj), if_neg (fun hc => hc he), htt, hnl]
    by_cases hl : (t.length : Int) + 1 = (m : Int)
    ·rw [decide_eq_true (show t.length + 1 = m by omega), Bool.and_true]
    ·rw [if_pos hl, if_pos hl]
   obtain ⟨z, hzz⟩ : ∃ z, treeErr m es (nI t) = z := ⟨_, rfl⟩
   rw [hzz] at HE ⊢
   have hwn : IntKind.i64.wrap ((m : Int) - 1) = (m : Int) - 1 := IntWalk.i64_in _ (by omega)
   by_cases hl : (t.length : Int) + 1 = (m : Int)
   ·have SC := Lib.hid (fun (W : World) (hB : Below w.heap.size w W) => ris13_any m A c es hn hG B d t hs.2 (by omega) W ((h.below hB).more hB.size) (by rw [← hnl]; exact (h'.below hB).more hB.size))
    have hne : ((t.length : Int) != (m : Int) - 1) = false := by simp; omega
    have HE2 : Hid (z = if spansB m (endsL es) t = true then 0 else 3) := HE.out.trans (if_neg (fun hc => hc hl))
    obtain ⟨sb, hsb⟩ : ∃ sb, spansB m (endsL es) t = sb := ⟨_, rfl⟩
    rw [hsb] at SC HE2
    rw [hnl] at EC h' ⊢
    clear hz hG hj he htt hzz hs hbd hl hsb HE
    go_enter Tryz.func21, Tryz.ntmps21
    go_wp2_with fail
    refine (JC.out _ hb0).mono ?_
    rintro e w1 ⟨rfl, hb1⟩
    have B1 := hb0.trans (hb1.mono hb0.size)
    have g1 := g0.next hb1
    have c0 := g1.cell 0
    have c1 := g1.cell 1
    clear g0 hb0 hb1
    go_wp2_with fail
    refine (EC.out _ B1).mono ?_
    rintro e w2 ⟨rfl, hb2⟩
    have B2 := B1.trans (hb2.mono B1.size)
    have g2 := g1.next hb2
    have c0 := g2.cell 0
    have c1 := g2.cell 1
    clear g1 hb2 B1
    go_wp2_with fail
    refine (SC.out _ B2).mono ?_
    rintro e w3 ⟨rfl, hb3⟩
    have B3 := B2.trans (hb3.mono B2.size)
    cases sb
    ·have HI : Hid (z = 3) := HE2.out
     go_wp2
     go_ret
     exact ⟨by rw [HI.out]; rfl, B3⟩
    ·have HI : Hid (z = 0) := HE2.out
     go_wp2
     go_ret
     exact ⟨by rw [HI.out]; rfl, B3⟩
   ·have hne : ((t.length : Int) != (m : Int) - 1) = true := by simp; omega
    have HI : Hid (z = 8) := HE.out.trans (if_pos hl)
    rw [hnl] at EC h' ⊢
    clear hz hG hj he htt hzz hs hbd hl HE
    go_enter Tryz.func21, Tryz.ntmps21
    go_wp2_with fail
    refine (JC.out _ hb0).mono ?_
    rintro e w1 ⟨rfl, hb1⟩
    have B1 := hb0.trans (hb1.mono hb0.size)
    have g1 := g0.next hb1
    have c0 := g1.cell 0
    have c1 := g1.cell 1
    clear g0 hb0 hb1
    go_wp2_with fail
    refine (EC.out _ B1).mono ?_
    rintro e w2 ⟨rfl, hb2⟩
    have B2 := B1.trans (hb2.mono B1.size)
    have g2 := g1.next hb2
    have c0 := g2.cell 0
    have c1 := g2.cell 1
    go_wp2
    go_ret
    exact ⟨by rw [HI.out]; rfl, B2⟩
  ·have HE : Hid (treeErr m es xs = edgErr (endsL es).length xs) := by
    unfold Hid treeErr
    rw [if_neg (fun hc => hc hj), if_pos he]
   rw [HE.out]
   obtain ⟨z, hzz⟩ : ∃ z, edgErr (endsL es).length xs = z := ⟨_, rfl⟩
   rw [hzz] at EC he ⊢
   have hb : (z != 0) = true := by simpa using he
   clear hz hG hj he hzz hbd HE
   go_enter Tryz.func21, Tryz.ntmps21
   go_wp2_with fail
   refine (JC.out _ hb0).mono ?_
   rintro e w1 ⟨rfl, hb1⟩
   have B1 := hb0.trans (hb1.mono hb0.size)
   have g1 := g0.next hb1
   have c0 := g1.cell 0
   have c1 := g1.cell 1
   clear g0 hb0 hb1
   go_wp2_with fail
   refine (EC.out _ B1).mono ?_
   rintro e w2 ⟨rfl, hb2⟩
   go_wp2
   go_ret
   exact ⟨rfl, B1.trans (hb2.mono B1.size)⟩
 ·have HE : Hid (treeErr n es xs = joinErr n es) := by
   unfold Hid treeErr
   rw [if_pos hj]
  rw [HE.out]
  obtain ⟨z, hzz⟩ : ∃ z, joinErr n es = z := ⟨_, rfl⟩
  rw [hzz] at JC hj ⊢
  have hb : (z != 0) = true := by simpa using hj
  clear hj hzz HE
  go_enter Tryz.func21, Tryz.ntmps21
  go_wp2_with fail
  refine (JC.out _ hb0).mono ?_
  rintro e w1 ⟨rfl, hb1⟩
  go_wp2
  go_ret
  exact ⟨rfl, hb0.trans (hb1.mono hb0.size)⟩
end Go.Proofs.YtnbikkcalcpedaaGreatDoor
namespace Go.Proofs.YtnbikkcalcpedaaGreatDoor
open Go.RowKit Go.Shelf
attribute [local go_sem] Oper.semAt_some
theorem OwnQ.cap_ {w : World} {base : Nat} {A : Option Addr} {c : Nat} {ps : List (Nat × Nat)} (h : OwnQ w base A c ps) : ps.length ≤ c := by
 rcases h.2 with ⟨hv, h0⟩ | ⟨g, cap, cur, hv, _, _, h1, _⟩
 ·omega
 ·injection hv with _ _ e; omega
end Go.Proofs.YtnbikkcalcpedaaGreatDoor
