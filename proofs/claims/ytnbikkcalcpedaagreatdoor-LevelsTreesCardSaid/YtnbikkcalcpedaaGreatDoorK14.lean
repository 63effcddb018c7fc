/-
 Texts of this claim, put together: Ends, Conn.
-/
import Derived.Test.YtnbikkcalcpedaaGreatDoorK12
import Derived.Test.YtnbikkcalcpedaaGreatDoorK05
import Derived.Test.YtnbikkcalcpedaaGreatDoorK08
import Derived.Laws.EntriesVeiled
import Derived.Test.YtnbikkcalcpedaaGreatDoorK01
import Derived.Test.YtnbikkcalcpedaaGreatDoorK04
import Derived.Test.YtnbikkcalcpedaaGreatDoorK03
import Derived.Maps.Own
import Derived.Maps.OwnOps
import Derived.Deep.RegionLaw
set_option maxRecDepth 100000
set_option maxHeartbeats 4000000
namespace Go.Proofs.YtnbikkcalcpedaaGreatDoor
open Go.RowKit Go.Shelf
attribute [local go_sem] Oper.semAt_some
theorem reads_onlyN {C : Nat → Prop} {w w' : World} {B size n : Nat} {A : Option Addr} {xs : List Value} (h : Reads w B size A n xs) (ho : Only C w w') (hB : B ≤ w.heap.size) (hC : ∀ k, blockOf A k → ¬ C k) : Reads w' B size A n xs :=
 ⟨h.1, fun hn => by
  obtain ⟨b, off, rfl, hb, hc⟩ := h.2 hn
  exact ⟨b, off, rfl, hb, fun j u hu => (World.cell?_of_block (w := w) (ho.block b (by omega) (hC b ⟨_, rfl, rfl⟩))).trans (hc j u hu)⟩⟩
def endsL (es : List E3) : List (Nat × Nat) := es.flatMap fun e => List.replicate e.2.2.toNat (e.1.toNat, e.2.1.toNat)
theorem endsL_snoc {es : List E3} {k : Nat} {e : E3} (h : es[k]? = some e) : endsL (es.take (k + 1)) = endsL (es.take k) ++ List.replicate e.2.2.toNat (e.1.toNat, e.2.1.toNat) := by
 rw [take_snoc h]; simp [endsL]
theorem endsL_pre {es : List E3} {k j : Nat} {e : E3} (h : es[k]? = some e) (hj : j ≤ e.2.2.toNat) : endsL (es.take k) ++ List.replicate j (e.1.toNat, e.2.1.toNat) <+: endsL es := by
 have h1 : es = es.take (k + 1) ++ es.drop (k + 1) := (List.take_append_drop _ _).symm
 have h2 : endsL es = endsL (es.take (k + 1)) ++ endsL (es.drop (k + 1)) := (congrArg endsL h1).trans (by unfold endsL; rw [List.flatMap_append])
 rw [h2, endsL_snoc h]
 refine List.IsPrefix.trans ?_ (List.prefix_append _ _)
 obtain ⟨d, hd⟩ : ∃ d, e.2.2.toNat = j + d := ⟨e.2.2.toNat - j, by omega⟩
 rw [hd, ← List.replicate_append_replicate, ← List.append_assoc]
 exact List.prefix_append _ _
theorem endsL_length {N : Int} {es : List E3} (hok : ∀ e ∈ es, okE N e) : (endsL es).length ≤ 50 * es.length := by
 induction es with
 | nil => simp [endsL]
 | cons e es ih =>
   have h1 := hok e (by simp)
   have h2 := ih fun x hx => hok x (by simp [hx])
   unfold okE at h1
   unfold endsL at *
   rw [List.flatMap_cons, List.length_append, List.length_replicate, List.length_cons]
   omega
def ArgP (p : Nat × Nat) (args : Array Value) (_ : Nat → Prop) (_ : World) : Prop := ∃ i : Int, args = #[.int .i64 i, .agg #[.int .i64 p.1, .int .i64 p.2]]
theorem singles_any (n : Int) (A : Option Addr) (c m : Nat) (w : World) :
  Calls Tryz.prog 218 #[.agg #[.int .i64 n, .slice A m c]] w fun e w' => e = .returned (.func (.func 275) #[] #[.pointer (some ⟨w.heap.size, 0, none⟩)]) ∧ w.alloc (.cells #[.int .i64 n, .slice A m c] 24) = w' := by
 have hmf : ∀ (fn : Fn) (first cap : Array Value) (w : World), (Instr.makeFunc fn first cap).run Tryz.prog w = .ok (.func fn first cap) w := fun _ _ _ _ => rfl
 go_enter Tryz.func218, Tryz.ntmps218
 go_wp2
 go_ret
 exact ⟨rfl, rfl⟩
theorem singles_iter (n : Int) (A : Option Addr) (c : Nat) (es : List E3) (hn : es.length ≤ 1048576) (N : Int) (hok : ∀ e ∈ es, okE N e) (bw : Nat) (W0 : World)
  (h1 : Blk W0 bw 24 #[.int .i64 n, .slice A es.length c]) (h3 : Reads W0 W0.heap.size 3 A es.length (edgeCells es)) :
  IterF Tryz.prog 275 #[.pointer (some ⟨bw, 0, none⟩)] ArgP (fun k => k = bw ∨ (es.length ≠ 0 ∧ blockOf A k)) (fun _ => False) (endsL es) (fun _ => True) W0 := by
 intro l' J Jx C W hL hC hJ hJx hY h0
 have k1 : Blk W bw 24 #[.int .i64 n, .slice A es.length c] := (hL.block bw h1.lt (.inl rfl)).trans h1
 have k3 : Reads W W.heap.size 3 A es.length (edgeCells es) := ⟨h3.1, fun hn => by
  obtain ⟨b, off, rfl, hb, hc⟩ := h3.2 hn
  exact ⟨b, off, rfl, by have := hL.size; omega, fun j u hu => (World.cell?_of_block (w := W0) (hL.block b hb (.inr ⟨by omega, _, rfl, rfl⟩))).trans (hc j u hu)⟩⟩
 have hbW : bw < W.heap.size := k1.lt
 have HA : Hid (es.length ≠ 0 → ∀ k, blockOf A k → k < W.heap.size) := fun hx k ⟨a, ha, hk⟩ => by
  obtain ⟨b, off, e, hb, _⟩ := k3.2 (by omega)
  rw [e] at ha; injection ha with ha; subst ha; subst hk; exact hb
 have c1 := k1.cell 1
 have HOK := Lib.hid hok
 clear h1 h3 hL hok
 refine (callsIn_wide (n := 3)).1 ?_
 refine callsIn_of_wp_marks Tryz.func275 rfl trivial ?_
 simp only [Tryz.ntmps275, List.size_toArray, List.length_cons, List.length_nil, Nat.reduceAdd, Nat.reduceSub, Array.replicate_succ, Array.replicate_zero, List.push_toArray, List.append_toArray, List.nil_append, List.cons_append]
 have HC := Lib.hid hC
 have HY := Lib.hid hY
 have HJ := Lib.hid hJ
 clear hC hY hJ hJx
 gi_wp2
 gi_loopw [3, 5, 9] (fun t3 _ v wl => ∃ (u e : Nat) (C' : Nat → Prop), v = .int .i64 u ∧ t3 = .int .i64 e ∧ u ≤ es.length ∧ e ≤ 50 * u ∧ W.heap.size ≤ wl.heap.size ∧ Reads wl W.heap.size 3 A es.length (edgeCells es) ∧
  Hid (J (endsL (es.take u)) C' wl) ∧ Hid (∀ k, C' k → k < wl.heap.size ∧ ¬ (k = bw ∨ (es.length ≠ 0 ∧ blockOf A k)))) (fun _ _ v _ => es.length - (intOf v).toNat)
 case atStart => exact ⟨0, 0, C, rfl, rfl, by omega, by omega, Nat.le_refl _, k3, h0, HC.out⟩
 case round =>
  obtain ⟨u, e, C', rfl, rfl, hu, he, hsz, i3, IJ, IC⟩ := hrel
  clear k1 k3 h0 c1
  by_cases hlt : u < es.length
  ·obtain ⟨⟨x, y, m⟩, hx⟩ := get_of_lt hlt
   have hok := HOK.out _ (List.mem_of_getElem? hx)
   unfold okE at hok
   dsimp only at hok
   obtain ⟨a, rfl⟩ := Int.eq_ofNat_of_zero_le (show 0 ≤ x by omega)
   obtain ⟨b, rfl⟩ := Int.eq_ofNat_of_zero_le (show 0 ≤ y by omega)
   obtain ⟨M, rfl⟩ := Int.eq_ofNat_of_zero_le (show 0 ≤ m by omega)
   have hM : M ≤ 50 := by omega
   have hi : (u : Int) < (es.length : Int) := by omega
   obtain ⟨bb, off, rfl, hbb, q1, q2, q3⟩ := i3.edge hx
   dsimp only at q1 q2 q3
   have e3 := Blk.new wr 107 #[.int .i64 a, .int .i64 b, .int .i64 M]
   have i4 := i3.alloc (by omega) (.cells #[.int .i64 a, .int .i64 b, .int .i64 M] 107)
   have IJ1 := Lib.hid (HJ.out _ _ _ _ IJ.out (Stays.of_new ((Below.refl wr.heap.size wr).alloc (Nat.le_refl _) (.cells #[.int .i64 a, .int .i64 b, .int .i64 M] 107))))
   have HXX := Lib.hid hx
   have hIC := IC.out
   have hwl : (wr.alloc (.cells #[.int .i64 a, .int .i64 b, .int .i64 M] 107)).heap.size = wr.heap.size + 1 := by simp
   have IC1 : Hid (∀ k, C' k → k < (wr.alloc (.cells #[.int .i64 a, .int .i64 b, .int .i64 M] 107)).heap.size ∧ ¬ (k = bw ∨ (es.length ≠ 0 ∧ blockOf (some ⟨bb, off, none⟩) k)) ∧ k ≠ wr.heap.size) := fun k hk => by
    have := hIC k hk
    exact ⟨by omega, this.2, by omega⟩
   have P2 := e3.cell 2
   clear hx hok hIC
   gi_wp2
   obtain ⟨wb, hwb⟩ : ∃ wb, wr.alloc (.cells #[.int .i64 a, .int .i64 b, .int .i64 M] 107) = wb := ⟨_, rfl⟩
   obtain ⟨be, hbe⟩ : ∃ be, wr.heap.size = be := ⟨_, rfl⟩
   rw [hwb, hbe]
   rw [hwb] at e3 i4 IJ1 hwl IC1
   rw [hbe] at e3 hwl IC1
   clear hwb P2
   gi_loopw [3, 15] (fun t3 v wl => ∃ (j e : Nat) (C' : Nat → Prop), v = .int .i64 j ∧ t3 = .int .i64 e ∧ j ≤ M ∧ e ≤ 50 * u + j ∧ wb.heap.size ≤ wl.heap.size ∧ Blk wl be 107 #[.int .i64 a, .int .i64 b, .int .i64 M] ∧ Reads wl W.heap.size 3 (some ⟨bb, off, none⟩) es.length (edgeCells es) ∧
    Hid (J (endsL (es.take u) ++ List.replicate j (a, b)) C' wl) ∧ Hid (∀ k, C' k → k < wl.heap.size ∧ ¬ (k = bw ∨ (es.length ≠ 0 ∧ blockOf (some ⟨bb, off, none⟩) k)) ∧ k ≠ be)) (fun _ v _ => M - (intOf v).toNat)
   case atStart => exact ⟨0, e, C', rfl, rfl, by omega, by omega, Nat.le_refl _, e3, i4, by rw [List.replicate_zero, List.append_nil]; exact IJ1.out, IC1.out⟩
   clear e3 i4 IJ1 IC1 IJ IC i3 q1 q2 q3
   case round =>
    obtain ⟨j, e, C', rfl, rfl, hj, he, hsz2, e3, i3, IJ, IC⟩ := hrel
    by_cases hjM : j < M
    ·have hji : (j : Int) < (M : Int) := by omega
     have P0 := e3.cell 0
     have P1 := e3.cell 1
     have hpx : endsL (es.take u) ++ List.replicate j (a, b) ++ [(a, b)] <+: endsL es := by
      have := endsL_pre HXX.out (j := j + 1) (by simp; omega)
      simp only [Int.toNat_natCast] at this
      rw [List.append_assoc, ← List.replicate_succ']
      exact this
     have hrs : Hid (endsL (es.take u) ++ List.replicate j (a, b) ++ [(a, b)] = endsL (es.take u) ++ List.replicate (j + 1) (a, b)) := by rw [Hid, List.append_assoc, ← List.replicate_succ']
     have hIC := IC.out
     obtain ⟨fn, tmps, assign, body, hy, hR⟩ := HY.out (endsL (es.take u) ++ List.replicate j (a, b)) (a, b) C' wr #[.int .i64 e, .agg #[.int .i64 a, .int .i64 b]] (fun _ => False) hpx IJ.out (by omega) (fun k hk => (hIC k hk).1) (fun k hk => hk.elim) ⟨e, rfl⟩
     clear hpx
     gi_wp2_with fail
     refine (roundIn_wide hR).mono ?_
     rintro e' w2 ⟨C2, b2, ho2, hg2, rfl, hj2, hx2⟩
     cases b2
     ·have HX2 := Lib.hid (hx2 rfl)
      rw [hrs.out] at HX2
      have hpp : Hid (endsL (es.take u) ++ List.replicate (j + 1) (a, b) <+: endsL es) := by
       have := endsL_pre HXX.out (j := j + 1) (by simp; omega)
       simp only [Int.toNat_natCast] at this
       exact this
      clear hj2 hx2
      gi_wp2
      exact ⟨_, results_none rfl _ _ _, ⟨⟨_, rfl⟩, C2, .inr ⟨_, hpp.out, HX2.out⟩⟩⟩
     ·have HJ2 := Lib.hid (hj2 rfl)
      rw [hrs.out] at HJ2
      have m3 := reads_onlyN i3 ho2 (by omega) (fun k hk hc => hc.elim (fun hc => (hIC _ hc).2.1 (.inr ⟨by omega, hk⟩)) id)
      have e4 := e3.only ho2 (fun hc => hc.elim (fun hc => (hIC _ hc).2.2 rfl) id)
      have hsz3 := ho2.size
      have hAl := HA.out (by omega)
      have hbel := e3.lt
      have hIC2 : Hid (∀ k, C2 k → k < w2.heap.size ∧ ¬ (k = bw ∨ (es.length ≠ 0 ∧ blockOf (some ⟨bb, off, none⟩) k)) ∧ k ≠ be) := by
       intro k hk
       rcases hg2 k hk with h | h | h
       ·have := hIC k h; exact ⟨by omega, this.2⟩
       ·exact h.elim
       ·refine ⟨h.2, ?_, by omega⟩
        rintro (e | ⟨_, e⟩)
        ·omega
        ·have := hAl k e; omega
      clear hj2 hx2 ho2 hg2 hR hy i3 hIC hAl e3 P0 P1
      gi_wp2
      go_roundw
      case rel => exact ⟨j + 1, e + 1, C2, by go_num, by go_num, by omega, by omega, by omega, e4, m3, HJ2.out, hIC2.out⟩
      case measure => simp [intOf]; omega
    ·obtain rfl : j = M := by omega
     have hes := endsL_snoc HXX.out
     simp only [Int.toNat_natCast] at hes
     rw [← hes] at IJ
     have IC3 : Hid (∀ k, C' k → k < wr.heap.size ∧ ¬ (k = bw ∨ (es.length ≠ 0 ∧ blockOf (some ⟨bb, off, none⟩) k))) := fun k hk => ⟨(IC.out k hk).1, (IC.out k hk).2.1⟩
     clear hes
     gi_wp2
     go_roundw
     case rel => exact ⟨u + 1, e, C', by go_num, rfl, by omega, by omega, by omega, i3, IJ.out, IC3.out⟩
     case measure => simp [intOf]; omega
  ·obtain rfl : u = es.length := by omega
   rw [List.take_length] at IJ
   gi_wp2
   exact ⟨_, results_none rfl _ _ _, ⟨⟨_, rfl⟩, C', .inl ⟨IJ.out, trivial⟩⟩⟩
def pair2 (ps : List (Nat × Nat)) : List Value := ps.flatMap fun p => [.int .i64 p.1, .int .i64 p.2]
theorem pair2_length (ps : List (Nat × Nat)) : (pair2 ps).length = ps.length * 2 := by
 induction ps with
 | nil => rfl
 | cons p ps ih => simp [pair2] at *; omega
theorem pair2_snoc (ps : List (Nat × Nat)) (p : Nat × Nat) : pair2 (ps ++ [p]) = pair2 ps ++ [.int .i64 p.1, .int .i64 p.2] := by simp [pair2]
def OwnQ (w : World) (base : Nat) (A : Option Addr) (c : Nat) (ps : List (Nat × Nat)) : Prop := w.ownsRow base 50 2 (.slice A ps.length c) ps.length (pair2 ps)
theorem info_two : (Tryz.prog.info? 50).map (fun i => (i.zero, i.size, i.bytes)) = some (some (.agg #[.int .i64 0, .int .i64 0]), 2, 16) := by kernel_rfl
theorem own_kept2 {w w' : World} {base : Nat} {e : TypeId} {size : Nat} {A : Option Addr} {n c : Nat} {xs : List Value} (h : w.ownsRow base e size (.slice A n c) n xs) (hk : ∀ k, blockOf A k → w'.heap[k]? = w.heap[k]?) : w'.ownsRow base e size (.slice A n c) n xs := by
 obtain ⟨h1, h2⟩ := h
 refine ⟨h1, ?_⟩
 rcases h2 with h2 | ⟨g, cap, cur, hv, hg, hh, r⟩
 ·exact .inl h2
 ·injection hv with hv1 hv2 hv3
  exact .inr ⟨g, cap, cur, by rw [hv1, hv3], hg, (hk g ⟨_, hv1, rfl⟩).trans hh, r⟩
theorem ends_ok (n : Int) (A : Option Addr) (c : Nat) (es : List E3) (hn : es.length ≤ 10000) (hz : checkG n es = 0) (N : Int) (hok : ∀ e ∈ es, okE N e) (w : World) (h : Reads w w.heap.size 3 A es.length (edgeCells es)) :
  Calls Tryz.prog 158 #[.agg #[.int .i64 n, .slice A es.length c]] w fun e w' => ∃ Ar cr, e = .returned (.tuple #[.slice Ar (endsL es).length cr, .int .i64 0]) ∧ OwnQ w' w.heap.size Ar cr (endsL es) ∧ Below w.heap.size w w' := by
 have hel := endsL_length hok
 have GC := gcheck_any n A c es (by omega)
 rw [hz] at GC
 have GC := Lib.hid GC
 have g0 := Blk.new w 24 #[.int .i64 n, .slice A es.length c]
 have HOK := Lib.hid hok
 clear hz hok
 refine (callsIn_wide (n := 3)).1 ?_
 refine callsIn_of_wp_marks Tryz.func158 rfl trivial ?_
 simp only [Tryz.ntmps158, List.size_toArray, List.length_cons, List.length_nil, Nat.reduceAdd, Nat.reduceSub, Array.replicate_succ, Array.replicate_zero, List.push_toArray, List.append_toArray, List.nil_append, List.cons_append]
 gi_wp2_with fail
 refine ⟨trivial, ?_⟩
 refine (inW (GC.out _ ((h.alloc (Nat.le_refl _) _).more (by simp)))).mono ?_
 rintro e w1 ⟨rfl, hb1⟩
 have g1 := g0.next hb1
 have hB1 : Below w.heap.size w w1 := ((Below.refl _ _).alloc (Nat.le_refl _) _).trans (hb1.mono (by simp))
 have hs1 := hB1.size
 have g2 := g1.alloc (.cells #[.slice none 0 0] 48)
 have x2 := Blk.new w1 48 #[.slice none 0 0]
 have hB2 := hB1.alloc hs1 (.cells #[.slice none 0 0] 48)
 have c0 := g2.cell 0
 have c1 := g2.cell 1
 gi_wp2_with fail
 refine ⟨trivial, ?_⟩
 refine (inW (singles_any n A c es.length _)).mono ?_
 rintro e w3 ⟨rfl, hw3⟩
 have hs2 : (w1.alloc (.cells #[.slice none 0 0] 48)).heap.size = w1.heap.size + 1 := by simp
 have r3 : Blk w3 (w1.heap.size + 1) 24 #[.int .i64 n, .slice A es.length c] := by
  rw [← hw3]
  have := Blk.new (w1.alloc (.cells #[.slice none 0 0] 48)) 24 #[.int .i64 n, .slice A es.length c]
  rwa [hs2] at this
 have x3 : Blk w3 w1.heap.size 48 #[.slice none 0 0] := by rw [← hw3]; exact x2.alloc _
 have hs3 : w3.heap.size = w1.heap.size + 2 := by rw [← hw3]; simp
 have hB3 : Below w.heap.size w w3 := by rw [← hw3]; exact hB2.alloc hB2.size _
 have h3 := (h.below hB3).more hB3.size
 clear g0 g1 g2 x2 hw3 hB2 hB1 hb1 c0 c1 hs2
 gi_wp2_with fail
 refine rangeF_outer (n := 3) (gf := 275) (lb := #[.pointer (some ⟨w1.heap.size + 1, 0, none⟩)]) (by rfl) (enters_of Tryz.func275 (by kernel_rfl) rfl)
  (singles_iter n A c es (by omega) N HOK.out (w1.heap.size + 1) w3 r3 h3) ?hF0 ?hK (fun k => k = w1.heap.size) ?hC
  (fun pre C W => ∃ Ar cr, Blk W w1.heap.size 48 #[.slice Ar pre.length cr] ∧ OwnQ W w.heap.size Ar cr pre ∧ C w1.heap.size ∧ (∀ k, blockOf Ar k → C k) ∧ Below w.heap.size w W ∧ w3.heap.size ≤ W.heap.size ∧ (∀ k, C k → k = w1.heap.size ∨ w3.heap.size ≤ k))
  (fun _ _ _ _ => False) ?hI (fun _ _ _ _ _ h _ => h) ?h0 ?hps ?round ?done (fun _ _ _ _ _ h => h.elim)
 case hF0 => intro a b hf ho; trivial
 case hK =>
  rintro k (rfl | ⟨hne, a, ha, hk⟩)
  ·omega
  ·obtain ⟨b, off, rfl, hb, _⟩ := h.2 (by omega)
   injection ha with ha
   subst ha
   have e : b = k := hk
   omega
 case hC =>
  rintro k rfl
  refine ⟨by omega, ?_⟩
  rintro (e | ⟨hne, a, ha, hk⟩)
  ·omega
  ·obtain ⟨b, off, rfl, hb, _⟩ := h.2 (by omega)
   injection ha with ha
   subst ha
   have e : b = w1.heap.size := hk
   omega
 case hI =>
  rintro pre C a b ⟨Ar, cr, i1, i2, i3, i4, i5, i6, i7⟩ hst
  exact ⟨Ar, cr, i1.stays hst (.inl i3), own_kept2 i2 fun k hk => hst.block k (World.ownsRow.lt i2 k ((blockOf_own).2 hk)).2 (.inl (i4 k hk)), i3, i4, i5.trans (hst.below (fun k hk => .inr ⟨by omega, fun h => h⟩) i5.size), Nat.le_trans i6 hst.size, i7⟩
 case h0 =>
  refine ⟨none, 0, x3, World.ownsRow_nil _ _ _ _, rfl, ?_, hB3, Nat.le_refl _, fun k hk => .inl hk⟩
  rintro k ⟨a, ha, hk⟩; cases ha
 case hps => rintro x' args O W' ⟨i, rfl⟩; rfl
 case round =>
  intro l pre x args C O W hpre hI hl hC hO harg hlW hnC hnO T hT
  obtain ⟨Ar, cr, i1, i2, i3, i4, i5, i6, i7⟩ := hI
  obtain ⟨i, rfl⟩ := harg
  obtain ⟨a, b⟩ := x
  dsimp only
  have hpl : pre.length ≤ 500000 := by
   obtain ⟨z, hz⟩ := hpre
   have := congrArg List.length hz
   simp at this
   omega
  clear hpre r3 x3 h3 hB3
  gi_wp2
  refine hT _ _ ((Only.refl _ _).alloc _) ?_
  intro w5 h5 _
  have hl5 : ∀ k, C k → k ≠ l := fun k hk e => hnC (e ▸ hk)
  have pb : Blk w5 W.heap.size 152 #[.int .i64 a, .int .i64 b] := (Blk.new W 152 #[.int .i64 a, .int .i64 b]).only h5 (by omega)
  have j1 : Blk w5 w1.heap.size 48 #[.slice Ar pre.length cr] := (i1.alloc _).only h5 (hl5 _ i3)
  have j2 : OwnQ w5 w.heap.size Ar cr pre := own_kept2 (World.ownsRow.alloc i2 _) fun k hk => h5.block k (by have := (World.ownsRow.lt i2 k (blockOf_own.2 hk)).2; simp; omega) (hl5 k (i4 k hk))
  have j5 : Below w.heap.size w w5 := (i5.alloc i5.size _).trans (h5.below (fun k hk e => by omega) (by have := i5.size; simp; omega))
  have e1 := j1.cell 0
  have p0 := pb.cell 0
  have p1 := pb.cell 1
  have hs5 : W.heap.size + 1 ≤ w5.heap.size := by have := h5.size; simpa using this
  have hC5 : ∀ k, C k → k < w5.heap.size := fun k hk => by have := hC k hk; omega
  have hj5s := j5.size
  have hWp : ∀ k, C k → k ≠ W.heap.size := fun k hk => by have := hC k hk; omega
  clear i1 i2 i5 hC
  gi_wp2_with (gi_at_builtin; refine append_gi rfl (.tmp 17) (.tmp 23) _ rfl w.heap.size 50 Tryz.underlying48 info_two rfl (by omega) Ar cr pre.length (pair2 pre) rfl (World.ownsRow.alloc j2 _) _ [.int .i64 a, .int .i64 b] rfl (Reads.boxN w5 #[.int .i64 a, .int .i64 b] _) (by simp [Value.oneCell']) (by omega) (by simp; omega) ?_; intro A6 c6 w6 hown6 hg6 hb6 hw6; have k1 := (j1.alloc (.cells #[.int .i64 a, .int .i64 b] 50)).grown hg6 (own_blk_ne j2 j1 (by decide)); have e2 := k1.cell 0; have f2 := k1.frozen 0)
  have k2 : OwnQ w6 w.heap.size A6 c6 (pre ++ [(a, b)]) := by
   unfold OwnQ
   rw [List.length_append, pair2_snoc]
   exact hown6
  have k3 : Only (fun k => C k ∨ O k) w5 w6 := ((Only.refl _ w5).alloc _).grown hg6 fun k hk => .inl (.inl (i4 k (blockOf_own.1 hk)))
  have k2' : OwnQ (w6.setCell ⟨w1.heap.size, 0, none⟩ (.slice A6 (pre.length + 1) c6)) w.heap.size A6 c6 (pre ++ [(a, b)]) := own_kept2 k2 fun k hk => Below.heap_setCell w6 ⟨w1.heap.size, 0, none⟩ _ k (fun e => own_blk_ne k2 k1 (by decide) (by rw [blockOf_own.2 hk, e]))
  refine ⟨fun k => C k ∨ (w5.heap.size ≤ k ∧ k < w6.heap.size), k3.setCell (.inl (.inl i3)) _, fun k hk => ?_, A6, c6, ?_, k2', .inl i3, ?_, ?_, ?_, ?_⟩
  ·rcases hk with hk | hk
   ·exact .inl hk
   ·exact .inr (.inr (by simpa [World.setCell] using hk))
  ·have := k1.set_ 0 (.slice A6 (pre.length + 1) c6)
   rw [List.length_append]
   simpa using this
  ·intro k hk
   rcases hw6 with e | e
   ·rw [blockOf_own.2 hk] at e
    exact .inl (i4 k (blockOf_own.1 e.symm))
   ·rw [blockOf_own.2 hk] at e
    injection e with e
    have hlt := (World.ownsRow.lt hown6 k (blockOf_own.2 hk)).2
    exact .inr ⟨by rw [e]; simp, hlt⟩
  ·exact (j5.trans (k3.below (fun k hk e => by
    rcases e with e | e
    ·have := i7 k e; omega
    ·have := (hO k e).2.2; omega) j5.size)).setCell (by show w.heap.size ≤ w1.heap.size; omega) _
  ·have := k3.size; simp [World.setCell]; omega
  ·rintro k (hk | hk)
   ·exact i7 k hk
   ·exact .inr (by omega)
 case done =>
  rintro C W ⟨Ar, cr, i1, i2, i3, i4, i5, i6, i7⟩ _ hnD hD
  have e1 := i1.cell 0
  clear r3 x3 h3 hB3
  gi_wp2
  have p1 := Only.put_one W w3.heap.size (.deferred none)
  refine end_mark (v := .tuple #[.slice Ar (endsL es).length cr, .int .i64 0]) hD (by simp [results, Tryz.results158, go_sem]) ⟨Ar, cr, rfl, ?_, i5.trans (p1.below (fun k hk e => by omega) i5.size)⟩
  exact own_kept2 i2 fun k hk => p1.block k (World.ownsRow.lt i2 k (blockOf_own.2 hk)).2 fun e => hnD (by rw [← e]; exact i4 k hk)
end Go.Proofs.YtnbikkcalcpedaaGreatDoor
namespace Go.Proofs.YtnbikkcalcpedaaGreatDoor
open Go.RowKit
theorem root_any (g : Nat) (f : List Nat) (hf : Forest f) (hl : f.length = 12) (v : Nat) (hv : v < 12) (w : World) (h : Blk w g 266 (fcells f)) :
  Calls Tryz.prog 278 #[.pointer (some ⟨g, 0, none⟩), .int .i64 v] w fun e w' => e = .returned (.int .i64 (rt f v : Nat)) ∧ w = w' := by
 have HF := Lib.hid hf
 have HL := Lib.hid hl
 obtain ⟨r, hr⟩ : ∃ r, rt f v = r := ⟨_, rfl⟩
 rw [hr]
 have HR := Lib.hid hr
 clear hr hl hf
 go_enter Tryz.func278, Tryz.ntmps278
 go_wp2
 go_loop [1] (fun i => ∃ u : Nat, u < 12 ∧ i = .int .i64 u ∧ Hid (rt f v = rt f u)) (fun i => (intOf i).toNat)
 case atStart => exact ⟨v, hv, rfl, rfl⟩
 case round =>
  obtain ⟨u, hu, rfl, HU⟩ := hrel
  have hc := h.cell u
  rw [fcells_get (by rw [HL.out]; omega)] at hc
  have he := rt_eq HF.out u
  have hle := HF.out u
  obtain ⟨x, hx⟩ : ∃ x, f.getD u 0 = x := ⟨_, rfl⟩
  rw [hx] at hc he hle
  have hu' : (u : Int) < 12 := by omega
  clear hx
  by_cases hxu : x = u
  ·rw [if_pos hxu] at he
   have HE := Lib.hid he
   have hb : ((x : Int) != (u : Int)) = false := by simp; omega
   clear he hxu
   go_wp2
   go_ret
   exact ⟨ret_int (by rw [← HR.out, HU.out, HE.out]), rfl⟩
  ·rw [if_neg hxu] at he
   have HE := Lib.hid he
   have hb : ((x : Int) != (u : Int)) = true := by simp; omega
   have hlt : x < u := by omega
   clear he hxu
   go_wp2
   go_round
   case rel => exact ⟨x, by omega, rfl, by rw [Hid, HU.out, HE.out]⟩
   case measure => simp [intOf]; omega
theorem join_any (g : Nat) (f : List Nat) (hf : Forest f) (hl : f.length = 12) (a b : Nat) (ha : a < 12) (hb : b < 12) (w : World) (h : Blk w g 266 (fcells f)) :
  Calls Tryz.prog 277 #[.pointer (some ⟨g, 0, none⟩), .int .i64 a, .int .i64 b] w fun e w' => (∃ v, e = .returned v) ∧ w.setCell ⟨g, max (rt f a) (rt f b), none⟩ (.int .i64 ((min (rt f a) (rt f b) : Nat) : Int)) = w' := by
 have R1 := Lib.hid (root_any g f hf hl a ha w h)
 have R2 := Lib.hid (root_any g f hf hl b hb w h)
 have l1 := (rt_le hf a).1
 have l2 := (rt_le hf b).1
 obtain ⟨x, hx⟩ : ∃ x, rt f a = x := ⟨_, rfl⟩
 obtain ⟨y, hy⟩ : ∃ y, rt f b = y := ⟨_, rfl⟩
 rw [hx] at R1 l1 ⊢
 rw [hy] at R2 l2 ⊢
 have k1 : (x : Int) < 12 := by omega
 have k2 : (y : Int) < 12 := by omega
 have F1 := h.frozen x
 have F2 := h.frozen y
 have C1 := h.cell x
 have C2 := h.cell y
 rw [fcells_get (by omega)] at C1 C2
 clear hx hy hf hl
 rcases Nat.lt_trichotomy x y with hxy | rfl | hxy
 ·have m1 : max x y = y := by omega
  have m2 : min x y = x := by omega
  have i1 : (x : Int) < (y : Int) := by omega
  have i2 : ¬ (y : Int) < (x : Int) := by omega
  rw [m1, m2]
  clear m1 m2
  go_enter Tryz.func277, Tryz.ntmps277
  go_wp2_with (first | (go_at_call 278; (with_reducible refine (R1.out).mono ?_); rintro e w' ⟨rfl, rfl⟩) | (go_at_call 278; (with_reducible refine (R2.out).mono ?_); rintro e w' ⟨rfl, rfl⟩))
  exact bodyPost_end (results_none rfl _ _ _) rfl ⟨⟨_, rfl⟩, rfl⟩
 ·have m1 : max x x = x := by omega
  have m2 : min x x = x := by omega
  rw [m1, m2]
  clear m1 m2
  go_enter Tryz.func277, Tryz.ntmps277
  go_wp2_with (first | (go_at_call 278; (with_reducible refine (R1.out).mono ?_); rintro e w' ⟨rfl, rfl⟩) | (go_at_call 278; (with_reducible refine (R2.out).mono ?_); rintro e w' ⟨rfl, rfl⟩))
  exact bodyPost_end (results_none rfl _ _ _) rfl ⟨⟨_, rfl⟩, rfl⟩
 ·have m1 : max x y = x := by omega
  have m2 : min x y = y := by omega
  have i1 : ¬ (x : Int) < (y : Int) := by omega
  have i2 : (y : Int) < (x : Int) := by omega
  rw [m1, m2]
  clear m1 m2
  go_enter Tryz.func277, Tryz.ntmps277
  go_wp2_with (first | (go_at_call 278; (with_reducible refine (R1.out).mono ?_); rintro e w' ⟨rfl, rfl⟩) | (go_at_call 278; (with_reducible refine (R2.out).mono ?_); rintro e w' ⟨rfl, rfl⟩))
  exact bodyPost_end (results_none rfl _ _ _) rfl ⟨⟨_, rfl⟩, rfl⟩
def growTo (k : Nat) : List Nat := (List.range 12).map fun i => if i < k then i else 0
theorem growTo_succ {k : Nat} (h : k < 12) : (growTo k).set k k = growTo (k + 1) := by
 have : ∀ k, k < 12 → (growTo k).set k k = growTo (k + 1) := by decide
 exact this k h
theorem growTo_length (k : Nat) : (growTo k).length = 12 := by simp [growTo]
theorem grown_any (w : World) :
  Calls Tryz.prog 276 #[] w fun e w' => e = .returned (.agg #[.int .i64 0, .int .i64 1, .int .i64 2, .int .i64 3, .int .i64 4, .int .i64 5, .int .i64 6, .int .i64 7, .int .i64 8, .int .i64 9, .int .i64 10, .int .i64 11]) ∧ Below w.heap.size w w' := by
 go_enter Tryz.func276, Tryz.ntmps276
 go_wp2
 go_loopw [3] (fun i wr => ∃ k : Nat, k ≤ 12 ∧ i = .int .i64 k ∧ Below w.heap.size w wr ∧ Blk wr (w.heap.size + 1) 266 (fcells (growTo k)) ∧ Blk wr w.heap.size 266 (fcells (growTo 0))) (fun i _ => 12 - (intOf i).toNat)
 case atStart =>
  refine ⟨0, by omega, rfl, ((Below.refl _ _).alloc (Nat.le_refl _) _).alloc (by simp) _, ?_, (Blk.new w 266 (fcells (growTo 0))).alloc _⟩
  have := Blk.new (w.alloc (.cells (fcells (growTo 0)) 266)) 266 (fcells (growTo 0))
  rw [show (w.alloc (.cells (fcells (growTo 0)) 266)).heap.size = w.heap.size + 1 from by simp] at this
  exact this
 case round =>
  obtain ⟨k, hk, rfl, hbel, g1, g0⟩ := hrel
  by_cases hlt : k < 12
  ·have hi : (k : Int) < 12 := by omega
   have f1 := g1.frozen k
   have c1 := g1.cell k
   rw [fcells_get (by rw [growTo_length]; omega)] at c1
   go_wp2
   go_roundw
   case rel =>
    refine ⟨k + 1, by omega, by go_num, hbel.setCell (by simp) _, ?_, g0.far (by simp) _⟩
    have := g1.set_ k (.int .i64 (k : Nat))
    rwa [fcells_set, growTo_succ hlt] at this
   case measure => simp [intOf]; omega
  ·obtain rfl : k = 12 := by omega
   have e : fcells (growTo 12) = #[.int .i64 0, .int .i64 1, .int .i64 2, .int .i64 3, .int .i64 4, .int .i64 5, .int .i64 6, .int .i64 7, .int .i64 8, .int .i64 9, .int .i64 10, .int .i64 11] := rfl
   have e0 : fcells (growTo 0) = #[.int .i64 0, .int .i64 0, .int .i64 0, .int .i64 0, .int .i64 0, .int .i64 0, .int .i64 0, .int .i64 0, .int .i64 0, .int .i64 0, .int .i64 0, .int .i64 0] := rfl
   rw [e] at g1
   rw [e0] at g0
   clear e e0
   have c0 := g1.cell 0
   have z0 := g0.frozen 0
   have y0 := g0.cell 0
   have c1 := g1.cell 1
   have z1 := g0.frozen 1
   have y1 := g0.cell 1
   have c2 := g1.cell 2
   have z2 := g0.frozen 2
   have y2 := g0.cell 2
   have c3 := g1.cell 3
   have z3 := g0.frozen 3
   have y3 := g0.cell 3
   have c4 := g1.cell 4
   have z4 := g0.frozen 4
   have y4 := g0.cell 4
   have c5 := g1.cell 5
   have z5 := g0.frozen 5
   have y5 := g0.cell 5
   have c6 := g1.cell 6
   have z6 := g0.frozen 6
   have y6 := g0.cell 6
   have c7 := g1.cell 7
   have z7 := g0.frozen 7
   have y7 := g0.cell 7
   have c8 := g1.cell 8
   have z8 := g0.frozen 8
   have y8 := g0.cell 8
   have c9 := g1.cell 9
   have z9 := g0.frozen 9
   have y9 := g0.cell 9
   have c10 := g1.cell 10
   have z10 := g0.frozen 10
   have y10 := g0.cell 10
   have c11 := g1.cell 11
   have z11 := g0.frozen 11
   have y11 := g0.cell 11
   go_wp2
   have G := ((((((((((((g0.set_ 0 (.int .i64 0)).set_ 1 (.int .i64 1)).set_ 2 (.int .i64 2)).set_ 3 (.int .i64 3)).set_ 4 (.int .i64 4)).set_ 5 (.int .i64 5)).set_ 6 (.int .i64 6)).set_ 7 (.int .i64 7)).set_ 8 (.int .i64 8)).set_ 9 (.int .i64 9)).set_ 10 (.int .i64 10)).set_ 11 (.int .i64 11))
   simp only [List.setIfInBounds_toArray, List.set_cons_zero, List.set_cons_succ] at G
   exact bodyPost_ret (results_cell_row rfl _ _ w.heap.size _ (fcells (List.range 12)) _ _ rfl G Tryz.underlying266 rfl (by kernel_rfl)) rfl ⟨rfl, ((((((((((((hbel.setCell (p := ⟨w.heap.size, 0, none⟩) (Nat.le_refl _) _).setCell (p := ⟨w.heap.size, 1, none⟩) (Nat.le_refl _) _).setCell (p := ⟨w.heap.size, 2, none⟩) (Nat.le_refl _) _).setCell (p := ⟨w.heap.size, 3, none⟩) (Nat.le_refl _) _).setCell (p := ⟨w.heap.size, 4, none⟩) (Nat.le_refl _) _).setCell (p := ⟨w.heap.size, 5, none⟩) (Nat.le_refl _) _).setCell (p := ⟨w.heap.size, 6, none⟩) (Nat.le_refl _) _).setCell (p := ⟨w.heap.size, 7, none⟩) (Nat.le_refl _) _).setCell (p := ⟨w.heap.size, 8, none⟩) (Nat.le_refl _) _).setCell (p := ⟨w.heap.size, 9, none⟩) (Nat.le_refl _) _).setCell (p := ⟨w.heap.size, 10, none⟩) (Nat.le_refl _) _).setCell (p := ⟨w.heap.size, 11, none⟩) (Nat.le_refl _) _)⟩
theorem joined_any (n : Nat) (A : Option Addr) (c : Nat) (es : List E3) (hn : es.length ≤ 1048576) (hG : RightG n es) (w : World) (h : Reads w w.heap.size 3 A es.length (edgeCells es)) :
  Calls Tryz.prog 219 #[.agg #[.int .i64 n, .slice A es.length c]] w fun e w' => ∃ f, e = .returned (.agg (fcells f)) ∧ Joins es f ∧ Below w.heap.size w w' := by
 have HG := Lib.hid hG
 clear hG
 go_enter Tryz.func219, Tryz.ntmps219
 go_wp2_with (go_at_call 276; refine (grown_any _).mono ?_; rintro e w1 ⟨rfl, hb1⟩
              have gb := ((Blk.new w 24 #[.int .i64 n, .slice A es.length c]).alloc (.cells #[.int .i64 0, .int .i64 0, .int .i64 0, .int .i64 0, .int .i64 0, .int .i64 0, .int .i64 0, .int .i64 0, .int .i64 0, .int .i64 0, .int .i64 0, .int .i64 0] 266)).next hb1
              have gr := Blk.new (w.alloc (.cells #[.int .i64 n, .slice A es.length c] 24)) 266 #[.int .i64 0, .int .i64 0, .int .i64 0, .int .i64 0, .int .i64 0, .int .i64 0, .int .i64 0, .int .i64 0, .int .i64 0, .int .i64 0, .int .i64 0, .int .i64 0]
              rw [show (w.alloc (.cells #[.int .i64 n, .slice A es.length c] 24)).heap.size = w.heap.size + 1 from by simp] at gr
              have gr1 := gr.next hb1
              have hbel1 : Below w.heap.size w w1 := (((Below.refl _ _).alloc (Nat.le_refl _) _).alloc (by simp) _).trans (hb1.mono (by simp; omega))
              have gf : Blk (w1.alloc (.cells #[.int .i64 0, .int .i64 1, .int .i64 2, .int .i64 3, .int .i64 4, .int .i64 5, .int .i64 6, .int .i64 7, .int .i64 8, .int .i64 9, .int .i64 10, .int .i64 11] 266)) w1.heap.size 266 (fcells (List.range 12)) := Blk.new w1 266 #[.int .i64 0, .int .i64 1, .int .i64 2, .int .i64 3, .int .i64 4, .int .i64 5, .int .i64 6, .int .i64 7, .int .i64 8, .int .i64 9, .int .i64 10, .int .i64 11]
              have hsz1 := gr1.lt
              have gb1 := gb.alloc (.cells #[.int .i64 0, .int .i64 1, .int .i64 2, .int .i64 3, .int .i64 4, .int .i64 5, .int .i64 6, .int .i64 7, .int .i64 8, .int .i64 9, .int .i64 10, .int .i64 11] 266)
              have gr2 := gr1.alloc (.cells #[.int .i64 0, .int .i64 1, .int .i64 2, .int .i64 3, .int .i64 4, .int .i64 5, .int .i64 6, .int .i64 7, .int .i64 8, .int .i64 9, .int .i64 10, .int .i64 11] 266)
              have hbel2 := hbel1.alloc hbel1.size (.cells #[.int .i64 0, .int .i64 1, .int .i64 2, .int .i64 3, .int .i64 4, .int .i64 5, .int .i64 6, .int .i64 7, .int .i64 8, .int .i64 9, .int .i64 10, .int .i64 11] 266)
              have c1 := gb1.cell 1
              have d0 := gb1.cell 0
              clear gr gr1 gb hb1 hbel1)
 go_loopw [10] (fun i wr => ∃ (k : Nat) (f : List Nat), k ≤ es.length ∧ i = .int .i64 k ∧ Below w.heap.size w wr ∧ Blk wr w1.heap.size 266 (fcells f) ∧ Blk wr (w.heap.size + 1) 266 #[.int .i64 0, .int .i64 0, .int .i64 0, .int .i64 0, .int .i64 0, .int .i64 0, .int .i64 0, .int .i64 0, .int .i64 0, .int .i64 0, .int .i64 0, .int .i64 0] ∧ Hid (Joins (es.take k) f)) (fun i _ => es.length - (intOf i).toNat)
 case atStart => exact ⟨0, List.range 12, by omega, rfl, hbel2, gf, gr2, joins_nil⟩
 clear hbel2 gf gr2 gb1 c1 d0
 case round =>
  obtain ⟨k, f, hk, rfl, hbel, gf, gr, HJ⟩ := hrel
  have hsz := hbel.size
  by_cases hlt : k < es.length
  ·obtain ⟨⟨x, y, m⟩, hx⟩ := get_of_lt hlt
   have hok := HG.out.ok _ (List.mem_of_getElem? hx)
   have hhi := HG.out.hi
   unfold okE at hok
   dsimp only at hok
   obtain ⟨a, rfl⟩ := Int.eq_ofNat_of_zero_le (show 0 ≤ x by omega)
   obtain ⟨b, rfl⟩ := Int.eq_ofNat_of_zero_le (show 0 ≤ y by omega)
   have ha : a < 12 := by omega
   have hb : b < 12 := by omega
   have HN := Lib.hid (joins_snoc HJ.out (e := ((a : Int), (b : Int), m)) ha hb rfl rfl)
   rw [← take_snoc hx] at HN
   obtain ⟨bb, off, rfl, hbb, q1, q2, q3⟩ := (h.below hbel).edge hx
   have hi : (k : Int) < (es.length : Int) := by omega
   have gf1 := gf.alloc (.cells #[.int .i64 a, .int .i64 b, .int .i64 m] 107)
   have gr1 := gr.alloc (.cells #[.int .i64 a, .int .i64 b, .int .i64 m] 107)
   have hbl1 := hbel.alloc hsz (.cells #[.int .i64 a, .int .i64 b, .int .i64 m] 107)
   have JC := Lib.hid (join_any w1.heap.size f HJ.out.forest HJ.out.len a b ha hb _ gf1)
   have hne : w.heap.size + 1 ≠ w1.heap.size := by omega
   dsimp only at q1 q2 q3
   clear hx h hbel hok
   go_wp2_with (go_at_call 277; (with_reducible refine (JC.out).mono ?_); rintro e w' ⟨⟨v, rfl⟩, rfl⟩)
   go_roundw
   case rel =>
    refine ⟨k + 1, joinF f a b, by omega, by go_num, hbl1.setCell (by simp; omega) _, ?_, gr1.far (by simpa using hne) _, HN.out⟩
    have := gf1.set_ (max (rt f a) (rt f b)) (.int .i64 ((min (rt f a) (rt f b) : Nat) : Int))
    rwa [fcells_set] at this
   case measure => simp [intOf]; omega
  ·obtain rfl : k = es.length := by omega
   rw [List.take_length] at HJ
   obtain ⟨a0, a1, a2, a3, a4, a5, a6, a7, a8, a9, a10, a11, rfl⟩ := list12 HJ.out.len
   have hne : w.heap.size + 1 ≠ w1.heap.size := by omega
   replace gf : Blk wr w1.heap.size 266 #[.int .i64 (a0 : Nat), .int .i64 (a1 : Nat), .int .i64 (a2 : Nat), .int .i64 (a3 : Nat), .int .i64 (a4 : Nat), .int .i64 (a5 : Nat), .int .i64 (a6 : Nat), .int .i64 (a7 : Nat), .int .i64 (a8 : Nat), .int .i64 (a9 : Nat), .int .i64 (a10 : Nat), .int .i64 (a11 : Nat)] := gf
   have c0 := gf.cell 0
   have z0 := gr.frozen 0
   have y0 := gr.cell 0
   have c1 := gf.cell 1
   have z1 := gr.frozen 1
   have y1 := gr.cell 1
   have c2 := gf.cell 2
   have z2 := gr.frozen 2
   have y2 := gr.cell 2
   have c3 := gf.cell 3
   have z3 := gr.frozen 3
   have y3 := gr.cell 3
   have c4 := gf.cell 4
   have z4 := gr.frozen 4
   have y4 := gr.cell 4
   have c5 := gf.cell 5
   have z5 := gr.frozen 5
   have y5 := gr.cell 5
   have c6 := gf.cell 6
   have z6 := gr.frozen 6
   have y6 := gr.cell 6
   have c7 := gf.cell 7
   have z7 := gr.frozen 7
   have y7 := gr.cell 7
   have c8 := gf.cell 8
   have z8 := gr.frozen 8
   have y8 := gr.cell 8
   have c9 := gf.cell 9
   have z9 := gr.frozen 9
   have y9 := gr.cell 9
   have c10 := gf.cell 10
   have z10 := gr.frozen 10
   have y10 := gr.cell 10
   have c11 := gf.cell 11
   have z11 := gr.frozen 11
   have y11 := gr.cell 11
   go_wp2
   have G := ((((((((((((gr.set_ 0 (.int .i64 (a0 : Nat))).set_ 1 (.int .i64 (a1 : Nat))).set_ 2 (.int .i64 (a2 : Nat))).set_ 3 (.int .i64 (a3 : Nat))).set_ 4 (.int .i64 (a4 : Nat))).set_ 5 (.int .i64 (a5 : Nat))).set_ 6 (.int .i64 (a6 : Nat))).set_ 7 (.int .i64 (a7 : Nat))).set_ 8 (.int .i64 (a8 : Nat))).set_ 9 (.int .i64 (a9 : Nat))).set_ 10 (.int .i64 (a10 : Nat))).set_ 11 (.int .i64 (a11 : Nat)))
   simp only [List.setIfInBounds_toArray, List.set_cons_zero, List.set_cons_succ] at G
   exact bodyPost_ret (results_cell_row rfl _ _ (w.heap.size + 1) _ (fcells [a0, a1, a2, a3, a4, a5, a6, a7, a8, a9, a10, a11]) _ _ rfl G Tryz.underlying266 rfl (by kernel_rfl)) rfl ⟨_, rfl, HJ.out, ((((((((((((hbel.setCell (p := ⟨w.heap.size + 1, 0, none⟩) (Nat.le_succ _) _).setCell (p := ⟨w.heap.size + 1, 1, none⟩) (Nat.le_succ _) _).setCell (p := ⟨w.heap.size + 1, 2, none⟩) (Nat.le_succ _) _).setCell (p := ⟨w.heap.size + 1, 3, none⟩) (Nat.le_succ _) _).setCell (p := ⟨w.heap.size + 1, 4, none⟩) (Nat.le_succ _) _).setCell (p := ⟨w.heap.size + 1, 5, none⟩) (Nat.le_succ _) _).setCell (p := ⟨w.heap.size + 1, 6, none⟩) (Nat.le_succ _) _).setCell (p := ⟨w.heap.size + 1, 7, none⟩) (Nat.le_succ _) _).setCell (p := ⟨w.heap.size + 1, 8, none⟩) (Nat.le_succ _) _).setCell (p := ⟨w.heap.size + 1, 9, none⟩) (Nat.le_succ _) _).setCell (p := ⟨w.heap.size + 1, 10, none⟩) (Nat.le_succ _) _).setCell (p := ⟨w.heap.size + 1, 11, none⟩) (Nat.le_succ _) _)⟩
end Go.Proofs.YtnbikkcalcpedaaGreatDoor
