/-
  Texts of this claim, put together: For, Edge.
-/
import Derived.Test.YtghigdcpinengaaGreatRows
import Derived.Test.YtghigdcpinengaaGreatK07
import Derived.Test.YtghigdcpinengaaGreatK02
import Derived.Laws.ResultCell
import Derived.Deep.RegionHeld3
import Derived.Test.YtghigdcpinengaaGreatK01
import Derived.Test.YtghigdcpinengaaGreatK03
import Derived.Deep.QuietTactic
import Derived.BigQuiet
/-! Package tree: the forest of joined vertices. -/
namespace Go.Proofs.YtghigdcpinengaaGreat
open Go.RowKit

set_option maxHeartbeats 1000000 in
theorem troot_any (g : Nat) (ps : List (Nat × Nat)) (f : List Nat) (r h : Nat → Nat) (k : Rp ps f r h) (v : Nat) (hv : v < 12) (w : World) (hb : Blk w g 138 (fcells f)) :
    Calls Tryz.prog 130 #[.pointer (some ⟨g, 0, none⟩), .int .i64 v] w fun e w' => e = .returned (.int .i64 (r v : Nat)) ∧ w = w' := by
  have HK := Lib.hid k
  obtain ⟨x, hx⟩ : ∃ x, r v = x := ⟨_, rfl⟩
  rw [hx]
  have HX := Lib.hid hx
  clear hx k
  go_enter Tryz.func130, Tryz.ntmps130
  go_wp2
  go_loop [1] (fun i => ∃ u : Nat, u < 12 ∧ i = .int .i64 u ∧ Hid (r u = x)) (fun i => h (intOf i).toNat)
  case atStart => exact ⟨v, hv, rfl, HX⟩
  case round =>
    obtain ⟨u, hu, rfl, HU⟩ := hrel
    have hc := hb.cell u
    rw [fcells_get (by rw [HK.out.len]; omega)] at hc
    have hl := HK.out.lt u hu
    have hf := HK.out.fix u hu
    have hs := HK.out.step u hu
    obtain ⟨y, hy⟩ : ∃ y, f.getD u 0 = y := ⟨_, rfl⟩
    rw [hy] at hc hl hf hs
    have hu' : (u : Int) < 12 := by omega
    clear hy
    by_cases hyu : y = u
    · have HE := Lib.hid ((hf hyu).symm.trans HU.out)
      have hbq : ((y : Int) != (u : Int)) = false := by simp; omega
      clear hf hs hyu
      go_wp2
      go_ret
      exact ⟨ret_int (by rw [HE.out]), rfl⟩
    · obtain ⟨s1, s2⟩ := hs hyu
      have HE := Lib.hid (s2.trans HU.out)
      have HM := Lib.hid s1
      have hbq : ((y : Int) != (u : Int)) = true := by simp; omega
      clear hf s1 s2 hyu hs
      go_wp2
      go_round
      case rel => exact ⟨y, hl, rfl, HE⟩
      case measure => simp only [intOf, Int.toNat_natCast]; exact HM.out

theorem h_set_fcells {w : World} {g : Nat} {t : TypeId} {f : List Nat} (h : Blk w g t (fcells f)) (x y : Nat) : Blk (w.setCell ⟨g, x, none⟩ (.int .i64 (y : Nat))) g t (fcells (f.set x y)) := by
  rw [← fcells_set]; exact h.set_ x _
set_option maxRecDepth 100000 in
set_option maxHeartbeats 2000000 in
theorem tjoin_any (g : Nat) (ps : List (Nat × Nat)) (f : List Nat) (hf : FR ps f) (a b : Nat) (ha : a < 12) (hb : b < 12) (w : World) (h : Blk w g 138 (fcells f)) :
    Calls Tryz.prog 105 #[.pointer (some ⟨g, 0, none⟩), .agg #[.int .i64 a, .int .i64 b]] w fun e w' => e = .returned (.bool (!decide (Cn ps a b))) ∧ ∃ f', Hid (FR (ps ++ [(a, b)]) f') ∧ Blk w' g 138 (fcells f') ∧ Only (fun k => k = g) w w' := by
  obtain ⟨r, hh, k⟩ := hf
  have HK := Lib.hid k
  have l1 := (k.root a ha).1
  have l2 := (k.root b hb).1
  have HS := Lib.hid (k.same a b ha hb)
  have HF := Lib.hid (k.snoc ha hb)
  have hb0 := h.alloc (.cells #[.int .i64 a, .int .i64 b] 63)
  have hne : g ≠ w.heap.size := by have := h.lt; omega
  have q0 := Blk.new w 63 #[.int .i64 a, .int .i64 b]
  have R1 := Lib.hid (fun W hW => troot_any g ps f r hh k a ha W hW)
  have R2 := Lib.hid (fun W hW => troot_any g ps f r hh k b hb W hW)
  obtain ⟨x, hx⟩ : ∃ x, r a = x := ⟨_, rfl⟩
  obtain ⟨y, hy⟩ : ∃ y, r b = y := ⟨_, rfl⟩
  rw [hx] at R1 l1 HS HF
  rw [hy] at R2 l2 HS HF
  have k1 : (x : Int) < 12 := by omega
  have F1 := hb0.frozen x
  have C1 := hb0.cell x
  rw [fcells_get (by rw [HK.out.len]; omega)] at C1
  have c0 := q0.cell 0
  have c1 := q0.cell 1
  have ho : Only (fun k => k = g) w (w.alloc (.cells #[.int .i64 a, .int .i64 b] 63)) := (Only.refl _ w).alloc _
  obtain ⟨W0, hW0⟩ : ∃ W0, w.alloc (.cells #[.int .i64 a, .int .i64 b] 63) = W0 := ⟨_, rfl⟩
  rw [hW0] at hb0 F1 C1 c0 c1 ho
  have HW0 := Lib.hid hW0
  clear hx hy k h q0 hW0
  go_enter Tryz.func105, Tryz.ntmps105
  go_wp2_with fail
  rw [HW0.out]
  have hD := hb0.drew
  go_region_held3 (fun W => W.cell? ⟨w.heap.size, 0, none⟩ = some (.int .i64 a) ∧ W.cell? ⟨w.heap.size, 1, none⟩ = some (.int .i64 b)) (go_keep) (first
    | (go_at_call 130; (with_reducible refine (R1.out _ (by exact hD)).mono ?_); rintro e w5 ⟨rfl, rfl⟩)
    | (go_at_call 130; (with_reducible refine (R2.out _ (by exact hD)).mono ?_); rintro e w5 ⟨rfl, rfl⟩))
  have hS := h_set_fcells hD x y
  have hO : Only (fun k => k = g) w (W0.drew.setCell ⟨g, x, none⟩ (.int .i64 (y : Nat))) := (ho.drew).setCell (.inl rfl) _
  have hbq : ((x : Int) != (y : Int)) = !decide (Cn ps a b) := by
    by_cases hxy : x = y
    · rw [decide_eq_true (HS.out.1 hxy), hxy]; simp
    · rw [decide_eq_false (fun hc => hxy (HS.out.2 hc)), bne_iff_ne.2 (by omega)]; rfl
  have HB := Lib.hid hbq
  have HSS := Lib.hid hS
  have HOO := Lib.hid hO
  clear hbq hS hO
  go_wp2
  go_ret
  exact ⟨ret_bool HB.out, _, HF, HSS.out, HOO.out⟩
def looseTo (k : Nat) : List Nat := (List.range 12).map fun i => if i < k then i else 0
theorem looseTo_succ {k : Nat} (h : k < 12) : (looseTo k).set k k = looseTo (k + 1) := by
  have : ∀ k, k < 12 → (looseTo k).set k k = looseTo (k + 1) := by decide
  exact this k h
theorem looseTo_length (k : Nat) : (looseTo k).length = 12 := by simp [looseTo]
set_option maxRecDepth 100000 in
set_option maxHeartbeats 1000000 in
theorem loose_any (w : World) :
    Calls Tryz.prog 104 #[] w fun e w' => e = .returned (.agg #[.int .i64 0, .int .i64 1, .int .i64 2, .int .i64 3, .int .i64 4, .int .i64 5, .int .i64 6, .int .i64 7, .int .i64 8, .int .i64 9, .int .i64 10, .int .i64 11]) ∧ Below w.heap.size w w' := by
  go_enter Tryz.func104, Tryz.ntmps104
  go_wp2
  go_loopw [2, 3] (fun _ i wr => ∃ k : Nat, k ≤ 12 ∧ i = .int .i64 k ∧ Below w.heap.size w wr ∧ Blk wr (w.heap.size + 1) 138 (fcells (looseTo k)) ∧ Blk wr w.heap.size 138 (fcells (looseTo 0))) (fun _ i _ => 12 - (intOf i).toNat)
  case atStart =>
    refine ⟨0, by omega, rfl, ((Below.refl _ _).alloc (Nat.le_refl _) _).alloc (by simp) _, ?_, (Blk.new w 138 (fcells (looseTo 0))).alloc _⟩
    have := Blk.new (w.alloc (.cells (fcells (looseTo 0)) 138)) 138 (fcells (looseTo 0))
    rw [show (w.alloc (.cells (fcells (looseTo 0)) 138)).heap.size = w.heap.size + 1 from by simp] at this
    exact this
  case round =>
    obtain ⟨k, hk, rfl, hbel, g1, g0⟩ := hrel
    by_cases hlt : k < 12
    · have hi : (k : Int) < 12 := by omega
      have f1 := g1.frozen k
      have c1 := g1.cell k
      rw [fcells_get (by rw [looseTo_length]; omega)] at c1
      go_wp2
      go_roundw
      case rel =>
        refine ⟨k + 1, by omega, by go_num, hbel.setCell (by simp) _, ?_, g0.far (by simp) _⟩
        have := g1.set_ k (.int .i64 (k : Nat))
        rwa [fcells_set, looseTo_succ hlt] at this
      case measure => simp [intOf]; omega
    · obtain rfl : k = 12 := by omega
      have e : fcells (looseTo 12) = #[.int .i64 0, .int .i64 1, .int .i64 2, .int .i64 3, .int .i64 4, .int .i64 5, .int .i64 6, .int .i64 7, .int .i64 8, .int .i64 9, .int .i64 10, .int .i64 11] := rfl
      have e0 : fcells (looseTo 0) = #[.int .i64 0, .int .i64 0, .int .i64 0, .int .i64 0, .int .i64 0, .int .i64 0, .int .i64 0, .int .i64 0, .int .i64 0, .int .i64 0, .int .i64 0, .int .i64 0] := rfl
      rw [e] at g1
      rw [e0] at g0
      clear e e0
      have c0 := g1.cell 0
      have z0 := g0.frozen 0
      have y0 := g0.cell 0
      have c1 := g1.cell 1
      have z1 := g0.frozen 1
      have y1 := g0.cell 1
      have c2 := g1.cell 2
      have z2 := g0.frozen 2
      have y2 := g0.cell 2
      have c3 := g1.cell 3
      have z3 := g0.frozen 3
      have y3 := g0.cell 3
      have c4 := g1.cell 4
      have z4 := g0.frozen 4
      have y4 := g0.cell 4
      have c5 := g1.cell 5
      have z5 := g0.frozen 5
      have y5 := g0.cell 5
      have c6 := g1.cell 6
      have z6 := g0.frozen 6
      have y6 := g0.cell 6
      have c7 := g1.cell 7
      have z7 := g0.frozen 7
      have y7 := g0.cell 7
      have c8 := g1.cell 8
      have z8 := g0.frozen 8
      have y8 := g0.cell 8
      have c9 := g1.cell 9
      have z9 := g0.frozen 9
      have y9 := g0.cell 9
      have c10 := g1.cell 10
      have z10 := g0.frozen 10
      have y10 := g0.cell 10
      have c11 := g1.cell 11
      have z11 := g0.frozen 11
      have y11 := g0.cell 11
      go_wp2
      have G := ((((((((((((g0.set_ 0 (.int .i64 0)).set_ 1 (.int .i64 1)).set_ 2 (.int .i64 2)).set_ 3 (.int .i64 3)).set_ 4 (.int .i64 4)).set_ 5 (.int .i64 5)).set_ 6 (.int .i64 6)).set_ 7 (.int .i64 7)).set_ 8 (.int .i64 8)).set_ 9 (.int .i64 9)).set_ 10 (.int .i64 10)).set_ 11 (.int .i64 11))
      simp only [List.setIfInBounds_toArray, List.set_cons_zero, List.set_cons_succ] at G
      exact bodyPost_ret (results_cell_row rfl _ _ w.heap.size _ (fcells (List.range 12)) _ _ rfl G Tryz.underlying138 rfl (by kernel_rfl)) rfl ⟨rfl, ((((((((((((hbel.setCell (p := ⟨w.heap.size, 0, none⟩) (Nat.le_refl _) _).setCell (p := ⟨w.heap.size, 1, none⟩) (Nat.le_refl _) _).setCell (p := ⟨w.heap.size, 2, none⟩) (Nat.le_refl _) _).setCell (p := ⟨w.heap.size, 3, none⟩) (Nat.le_refl _) _).setCell (p := ⟨w.heap.size, 4, none⟩) (Nat.le_refl _) _).setCell (p := ⟨w.heap.size, 5, none⟩) (Nat.le_refl _) _).setCell (p := ⟨w.heap.size, 6, none⟩) (Nat.le_refl _) _).setCell (p := ⟨w.heap.size, 7, none⟩) (Nat.le_refl _) _).setCell (p := ⟨w.heap.size, 8, none⟩) (Nat.le_refl _) _).setCell (p := ⟨w.heap.size, 9, none⟩) (Nat.le_refl _) _).setCell (p := ⟨w.heap.size, 10, none⟩) (Nat.le_refl _) _).setCell (p := ⟨w.heap.size, 11, none⟩) (Nat.le_refl _) _)⟩
end Go.Proofs.YtghigdcpinengaaGreat

/-! Graphs: slices of edges (three cells each) and of pairs (two cells each); the reference's equality of graphs. -/
namespace Go.Proofs.YtghigdcpinengaaGreat
open Go.RowKit

/-- An edge: its ends, and how often. -/
abbrev E3 := Int × Int × Int
def edgeCells : List E3 → List Value
  | [] => []
  | e :: es => .int .i64 e.1 :: .int .i64 e.2.1 :: .int .i64 e.2.2 :: edgeCells es
theorem edgeCells_length (es : List E3) : (edgeCells es).length = es.length * 3 := by
  induction es with
  | nil => rfl
  | cons e es ih => simp [edgeCells, ih]; omega
theorem edgeCells_append (es fs : List E3) : edgeCells (es ++ fs) = edgeCells es ++ edgeCells fs := by
  induction es with
  | nil => rfl
  | cons e es ih => simp [edgeCells, ih]
theorem edgeCells_at {es : List E3} {k : Nat} {e : E3} (h : es[k]? = some e) :
    (edgeCells es)[k * 3]? = some (.int .i64 e.1) ∧ (edgeCells es)[k * 3 + 1]? = some (.int .i64 e.2.1) ∧ (edgeCells es)[k * 3 + 2]? = some (.int .i64 e.2.2) := by
  induction es generalizing k with
  | nil => simp at h
  | cons f es ih =>
    rcases k with _ | k
    · simp at h; subst h; simp [edgeCells]
    · have := ih (k := k) (by simpa using h)
      rw [show (k + 1) * 3 = k * 3 + 1 + 1 + 1 from by omega, show k * 3 + 1 + 1 + 1 + 1 = (k * 3 + 1) + 1 + 1 + 1 from by omega, show k * 3 + 1 + 1 + 1 + 2 = (k * 3 + 2) + 1 + 1 + 1 from by omega]
      simpa [edgeCells] using this
theorem edgeCells_one {es : List E3} : ∀ u ∈ edgeCells es, u.oneCell' = true := by
  induction es with
  | nil => simp [edgeCells]
  | cons e es ih =>
    intro u hu
    simp only [edgeCells, List.mem_cons] at hu
    rcases hu with rfl | rfl | rfl | hu
    · rfl
    · rfl
    · rfl
    · exact ih u hu
theorem Reads.edge {w : World} {B n : Nat} {A : Option Addr} {es : List E3} {k : Nat} {e : E3} (h : Reads w B 3 A n (edgeCells es)) (he : es[k]? = some e) :
    ∃ b off, A = some ⟨b, off, none⟩ ∧ b < B ∧ w.cell? ⟨b, off + k * 3, none⟩ = some (.int .i64 e.1) ∧ w.cell? ⟨b, off + k * 3 + 1, none⟩ = some (.int .i64 e.2.1) ∧ w.cell? ⟨b, off + k * 3 + 1 + 1, none⟩ = some (.int .i64 e.2.2) := by
  have hk : k < es.length := (List.getElem?_eq_some_iff.1 he).1
  have hl := h.1
  rw [edgeCells_length] at hl
  obtain ⟨b, off, hA, hb, hc⟩ := h.2 (by omega)
  obtain ⟨h1, h2, h3⟩ := edgeCells_at he
  exact ⟨b, off, hA, hb, hc _ _ h1, by have := hc _ _ h2; rwa [show off + (k * 3 + 1) = off + k * 3 + 1 from by omega] at this, by have := hc _ _ h3; rwa [show off + (k * 3 + 2) = off + k * 3 + 1 + 1 from by omega] at this⟩

theorem info_edge : (Tryz.prog.info? 104).map (fun i => (i.zero, i.size, i.bytes)) = some (some (.agg #[.int .i64 0, .int .i64 0, .int .i64 0]), 3, 24) := by kernel_rfl

/-- The slice value is the call's own row of edges. -/
def OwnE (w : World) (base : Nat) (A : Option Addr) (c : Nat) (es : List E3) : Prop := w.ownsRow base 104 3 (.slice A es.length c) es.length (edgeCells es)
section
variable {w w' : World} {base : Nat} {A : Option Addr} {c : Nat} {es : List E3}
theorem OwnE.nil_ (w : World) (base : Nat) : OwnE w base none 0 [] := World.ownsRow_nil _ _ _ _
theorem OwnE.reads (h : OwnE w base A c es) : Reads w w.heap.size 3 A es.length (edgeCells es) := Reads.of_own h
theorem OwnE.alloc (h : OwnE w base A c es) (o : Obj) : OwnE (w.alloc o) base A c es := World.ownsRow.alloc h o
theorem OwnE.drewN (h : OwnE w base A c es) (n : Nat) : OwnE (w.drewN n) base A c es := h
theorem OwnE.lt (h : OwnE w base A c es) : ∀ k, blockOf A k → base ≤ k ∧ k < w.heap.size := fun k hk => World.ownsRow.lt h k (blockOf_own.2 hk)
theorem OwnE.kept (h : OwnE w base A c es) (hk : ∀ k, blockOf A k → w'.heap[k]? = w.heap[k]?) : OwnE w' base A c es := by
  obtain ⟨h1, h2⟩ := h
  refine ⟨h1, ?_⟩
  rcases h2 with h2 | ⟨g, cap, cur, hv, hg, hh, r⟩
  · exact .inl h2
  · have hgb : (Value.slice A es.length c).ownBlock = some g := by rw [hv]; rfl
    exact .inr ⟨g, cap, cur, hv, hg, (hk g (blockOf_own.1 hgb)).trans hh, r⟩
theorem OwnE.next (h : OwnE w base A c es) (hb : Below w.heap.size w w') : OwnE w' base A c es := h.kept fun k hk => hb.block k (h.lt k hk).2
theorem OwnE.mono {base' : Nat} (h : OwnE w base A c es) (hb : base' ≤ base) : OwnE w base' A c es := by
  obtain ⟨h1, h2⟩ := h
  refine ⟨h1, ?_⟩
  rcases h2 with h2 | ⟨g, cap, cur, hv, hg, r⟩
  · exact .inl h2
  · exact .inr ⟨g, cap, cur, hv, by omega, r⟩
theorem OwnE.set_blk {g : Nat} {t : TypeId} {cs : Array Value} (h : OwnE w base A c es) (hg : Blk w g t cs) (ht : 104 ≠ t) (o : Nat) (u : Value) : OwnE (w.setCell ⟨g, o, none⟩ u) base A c es := by
  have hne := own_blk_ne h hg ht
  refine h.kept fun k hk => Below.heap_setCell w ⟨g, o, none⟩ u k ?_
  rintro rfl
  exact hne (blockOf_own.2 hk).symm
end
end Go.Proofs.YtghigdcpinengaaGreat

