/-
  Texts of this claim, put together: For, Own.
-/
import Derived.Test.YtepmfbgmkfkmkaaRows
import Derived.Test.YtepmfbgmkfkmkaaK01
import Derived.Test.YtepmfbgmkfkmkaaK02
import Derived.Laws.ResultCell
import Derived.Deep.RegionHeld3
import Derived.WalkKit
import Derived.WalkSpells
import Derived.Maps.AppendAt
import Derived.OwnWalk
import Derived.OwnWalkIn
/-! Package tree: the forest of joined vertices. -/
namespace Go.Proofs.Ytepmfbgmkfkmkaa
open Go.RowKit

set_option maxHeartbeats 1000000 in
theorem troot_any (g : Nat) (ps : List (Nat × Nat)) (f : List Nat) (r h : Nat → Nat) (k : Rp ps f r h) (v : Nat) (hv : v < 12) (w : World) (hb : Blk w g 76 (fcells f)) :
    Calls Try.prog 62 #[.pointer (some ⟨g, 0, none⟩), .int .i64 v] w fun e w' => e = .returned (.int .i64 (r v : Nat)) ∧ w = w' := by
  have HK := Lib.hid k
  obtain ⟨x, hx⟩ : ∃ x, r v = x := ⟨_, rfl⟩
  rw [hx]
  have HX := Lib.hid hx
  clear hx k
  go_enter Try.func62, Try.ntmps62
  go_wp2
  go_loop [1] (fun i => ∃ u : Nat, u < 12 ∧ i = .int .i64 u ∧ Hid (r u = x)) (fun i => h (intOf i).toNat)
  case atStart => exact ⟨v, hv, rfl, HX⟩
  case round =>
    obtain ⟨u, hu, rfl, HU⟩ := hrel
    have hc := hb.cell u
    rw [fcells_get (by rw [HK.out.len]; omega)] at hc
    have hl := HK.out.lt u hu
    have hf := HK.out.fix u hu
    have hs := HK.out.step u hu
    obtain ⟨y, hy⟩ : ∃ y, f.getD u 0 = y := ⟨_, rfl⟩
    rw [hy] at hc hl hf hs
    have hu' : (u : Int) < 12 := by omega
    clear hy
    by_cases hyu : y = u
    · have HE := Lib.hid ((hf hyu).symm.trans HU.out)
      have hbq : ((y : Int) != (u : Int)) = false := by simp; omega
      clear hf hs hyu
      go_wp2
      go_ret
      exact ⟨ret_int (by rw [HE.out]), rfl⟩
    · obtain ⟨s1, s2⟩ := hs hyu
      have HE := Lib.hid (s2.trans HU.out)
      have HM := Lib.hid s1
      have hbq : ((y : Int) != (u : Int)) = true := by simp; omega
      clear hf s1 s2 hyu hs
      go_wp2
      go_round
      case rel => exact ⟨y, hl, rfl, HE⟩
      case measure => simp only [intOf, Int.toNat_natCast]; exact HM.out

theorem h_set_fcells {w : World} {g : Nat} {t : TypeId} {f : List Nat} (h : Blk w g t (fcells f)) (x y : Nat) : Blk (w.setCell ⟨g, x, none⟩ (.int .i64 (y : Nat))) g t (fcells (f.set x y)) := by
  rw [← fcells_set]; exact h.set_ x _
set_option maxRecDepth 100000 in
set_option maxHeartbeats 2000000 in
theorem tjoin_any (g : Nat) (ps : List (Nat × Nat)) (f : List Nat) (hf : FR ps f) (a b : Nat) (ha : a < 12) (hb : b < 12) (w : World) (h : Blk w g 76 (fcells f)) :
    Calls Try.prog 61 #[.pointer (some ⟨g, 0, none⟩), .agg #[.int .i64 a, .int .i64 b]] w fun e w' => e = .returned (.bool (!decide (Cn ps a b))) ∧ ∃ f', Hid (FR (ps ++ [(a, b)]) f') ∧ Blk w' g 76 (fcells f') ∧ Only (fun k => k = g) w w' := by
  obtain ⟨r, hh, k⟩ := hf
  have HK := Lib.hid k
  have l1 := (k.root a ha).1
  have l2 := (k.root b hb).1
  have HS := Lib.hid (k.same a b ha hb)
  have HF := Lib.hid (k.snoc ha hb)
  have hb0 := h.alloc (.cells #[.int .i64 a, .int .i64 b] 31)
  have hne : g ≠ w.heap.size := by have := h.lt; omega
  have q0 := Blk.new w 31 #[.int .i64 a, .int .i64 b]
  have R1 := Lib.hid (fun W hW => troot_any g ps f r hh k a ha W hW)
  have R2 := Lib.hid (fun W hW => troot_any g ps f r hh k b hb W hW)
  obtain ⟨x, hx⟩ : ∃ x, r a = x := ⟨_, rfl⟩
  obtain ⟨y, hy⟩ : ∃ y, r b = y := ⟨_, rfl⟩
  rw [hx] at R1 l1 HS HF
  rw [hy] at R2 l2 HS HF
  have k1 : (x : Int) < 12 := by omega
  have F1 := hb0.frozen x
  have C1 := hb0.cell x
  rw [fcells_get (by rw [HK.out.len]; omega)] at C1
  have c0 := q0.cell 0
  have c1 := q0.cell 1
  have ho : Only (fun k => k = g) w (w.alloc (.cells #[.int .i64 a, .int .i64 b] 31)) := (Only.refl _ w).alloc _
  obtain ⟨W0, hW0⟩ : ∃ W0, w.alloc (.cells #[.int .i64 a, .int .i64 b] 31) = W0 := ⟨_, rfl⟩
  rw [hW0] at hb0 F1 C1 c0 c1 ho
  have HW0 := Lib.hid hW0
  clear hx hy k h q0 hW0
  go_enter Try.func61, Try.ntmps61
  go_wp2_with fail
  rw [HW0.out]
  have hD := hb0.drew
  go_region_held3 (fun W => W.cell? ⟨w.heap.size, 0, none⟩ = some (.int .i64 a) ∧ W.cell? ⟨w.heap.size, 1, none⟩ = some (.int .i64 b)) (go_keep) (first
    | (go_at_call 62; (with_reducible refine (R1.out _ (by exact hD)).mono ?_); rintro e w5 ⟨rfl, rfl⟩)
    | (go_at_call 62; (with_reducible refine (R2.out _ (by exact hD)).mono ?_); rintro e w5 ⟨rfl, rfl⟩))
  have hS := h_set_fcells hD x y
  have hO : Only (fun k => k = g) w (W0.drew.setCell ⟨g, x, none⟩ (.int .i64 (y : Nat))) := (ho.drew).setCell (.inl rfl) _
  have hbq : ((x : Int) != (y : Int)) = !decide (Cn ps a b) := by
    by_cases hxy : x = y
    · rw [decide_eq_true (HS.out.1 hxy), hxy]; simp
    · rw [decide_eq_false (fun hc => hxy (HS.out.2 hc)), bne_iff_ne.2 (by omega)]; rfl
  have HB := Lib.hid hbq
  have HSS := Lib.hid hS
  have HOO := Lib.hid hO
  clear hbq hS hO
  go_wp2
  go_ret
  exact ⟨ret_bool HB.out, _, HF, HSS.out, HOO.out⟩
def looseTo (k : Nat) : List Nat := (List.range 12).map fun i => if i < k then i else 0
theorem looseTo_succ {k : Nat} (h : k < 12) : (looseTo k).set k k = looseTo (k + 1) := by
  have : ∀ k, k < 12 → (looseTo k).set k k = looseTo (k + 1) := by decide
  exact this k h
theorem looseTo_length (k : Nat) : (looseTo k).length = 12 := by simp [looseTo]
set_option maxRecDepth 100000 in
set_option maxHeartbeats 1000000 in
theorem loose_any (w : World) :
    Calls Try.prog 59 #[] w fun e w' => e = .returned (.agg #[.int .i64 0, .int .i64 1, .int .i64 2, .int .i64 3, .int .i64 4, .int .i64 5, .int .i64 6, .int .i64 7, .int .i64 8, .int .i64 9, .int .i64 10, .int .i64 11]) ∧ Below w.heap.size w w' := by
  go_enter Try.func59, Try.ntmps59
  go_wp2
  go_loopw [2, 3] (fun _ i wr => ∃ k : Nat, k ≤ 12 ∧ i = .int .i64 k ∧ Below w.heap.size w wr ∧ Blk wr (w.heap.size + 1) 76 (fcells (looseTo k)) ∧ Blk wr w.heap.size 76 (fcells (looseTo 0))) (fun _ i _ => 12 - (intOf i).toNat)
  case atStart =>
    refine ⟨0, by omega, rfl, ((Below.refl _ _).alloc (Nat.le_refl _) _).alloc (by simp) _, ?_, (Blk.new w 76 (fcells (looseTo 0))).alloc _⟩
    have := Blk.new (w.alloc (.cells (fcells (looseTo 0)) 76)) 76 (fcells (looseTo 0))
    rw [show (w.alloc (.cells (fcells (looseTo 0)) 76)).heap.size = w.heap.size + 1 from by simp] at this
    exact this
  case round =>
    obtain ⟨k, hk, rfl, hbel, g1, g0⟩ := hrel
    by_cases hlt : k < 12
    · have hi : (k : Int) < 12 := by omega
      have f1 := g1.frozen k
      have c1 := g1.cell k
      rw [fcells_get (by rw [looseTo_length]; omega)] at c1
      go_wp2
      go_roundw
      case rel =>
        refine ⟨k + 1, by omega, by go_num, hbel.setCell (by simp) _, ?_, g0.far (by simp) _⟩
        have := g1.set_ k (.int .i64 (k : Nat))
        rwa [fcells_set, looseTo_succ hlt] at this
      case measure => simp [intOf]; omega
    · obtain rfl : k = 12 := by omega
      have e : fcells (looseTo 12) = #[.int .i64 0, .int .i64 1, .int .i64 2, .int .i64 3, .int .i64 4, .int .i64 5, .int .i64 6, .int .i64 7, .int .i64 8, .int .i64 9, .int .i64 10, .int .i64 11] := rfl
      have e0 : fcells (looseTo 0) = #[.int .i64 0, .int .i64 0, .int .i64 0, .int .i64 0, .int .i64 0, .int .i64 0, .int .i64 0, .int .i64 0, .int .i64 0, .int .i64 0, .int .i64 0, .int .i64 0] := rfl
      rw [e] at g1
      rw [e0] at g0
      clear e e0
      have c0 := g1.cell 0
      have z0 := g0.frozen 0
      have y0 := g0.cell 0
      have c1 := g1.cell 1
      have z1 := g0.frozen 1
      have y1 := g0.cell 1
      have c2 := g1.cell 2
      have z2 := g0.frozen 2
      have y2 := g0.cell 2
      have c3 := g1.cell 3
      have z3 := g0.frozen 3
      have y3 := g0.cell 3
      have c4 := g1.cell 4
      have z4 := g0.frozen 4
      have y4 := g0.cell 4
      have c5 := g1.cell 5
      have z5 := g0.frozen 5
      have y5 := g0.cell 5
      have c6 := g1.cell 6
      have z6 := g0.frozen 6
      have y6 := g0.cell 6
      have c7 := g1.cell 7
      have z7 := g0.frozen 7
      have y7 := g0.cell 7
      have c8 := g1.cell 8
      have z8 := g0.frozen 8
      have y8 := g0.cell 8
      have c9 := g1.cell 9
      have z9 := g0.frozen 9
      have y9 := g0.cell 9
      have c10 := g1.cell 10
      have z10 := g0.frozen 10
      have y10 := g0.cell 10
      have c11 := g1.cell 11
      have z11 := g0.frozen 11
      have y11 := g0.cell 11
      go_wp2
      have G := ((((((((((((g0.set_ 0 (.int .i64 0)).set_ 1 (.int .i64 1)).set_ 2 (.int .i64 2)).set_ 3 (.int .i64 3)).set_ 4 (.int .i64 4)).set_ 5 (.int .i64 5)).set_ 6 (.int .i64 6)).set_ 7 (.int .i64 7)).set_ 8 (.int .i64 8)).set_ 9 (.int .i64 9)).set_ 10 (.int .i64 10)).set_ 11 (.int .i64 11))
      simp only [List.setIfInBounds_toArray, List.set_cons_zero, List.set_cons_succ] at G
      exact bodyPost_ret (results_cell_row rfl _ _ w.heap.size _ (fcells (List.range 12)) _ _ rfl G Try.underlying76 rfl (by kernel_rfl)) rfl ⟨rfl, ((((((((((((hbel.setCell (p := ⟨w.heap.size, 0, none⟩) (Nat.le_refl _) _).setCell (p := ⟨w.heap.size, 1, none⟩) (Nat.le_refl _) _).setCell (p := ⟨w.heap.size, 2, none⟩) (Nat.le_refl _) _).setCell (p := ⟨w.heap.size, 3, none⟩) (Nat.le_refl _) _).setCell (p := ⟨w.heap.size, 4, none⟩) (Nat.le_refl _) _).setCell (p := ⟨w.heap.size, 5, none⟩) (Nat.le_refl _) _).setCell (p := ⟨w.heap.size, 6, none⟩) (Nat.le_refl _) _).setCell (p := ⟨w.heap.size, 7, none⟩) (Nat.le_refl _) _).setCell (p := ⟨w.heap.size, 8, none⟩) (Nat.le_refl _) _).setCell (p := ⟨w.heap.size, 9, none⟩) (Nat.le_refl _) _).setCell (p := ⟨w.heap.size, 10, none⟩) (Nat.le_refl _) _).setCell (p := ⟨w.heap.size, 11, none⟩) (Nat.le_refl _) _)⟩
end Go.Proofs.Ytepmfbgmkfkmkaa

/-! Slices of ints that a call makes itself: what they are, and the append of one element. -/
namespace Go.Proofs.Ytepmfbgmkfkmkaa
open Go.RowKit

theorem info_int : (Try.prog.info? 3).map (fun i => (i.zero, i.size, i.bytes)) = some (some (.int .i64 0), 1, 8) := by kernel_rfl

/-- The slice value (A, length of xs, c) is the call's own: nil, or a row of a block from base on that no one else holds. -/
def OwnI (w : World) (base : Nat) (A : Option Addr) (c : Nat) (xs : List Int) : Prop := w.ownsRow base 3 1 (.slice A xs.length c) xs.length (ints xs)

section
variable {w w' : World} {base : Nat} {A : Option Addr} {c : Nat} {xs : List Int}
theorem OwnI.nil_ (w : World) (base : Nat) : OwnI w base none 0 [] := World.ownsRow_nil _ _ _ _
theorem OwnI.reads (h : OwnI w base A c xs) : Reads w w.heap.size 1 A xs.length (ints xs) := Reads.of_own h
theorem OwnI.drew (h : OwnI w base A c xs) : OwnI w.drew base A c xs := World.ownsRow.drew h
theorem OwnI.drewN (h : OwnI w base A c xs) (n : Nat) : OwnI (w.drewN n) base A c xs := h
theorem OwnI.alloc (h : OwnI w base A c xs) (o : Obj) : OwnI (w.alloc o) base A c xs := World.ownsRow.alloc h o
theorem OwnI.lt (h : OwnI w base A c xs) : ∀ k, (Value.slice A xs.length c).ownBlock = some k → base ≤ k ∧ k < w.heap.size := World.ownsRow.lt h
theorem OwnI.below {B : Nat} (h : OwnI w base A c xs) (hb : Below B w w') (hB : ∀ k, (Value.slice A xs.length c).ownBlock = some k → k < B) : OwnI w' base A c xs := by
  obtain ⟨h1, h2⟩ := h
  refine ⟨h1, ?_⟩
  rcases h2 with h2 | ⟨g, cap, cur, hv, hg, hh, r⟩
  · exact .inl h2
  · exact .inr ⟨g, cap, cur, hv, hg, (hb.block g (hB g (by rw [hv]; rfl))).trans hh, r⟩
theorem OwnI.next (h : OwnI w base A c xs) (hb : Below w.heap.size w w') : OwnI w' base A c xs := h.below hb fun k hk => (h.lt k hk).2
theorem OwnI.mono {base' : Nat} (h : OwnI w base A c xs) (hb : base' ≤ base) : OwnI w base' A c xs := by
  obtain ⟨h1, h2⟩ := h
  refine ⟨h1, ?_⟩
  rcases h2 with h2 | ⟨g, cap, cur, hv, hg, r⟩
  · exact .inl h2
  · exact .inr ⟨g, cap, cur, hv, by omega, r⟩
theorem OwnI.far (h : OwnI w base A c xs) {p : Addr} (hp : p.block < base) (u : Value) : OwnI (w.setCell p u) base A c xs := ownsRow_setCell_below h hp u
/-- A store into a block of another element type leaves it. -/
theorem OwnI.set_blk {g : Nat} {t : TypeId} {cs : Array Value} (h : OwnI w base A c xs) (hg : Blk w g t cs) (ht : 3 ≠ t) (o : Nat) (u : Value) : OwnI (w.setCell ⟨g, o, none⟩ u) base A c xs := by
  have hne := own_blk_ne h hg ht
  obtain ⟨h1, h2⟩ := h
  refine ⟨h1, ?_⟩
  rcases h2 with h2 | ⟨g', cap, cur, hv, hg', hh, r⟩
  · exact .inl h2
  · refine .inr ⟨g', cap, cur, hv, hg', (Below.heap_setCell w ⟨g, o, none⟩ u g' ?_).trans hh, r⟩
    rintro rfl
    exact hne (by rw [hv]; rfl)
end

/-! append: the destination is the call's own; the source is whatever reads as a list. -/
section
variable {P : Program} {F : Fence} {m0 : Nat}
theorem run_append_nil (w : World) (base : Nat) (t ty e : TypeId) (i : TypeInfo) (size : Nat) (ht : P.underlying t = some (.slice e)) (hi : P.info? e = some i)
    (v : Value) (n : Nat) (xs : List Value) (hown : w.ownsRow base e size v n xs) (c : Nat) : (Builtin.append_ #[t, t] ty #[v, .slice none 0 c]).run P w = .ok v w := by
  rcases hown.2 with ⟨rfl, rfl⟩ | ⟨g, cap, cur, rfl, _, _, hnc, _⟩
  · simp [Builtin.append_, run_underlying ht, sizeOf, typeInfo, hi, Builtin.lenOf, Builtin.firstCells]
  · simp [Builtin.append_, run_underlying ht, sizeOf, typeInfo, hi, Builtin.lenOf, Builtin.firstCells, hnc, storeCells]

/-- What append comes to: elements of 'size' cells. -/
theorem run_append_reads (w : World) (base : Nat) (t ty e : TypeId) {z : Value} {size bytes : Nat} (ht : P.underlying t = some (.slice e)) (hinfo : (P.info? e).map (fun i => (i.zero, i.size, i.bytes)) = some (some z, size, bytes)) (hzs : z.cells.size = size) (hby : 0 < size ∧ bytes ≤ 64)
    (A0 : Option Addr) (c0 n : Nat) (xs : List Value) (hown : w.ownsRow base e size (.slice A0 n c0) n xs)
    (B : Nat) (A : Option Addr) (m c : Nat) (news : List Value) (hr : Reads w B size A m news) (h1 : ∀ u ∈ news, u.oneCell' = true) (hn : n + m ≤ 1048576) (hbase : base ≤ w.heap.size) :
    ∃ A' c' w', (Builtin.append_ #[t, t] ty #[.slice A0 n c0, .slice A m c]).run P w = .ok (.slice A' (n + m) c') w' ∧ w'.ownsRow base e size (.slice A' (n + m) c') (n + m) (xs ++ news) ∧ w.grownBy w' (Value.slice A0 n c0).ownBlock ∧ Below base w w' ∧
      ((Value.slice A' (n + m) c').ownBlock = (Value.slice A0 n c0).ownBlock ∨ (Value.slice A' (n + m) c').ownBlock = some w.heap.size) := by
  obtain ⟨i0, hi, hz0, hz1, hz2⟩ := info_parts hinfo
  have hmn : m = 0 → news = [] := fun h => List.eq_nil_of_length_eq_zero (by have := hr.1; rw [h, Nat.zero_mul] at this; exact this)
  rcases A with _ | ad
  · have hm : m = 0 := by
      rcases Nat.eq_zero_or_pos m with h0 | h0
      · exact h0
      · obtain ⟨_, _, h, _⟩ := hr.2 h0
        cases h
    subst hm
    rw [hmn rfl, List.append_nil]
    exact ⟨A0, c0, w, run_append_nil w base t ty e i0 size ht hi _ n xs hown c, hown, World.grownBy.refl w _, Below.refl _ _, .inl rfl⟩
  · have hcells : ∀ j u, news[j]? = some u → w.cell? (ad.add j) = some u := by
      intro j u hu
      rcases Nat.eq_zero_or_pos m with h0 | h0
      · rw [hmn h0] at hu; simp at hu
      · obtain ⟨b, off, h, _, hc⟩ := hr.2 h0
        injection h with h
        subst h
        have := hc j u hu
        by_cases hj : j = 0
        · subst hj; simpa [Addr.add] using this
        · simpa [Addr.add, hj] using this
    obtain ⟨v', w', hrun, h2, h3, _, h5⟩ := run_append_own_at (P := P) w base t ty e i0 z size bytes ht hi hz0 hz1 hz2 hzs hby.1 _ n xs hown ad m c news hr.1 hcells h1 (by simp only [maxLen]; omega)
      (Nat.le_trans (Nat.mul_le_mul hn hby.2) (by omega)) hbase
    have hB : Below base w w' := (Below.refl base w).grown h3 hbase (fun k hk => (hown.lt k hk).1)
    rcases h2.2 with ⟨hv, h0⟩ | ⟨g, cap, cur, hv, _⟩
    · subst hv
      rw [h0] at h2 ⊢
      exact ⟨none, 0, w', hrun, h2, h3, hB, h5⟩
    · subst hv
      exact ⟨some ⟨g, 0, none⟩, cap, w', hrun, h2, h3, hB, h5⟩

theorem append_go {ops : Array Oper} {rest : List Oper} {o : Oper} {a : Act} {Q : Exit → Act → World → Prop} {w : World} (hgd : o.guard = none) (s x : Operand) (t : TypeId)
    (ho : o.op = .call { callee := .builtin .append, args := #[s, x], argTypes := #[t, t] })
    (base : Nat) (e : TypeId) {z : Value} {size bytes : Nat} (ht : P.underlying t = some (.slice e)) (hinfo : (P.info? e).map (fun i => (i.zero, i.size, i.bytes)) = some (some z, size, bytes)) (hzs : z.cells.size = size) (hby : 0 < size ∧ bytes ≤ 64)
    (A0 : Option Addr) (c0 n : Nat) (xs : List Value) (hs : a.eval s = .slice A0 n c0) (hown : w.ownsRow base e size (.slice A0 n c0) n xs)
    (B : Nat) {A : Option Addr} {m c : Nat} (news : List Value) (hx : a.eval x = .slice A m c) (hr : Reads w B size A m news) (h1 : ∀ u ∈ news, u.oneCell' = true) (hn : n + m ≤ 1048576) (hbase : base ≤ w.heap.size)
    (h : ∀ A' c' w', w'.ownsRow base e size (.slice A' (n + m) c') (n + m) (xs ++ news) → w.grownBy w' (Value.slice A0 n c0).ownBlock → Below base w w' →
      ((Value.slice A' (n + m) c').ownBlock = (Value.slice A0 n c0).ownBlock ∨ (Value.slice A' (n + m) c').ownBlock = some w.heap.size) → wpList P ops Q rest (a.put o.dst (.slice A' (n + m) c')) w') :
    wpList P ops Q (o :: rest) a w := by
  obtain ⟨A', c', w', hrun, h2, h3, h4, h5⟩ := run_append_reads (P := P) w base t o.type e ht hinfo hzs hby A0 c0 n xs hown B A m c news hr h1 hn hbase
  refine wpList_plain hgd fun K hK => ?_
  unfold Oper.wp execOp
  simp only [ho, resolve, invoke, builtin, Sem.run_bind, Sem.run_pure, Result.andThen_ok, List.map_toArray, List.map_cons, List.map_nil, hs, hx, hrun]
  exact hK _ _ (h A' c' w' h2 h3 h4 h5)

theorem append_gi {ops : Array Oper} {rest : List Oper} {o : Oper} {a : Act} {Q : Exit → Act → World → Prop} {w : World} (hgd : o.guard = none) (s x : Operand) (t : TypeId)
    (ho : o.op = .call { callee := .builtin .append, args := #[s, x], argTypes := #[t, t] })
    (base : Nat) (e : TypeId) {z : Value} {size bytes : Nat} (ht : P.underlying t = some (.slice e)) (hinfo : (P.info? e).map (fun i => (i.zero, i.size, i.bytes)) = some (some z, size, bytes)) (hzs : z.cells.size = size) (hby : 0 < size ∧ bytes ≤ 64)
    (A0 : Option Addr) (c0 n : Nat) (xs : List Value) (hs : a.eval s = .slice A0 n c0) (hown : w.ownsRow base e size (.slice A0 n c0) n xs)
    (B : Nat) {A : Option Addr} {m c : Nat} (news : List Value) (hx : a.eval x = .slice A m c) (hr : Reads w B size A m news) (h1 : ∀ u ∈ news, u.oneCell' = true) (hn : n + m ≤ 1048576) (hbase : base ≤ w.heap.size)
    (h : ∀ A' c' w', w'.ownsRow base e size (.slice A' (n + m) c') (n + m) (xs ++ news) → w.grownBy w' (Value.slice A0 n c0).ownBlock → Below base w w' →
      ((Value.slice A' (n + m) c').ownBlock = (Value.slice A0 n c0).ownBlock ∨ (Value.slice A' (n + m) c').ownBlock = some w.heap.size) → wpListIn F m0 P ops Q rest (a.put o.dst (.slice A' (n + m) c')) w') :
    wpListIn F m0 P ops Q (o :: rest) a w := by
  obtain ⟨A', c', w', hrun, h2, h3, h4, h5⟩ := run_append_reads (P := P) w base t o.type e ht hinfo hzs hby A0 c0 n xs hown B A m c news hr h1 hn hbase
  refine wpListIn_plain hgd fun K hK => ?_
  unfold Oper.wpIn
  refine ⟨?_, ?_⟩
  · simp [Oper.about, ho, resolve, Target.leads, Sem.run_pure]
  · rw [Oper.semAt_plain F _ _ (by rw [ho]; intro c hc'; cases hc')]
    simp [execOp, ho, resolve, invoke, builtin, hs, hx, hrun, Result.andThen]
    exact hK _ _ (h A' c' w' h2 h3 h4 h5)
end

/-- The source's own type plays no part. -/
theorem append_type2 {P : Program} (t t2 ty e e2 : TypeId) (ht : P.underlying t = some (.slice e)) (ht2 : P.underlying t2 = some (.slice e2)) (args : Array Value) (w : World) :
    (Builtin.append_ #[t, t2] ty args).run P w = (Builtin.append_ #[t, t] ty args).run P w := by
  unfold Builtin.append_
  rcases h0 : args[0]? with _ | s
  · simp
  · rcases h1 : args[1]? with _ | x
    · simp
    · cases s <;> simp [Sem.run_bind, run_underlying ht, run_underlying ht2, Result.andThen]
theorem append_step2 {P : Program} {ops : Array Oper} {o : Oper} {a : Act} {K : Act → World → Prop} {Q : Exit → Act → World → Prop} {E : Prop} {w : World} (hgd : o.guard = none) (s x : Operand) (t t2 : TypeId)
    (ho : o.op = .call { callee := .builtin .append, args := #[s, x], argTypes := #[t, t2] })
    (base : Nat) (e e2 : TypeId) {z : Value} {size bytes : Nat} (ht : P.underlying t = some (.slice e)) (ht2 : P.underlying t2 = some (.slice e2)) (hinfo : (P.info? e).map (fun i => (i.zero, i.size, i.bytes)) = some (some z, size, bytes)) (hzs : z.cells.size = size) (hby : 0 < size ∧ bytes ≤ 64)
    (A0 : Option Addr) (c0 n : Nat) (xs : List Value) (hs : a.eval s = .slice A0 n c0) (hown : w.ownsRow base e size (.slice A0 n c0) n xs)
    (B : Nat) {A : Option Addr} {m c : Nat} (news : List Value) (hx : a.eval x = .slice A m c) (hr : Reads w B size A m news) (h1 : ∀ u ∈ news, u.oneCell' = true) (hn : n + m ≤ 1048576) (hbase : base ≤ w.heap.size)
    (h : ∀ A' c' w', w'.ownsRow base e size (.slice A' (n + m) c') (n + m) (xs ++ news) → w.grownBy w' (Value.slice A0 n c0).ownBlock → Below base w w' →
      ((Value.slice A' (n + m) c').ownBlock = (Value.slice A0 n c0).ownBlock ∨ (Value.slice A' (n + m) c').ownBlock = some w.heap.size) → K (a.put o.dst (.slice A' (n + m) c')) w') :
    if Region.wanted o (yielded ops a.tmps) = true then Oper.wp P o a w K Q else E := by
  have hw : Region.wanted o (yielded ops a.tmps) = true := by simp [Region.wanted, hgd]
  rw [if_pos hw]
  obtain ⟨A', c', w', hrun, h2, h3, h4, h5⟩ := run_append_reads (P := P) w base t o.type e ht hinfo hzs hby A0 c0 n xs hown B A m c news hr h1 hn hbase
  rw [← append_type2 t t2 o.type e e2 ht ht2] at hrun
  unfold Oper.wp execOp
  simp only [ho, resolve, invoke, builtin, Sem.run_bind, Sem.run_pure, Result.andThen_ok, List.map_toArray, List.map_cons, List.map_nil, hs, hx, hrun]
  exact h A' c' w' h2 h3 h4 h5
theorem append_go2 {P : Program} {ops : Array Oper} {rest : List Oper} {o : Oper} {a : Act} {Q : Exit → Act → World → Prop} {w : World} (hgd : o.guard = none) (s x : Operand) (t t2 : TypeId)
    (ho : o.op = .call { callee := .builtin .append, args := #[s, x], argTypes := #[t, t2] })
    (base : Nat) (e e2 : TypeId) {z : Value} {size bytes : Nat} (ht : P.underlying t = some (.slice e)) (ht2 : P.underlying t2 = some (.slice e2)) (hinfo : (P.info? e).map (fun i => (i.zero, i.size, i.bytes)) = some (some z, size, bytes)) (hzs : z.cells.size = size) (hby : 0 < size ∧ bytes ≤ 64)
    (A0 : Option Addr) (c0 n : Nat) (xs : List Value) (hs : a.eval s = .slice A0 n c0) (hown : w.ownsRow base e size (.slice A0 n c0) n xs)
    (B : Nat) {A : Option Addr} {m c : Nat} (news : List Value) (hx : a.eval x = .slice A m c) (hr : Reads w B size A m news) (h1 : ∀ u ∈ news, u.oneCell' = true) (hn : n + m ≤ 1048576) (hbase : base ≤ w.heap.size)
    (h : ∀ A' c' w', w'.ownsRow base e size (.slice A' (n + m) c') (n + m) (xs ++ news) → w.grownBy w' (Value.slice A0 n c0).ownBlock → Below base w w' →
      ((Value.slice A' (n + m) c').ownBlock = (Value.slice A0 n c0).ownBlock ∨ (Value.slice A' (n + m) c').ownBlock = some w.heap.size) → wpList P ops Q rest (a.put o.dst (.slice A' (n + m) c')) w') :
    wpList P ops Q (o :: rest) a w := by
  obtain ⟨A', c', w', hrun, h2, h3, h4, h5⟩ := run_append_reads (P := P) w base t o.type e ht hinfo hzs hby A0 c0 n xs hown B A m c news hr h1 hn hbase
  rw [← append_type2 t t2 o.type e e2 ht ht2] at hrun
  refine wpList_plain hgd fun K hK => ?_
  unfold Oper.wp execOp
  simp only [ho, resolve, invoke, builtin, Sem.run_bind, Sem.run_pure, Result.andThen_ok, List.map_toArray, List.map_cons, List.map_nil, hs, hx, hrun]
  exact hK _ _ (h A' c' w' h2 h3 h4 h5)

/-- The box of one new element reads as a list of one. -/
theorem Reads.box (w : World) (u : Value) (e : TypeId) : Reads (w.alloc (.cells #[u] e)) (w.heap.size + 1) 1 (some ⟨w.heap.size, 0, none⟩) 1 [u] :=
  ⟨rfl, fun _ => ⟨w.heap.size, 0, rfl, by omega, fun j v hv => by
    have hj : j = 0 := by
      rcases Nat.eq_zero_or_pos j with h | h
      · exact h
      · rw [List.getElem?_eq_none (by simp; omega)] at hv; cases hv
    subst hj
    have : u = v := by simpa using hv
    subst this
    exact (Blk.new w e #[u]).cell 0⟩⟩

/-- .. and one of several cells. -/
theorem Reads.boxN (w : World) (cs : Array Value) (e : TypeId) : Reads (w.alloc (.cells cs e)) (w.heap.size + 1) cs.size (some ⟨w.heap.size, 0, none⟩) 1 cs.toList :=
  ⟨by simp, fun _ => ⟨w.heap.size, 0, rfl, by omega, fun j v hv => by
    rw [Nat.zero_add, (Blk.new w e cs).cell j]
    simpa using hv⟩⟩
/-- 'append(xs, x)': behind the box of the one new element. -/
theorem push_int {ops : Array Oper} {rest : List Oper} {o : Oper} {a : Act} {Q : Exit → Act → World → Prop} {w : World} (hgd : o.guard = none) (s x : Operand) (t : TypeId)
    (ho : o.op = .call { callee := .builtin .append, args := #[s, x], argTypes := #[t, t] }) (ht : Try.prog.underlying t = some (.slice 3))
    (base : Nat) (A : Option Addr) (c : Nat) (xs : List Int) (y : Int) (hs : a.eval s = .slice A xs.length c) (hown : OwnI w base A c xs)
    {g : Nat} (hx : a.eval x = .slice (some ⟨g, 0, none⟩) 1 1) (hgw : g = w.heap.size) (hn : xs.length ≤ 1048000) (hbase : base ≤ w.heap.size)
    (h : ∀ A' c' w', OwnI w' base A' c' (xs ++ [y]) → (w.alloc (.cells #[.int .i64 y] 3)).grownBy w' (Value.slice A xs.length c).ownBlock → Below base w w' →
      wpList Try.prog ops Q rest (a.put o.dst (.slice A' (xs.length + 1) c')) w') :
    wpList Try.prog ops Q (o :: rest) a (w.alloc (.cells #[.int .i64 y] 3)) := by
  subst hgw
  refine append_go hgd s x t ho base 3 ht info_int rfl (by omega) A c xs.length (ints xs) hs (World.ownsRow.alloc hown _) _ [.int .i64 y] hx (Reads.box _ _ _) (by simp [Value.oneCell']) (by omega) (by simp; omega) ?_
  intro A' c' w' hown' hg hB _
  exact h A' c' w' (by unfold OwnI; rw [List.length_append, ints_snoc]; exact hown') hg (((Below.refl base w).alloc hbase _).trans hB)
theorem push_int_in {F : Fence} {m0 : Nat} {ops : Array Oper} {rest : List Oper} {o : Oper} {a : Act} {Q : Exit → Act → World → Prop} {w : World} (hgd : o.guard = none) (s x : Operand) (t : TypeId)
    (ho : o.op = .call { callee := .builtin .append, args := #[s, x], argTypes := #[t, t] }) (ht : Try.prog.underlying t = some (.slice 3))
    (base : Nat) (A : Option Addr) (c : Nat) (xs : List Int) (y : Int) (hs : a.eval s = .slice A xs.length c) (hown : OwnI w base A c xs)
    {g : Nat} (hx : a.eval x = .slice (some ⟨g, 0, none⟩) 1 1) (hgw : g = w.heap.size) (hn : xs.length ≤ 1048000) (hbase : base ≤ w.heap.size)
    (h : ∀ A' c' w', OwnI w' base A' c' (xs ++ [y]) → (w.alloc (.cells #[.int .i64 y] 3)).grownBy w' (Value.slice A xs.length c).ownBlock → Below base w w' →
      wpListIn F m0 Try.prog ops Q rest (a.put o.dst (.slice A' (xs.length + 1) c')) w') :
    wpListIn F m0 Try.prog ops Q (o :: rest) a (w.alloc (.cells #[.int .i64 y] 3)) := by
  subst hgw
  refine append_gi hgd s x t ho base 3 ht info_int rfl (by omega) A c xs.length (ints xs) hs (World.ownsRow.alloc hown _) _ [.int .i64 y] hx (Reads.box _ _ _) (by simp [Value.oneCell']) (by omega) (by simp; omega) ?_
  intro A' c' w' hown' hg hB _
  exact h A' c' w' (by unfold OwnI; rw [List.length_append, ints_snoc]; exact hown') hg (((Below.refl base w).alloc hbase _).trans hB)

/-! Making slices. -/
theorem made_bools (n : Nat) : madeCells #[.bool false] n = bools (List.replicate n false) := by
  apply Array.toList_inj.1
  rw [toList_madeCells_one]
  simp [bools]
theorem made_ints (n : Nat) : madeCells #[.int .i64 0] n = (ints (List.replicate n 0)).toArray := by
  apply Array.toList_inj.1
  rw [toList_madeCells_one]
  simp [ints]
theorem info_bool : (Try.prog.info? 4).map (fun i => (i.zero, i.size, i.bytes)) = some (some (.bool false), 1, 1) := by kernel_rfl
theorem make_bools (n : Nat) (hn : n ≤ 1048576) (W : World) : (Instr.makeSlice 102 (.int .i64 (n : Int)) (.int .i64 (n : Int))).run Try.prog W =
    .ok (.slice (some ⟨W.heap.size, 0, none⟩) n n) (W.alloc (.cells (bools (List.replicate n false)) 4)) := by
  obtain ⟨i0, hi, hz0, hz1, hz2⟩ := info_parts info_bool
  have hr := run_make (P := Try.prog) W 102 4 i0 (.bool false) Try.underlying102 hi hz0 .i64 .i64 n n (by omega) (Int.le_refl _) (by rw [hz2]; omega) (by omega)
  simp only [Int.toNat_natCast, hz1, Nat.mul_one] at hr
  rw [hr, show (Value.bool false).cells = #[.bool false] from rfl, made_bools]
theorem make_ints (n : Nat) (hn : n ≤ 1048576) (W : World) : (Instr.makeSlice 25 (.int .i64 (n : Int)) (.int .i64 (n : Int))).run Try.prog W =
    .ok (.slice (some ⟨W.heap.size, 0, none⟩) n n) (W.alloc (.cells (ints (List.replicate n 0)).toArray 3)) := by
  obtain ⟨i0, hi, hz0, hz1, hz2⟩ := info_parts info_int
  have hr := run_make (P := Try.prog) W 25 3 i0 (.int .i64 0) Try.underlying25 hi hz0 .i64 .i64 n n (by omega) (Int.le_refl _) (by rw [hz2]; omega) (by omega)
  simp only [Int.toNat_natCast, hz1, Nat.mul_one] at hr
  rw [hr, show (Value.int .i64 0).cells = #[.int .i64 0] from rfl, made_ints]
end Go.Proofs.Ytepmfbgmkfkmkaa

