/-
  Graphs: slices of edges (three cells each) and of pairs (two cells each); the reference's equality of graphs.
-/
import Derived.Test.YtjeggocindcgaaaOwn
import Derived.Test.YtjeggocindcgaaaRows2
import Derived.Deep.QuietTactic
import Derived.BigQuiet
namespace Go.Proofs.Ytjeggocindcgaaa
open Go.RowKit

/-- An edge: its ends, and how often. -/
abbrev E3 := Int × Int × Int
def edgeVal (e : E3) : Value := .agg #[.int .i64 e.1, .int .i64 e.2.1, .int .i64 e.2.2]
def edgeCells : List E3 → List Value
  | [] => []
  | e :: es => .int .i64 e.1 :: .int .i64 e.2.1 :: .int .i64 e.2.2 :: edgeCells es
theorem edgeCells_length (es : List E3) : (edgeCells es).length = es.length * 3 := by
  induction es with
  | nil => rfl
  | cons e es ih => simp [edgeCells, ih]; omega
theorem edgeCells_append (es fs : List E3) : edgeCells (es ++ fs) = edgeCells es ++ edgeCells fs := by
  induction es with
  | nil => rfl
  | cons e es ih => simp [edgeCells, ih]
theorem edgeCells_at {es : List E3} {k : Nat} {e : E3} (h : es[k]? = some e) :
    (edgeCells es)[k * 3]? = some (.int .i64 e.1) ∧ (edgeCells es)[k * 3 + 1]? = some (.int .i64 e.2.1) ∧ (edgeCells es)[k * 3 + 2]? = some (.int .i64 e.2.2) := by
  induction es generalizing k with
  | nil => simp at h
  | cons f es ih =>
    rcases k with _ | k
    · simp at h; subst h; simp [edgeCells]
    · have := ih (k := k) (by simpa using h)
      rw [show (k + 1) * 3 = k * 3 + 1 + 1 + 1 from by omega, show k * 3 + 1 + 1 + 1 + 1 = (k * 3 + 1) + 1 + 1 + 1 from by omega, show k * 3 + 1 + 1 + 1 + 2 = (k * 3 + 2) + 1 + 1 + 1 from by omega]
      simpa [edgeCells] using this
theorem edgeCells_one {es : List E3} : ∀ u ∈ edgeCells es, u.oneCell' = true := by
  induction es with
  | nil => simp [edgeCells]
  | cons e es ih =>
    intro u hu
    simp only [edgeCells, List.mem_cons] at hu
    rcases hu with rfl | rfl | rfl | hu
    · rfl
    · rfl
    · rfl
    · exact ih u hu
theorem Reads.edge {w : World} {B n : Nat} {A : Option Addr} {es : List E3} {k : Nat} {e : E3} (h : Reads w B 3 A n (edgeCells es)) (he : es[k]? = some e) :
    ∃ b off, A = some ⟨b, off, none⟩ ∧ b < B ∧ w.cell? ⟨b, off + k * 3, none⟩ = some (.int .i64 e.1) ∧ w.cell? ⟨b, off + k * 3 + 1, none⟩ = some (.int .i64 e.2.1) ∧ w.cell? ⟨b, off + k * 3 + 1 + 1, none⟩ = some (.int .i64 e.2.2) := by
  have hk : k < es.length := (List.getElem?_eq_some_iff.1 he).1
  have hl := h.1
  rw [edgeCells_length] at hl
  obtain ⟨b, off, hA, hb, hc⟩ := h.2 (by omega)
  obtain ⟨h1, h2, h3⟩ := edgeCells_at he
  exact ⟨b, off, hA, hb, hc _ _ h1, by have := hc _ _ h2; rwa [show off + (k * 3 + 1) = off + k * 3 + 1 from by omega] at this, by have := hc _ _ h3; rwa [show off + (k * 3 + 2) = off + k * 3 + 1 + 1 from by omega] at this⟩

theorem info_edge : (Try.prog.info? 62).map (fun i => (i.zero, i.size, i.bytes)) = some (some (.agg #[.int .i64 0, .int .i64 0, .int .i64 0]), 3, 24) := by kernel_rfl

/-- The slice value is the call's own row of edges. -/
def OwnE (w : World) (base : Nat) (A : Option Addr) (c : Nat) (es : List E3) : Prop := w.ownsRow base 62 3 (.slice A es.length c) es.length (edgeCells es)
section
variable {w w' : World} {base : Nat} {A : Option Addr} {c : Nat} {es : List E3}
theorem OwnE.nil_ (w : World) (base : Nat) : OwnE w base none 0 [] := World.ownsRow_nil _ _ _ _
theorem OwnE.reads (h : OwnE w base A c es) : Reads w w.heap.size 3 A es.length (edgeCells es) := Reads.of_own h
theorem OwnE.alloc (h : OwnE w base A c es) (o : Obj) : OwnE (w.alloc o) base A c es := World.ownsRow.alloc h o
theorem OwnE.drewN (h : OwnE w base A c es) (n : Nat) : OwnE (w.drewN n) base A c es := h
theorem OwnE.lt (h : OwnE w base A c es) : ∀ k, blockOf A k → base ≤ k ∧ k < w.heap.size := fun k hk => World.ownsRow.lt h k (blockOf_own.2 hk)
theorem OwnE.kept (h : OwnE w base A c es) (hk : ∀ k, blockOf A k → w'.heap[k]? = w.heap[k]?) : OwnE w' base A c es := by
  obtain ⟨h1, h2⟩ := h
  refine ⟨h1, ?_⟩
  rcases h2 with h2 | ⟨g, cap, cur, hv, hg, hh, r⟩
  · exact .inl h2
  · have hgb : (Value.slice A es.length c).ownBlock = some g := by rw [hv]; rfl
    exact .inr ⟨g, cap, cur, hv, hg, (hk g (blockOf_own.1 hgb)).trans hh, r⟩
theorem OwnE.next (h : OwnE w base A c es) (hb : Below w.heap.size w w') : OwnE w' base A c es := h.kept fun k hk => hb.block k (h.lt k hk).2
theorem OwnE.mono {base' : Nat} (h : OwnE w base A c es) (hb : base' ≤ base) : OwnE w base' A c es := by
  obtain ⟨h1, h2⟩ := h
  refine ⟨h1, ?_⟩
  rcases h2 with h2 | ⟨g, cap, cur, hv, hg, r⟩
  · exact .inl h2
  · exact .inr ⟨g, cap, cur, hv, by omega, r⟩
theorem OwnE.set_blk {g : Nat} {t : TypeId} {cs : Array Value} (h : OwnE w base A c es) (hg : Blk w g t cs) (ht : 62 ≠ t) (o : Nat) (u : Value) : OwnE (w.setCell ⟨g, o, none⟩ u) base A c es := by
  have hne := own_blk_ne h hg ht
  refine h.kept fun k hk => Below.heap_setCell w ⟨g, o, none⟩ u k ?_
  rintro rfl
  exact hne (blockOf_own.2 hk).symm
end
/-- 'append(es, e)': behind the box of the one new edge. -/
theorem push_edge {ops : Array Oper} {rest : List Oper} {o : Oper} {a : Act} {Q : Exit → Act → World → Prop} {w : World} (hgd : o.guard = none) (s x : Operand) (t : TypeId)
    (ho : o.op = .call { callee := .builtin .append, args := #[s, x], argTypes := #[t, t] }) (ht : Try.prog.underlying t = some (.slice 62))
    (base : Nat) (A : Option Addr) (c : Nat) (es : List E3) (e1 e2 e3 : Int) (hs : a.eval s = .slice A es.length c) (hown : OwnE w base A c es)
    {g : Nat} (hx : a.eval x = .slice (some ⟨g, 0, none⟩) 1 1) (hgw : g = w.heap.size) (hn : es.length ≤ 1048000) (hbase : base ≤ w.heap.size)
    (h : ∀ A' c' w', OwnE w' base A' c' (es ++ [(e1, e2, e3)]) → (w.alloc (.cells #[.int .i64 e1, .int .i64 e2, .int .i64 e3] 62)).grownBy w' (Value.slice A es.length c).ownBlock → Below base w w' →
      wpList Try.prog ops Q rest (a.put o.dst (.slice A' (es.length + 1) c')) w') :
    wpList Try.prog ops Q (o :: rest) a (w.alloc (.cells #[.int .i64 e1, .int .i64 e2, .int .i64 e3] 62)) := by
  subst hgw
  refine append_go hgd s x t ho base 62 ht info_edge rfl (by omega) A c es.length (edgeCells es) hs (OwnE.alloc hown _) _ (edgeCells [(e1, e2, e3)]) hx (Reads.boxN w #[.int .i64 e1, .int .i64 e2, .int .i64 e3] 62) edgeCells_one (by omega) (by simp; omega) ?_
  intro A' c' w' hown' hg hB _
  exact h A' c' w' (by unfold OwnE; rw [List.length_append, edgeCells_append]; exact hown') hg (((Below.refl base w).alloc hbase _).trans hB)

set_option maxRecDepth 100000 in
set_option maxHeartbeats 1000000 in
theorem gsame_any (n m : Int) (A : Option Addr) (c : Nat) (es : List E3) (B : Option Addr) (d : Nat) (fs : List E3) (hn : es.length ≤ 1048576) (w : World) (h : Reads w w.heap.size 3 A es.length (edgeCells es)) (h' : Reads w w.heap.size 3 B fs.length (edgeCells fs)) :
    Calls Try.prog 35 #[.agg #[.int .i64 n, .slice A es.length c], .agg #[.int .i64 m, .slice B fs.length d]] w fun e w' => e = .returned (.bool (decide (n = m ∧ es = fs))) ∧ Below w.heap.size w w' := by
  by_cases hnm : n = m
  · subst hnm
    by_cases hl : es.length = fs.length
    · have HL := Lib.hid hl
      have hb : ((es.length : Int) != (fs.length : Int)) = false := by simp; omega
      clear hl
      go_enter Try.func35, Try.ntmps35
      go_wp2
      clear hb
      go_loopw [5] (fun i wr => ∃ k : Nat, k ≤ es.length ∧ i = .int .i64 k ∧ Below w.heap.size w wr ∧ Blk wr w.heap.size 52 #[.int .i64 n, .slice A es.length c] ∧ Blk wr (w.heap.size + 1) 52 #[.int .i64 n, .slice B fs.length d] ∧ Hid (es.take k = fs.take k)) (fun i _ => es.length - (intOf i).toNat)
      case atStart =>
        refine ⟨0, by omega, rfl, ((Below.refl _ _).alloc (Nat.le_refl _) _).alloc (by simp) _, (Blk.new _ _ _).alloc _, ?_, by simp [Hid]⟩
        have := Blk.new (w.alloc (.cells #[.int .i64 n, .slice A es.length c] 52)) 52 #[.int .i64 n, .slice B fs.length d]
        simpa using this
      case round =>
        obtain ⟨k, hk, rfl, hbel, g1, g2, HS⟩ := hrel
        have c1 := g1.cell 1
        have c2 := g2.cell 1
        by_cases hlt : k < es.length
        · obtain ⟨⟨a1, b1, m1⟩, hx⟩ := get_of_lt hlt
          obtain ⟨⟨a2, b2, m2⟩, hy⟩ := get_of_lt (xs := fs) (k := k) (by have := HL.out; omega)
          have HX := Lib.hid hx
          have HY := Lib.hid hy
          obtain ⟨b, off, rfl, hb, q1, q2, q3⟩ := (h.below hbel).edge hx
          obtain ⟨b', off', rfl, hb', p1, p2, p3⟩ := (h'.below hbel).edge hy
          dsimp only at q1 q2 q3 p1 p2 p3
          have hi : (k : Int) < (es.length : Int) := by omega
          have hi' : (k : Int) < (fs.length : Int) := by have := HL.out; omega
          clear hx hy h h'
          by_cases hxy : a1 = a2 ∧ b1 = b2 ∧ m1 = m2
          · obtain ⟨rfl, rfl, rfl⟩ := hxy
            go_wp2
            go_quiet (fail)
            go_wp2
            go_roundw
            case rel => exact ⟨k + 1, by omega, by go_num, below_drewN hbel _, g1, g2, by rw [Hid, take_snoc HX.out, take_snoc HY.out, HS.out]⟩
            case measure => simp [intOf]; omega
          · have hne : ¬ es = fs := fun e => hxy (by have h1 := HX.out; rw [e, HY.out] at h1; injection h1 with h1; injection h1 with h1 h2; injection h2 with h2 h3; exact ⟨h1.symm, h2.symm, h3.symm⟩)
            have HNE := Lib.hid hne
            clear hne
            by_cases h1 : a1 = a2
            · subst h1
              by_cases h2 : b1 = b2
              · subst h2
                have h3 : (m1 == m2) = false := by simp; rintro rfl; exact hxy ⟨rfl, rfl, rfl⟩
                clear hxy
                go_wp2
                go_quiet (fail)
                go_wp2
                go_ret
                exact ⟨ret_bool (by simp [HNE.out]), below_drewN hbel _⟩
              · have h3 : (b1 == b2) = false := by simpa using h2
                clear hxy h2
                go_wp2
                go_quiet (fail)
                go_wp2
                go_ret
                exact ⟨ret_bool (by simp [HNE.out]), below_drewN hbel _⟩
            · have h3 : (a1 == a2) = false := by simpa using h1
              clear hxy h1
              go_wp2
              go_quiet (fail)
              go_wp2
              go_ret
              exact ⟨ret_bool (by simp [HNE.out]), below_drewN hbel _⟩
        · go_wp2
          go_ret
          refine ⟨ret_bool ?_, hbel⟩
          have e : es = fs := by have h1 := HS.out; rw [show k = es.length from by omega, List.take_length, HL.out, List.take_length] at h1; exact h1
          simp [e]
    · have hb : ((es.length : Int) != (fs.length : Int)) = true := by simp; omega
      go_enter Try.func35, Try.ntmps35
      go_wp2
      go_ret
      have : ¬ es = fs := fun e => hl (by rw [e])
      exact ⟨ret_bool (by simp [this]), ((Below.refl _ _).alloc (Nat.le_refl _) _).alloc (by simp) _⟩
  · have hb : (n != m) = true := by simpa using hnm
    go_enter Try.func35, Try.ntmps35
    go_wp2
    go_ret
    exact ⟨ret_bool (by simp [hnm]), ((Below.refl _ _).alloc (Nat.le_refl _) _).alloc (by simp) _⟩
end Go.Proofs.Ytjeggocindcgaaa
