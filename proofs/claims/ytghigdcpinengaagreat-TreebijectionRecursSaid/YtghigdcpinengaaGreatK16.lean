/-
  Texts of this claim, put together: GridW, Joined, LawG, RSort, HeapX.
-/
import Derived.Test.YtghigdcpinengaaGreatK06
import Derived.Test.YtghigdcpinengaaGreatK11
import Derived.Test.YtghigdcpinengaaGreatK05
import Derived.Deep.RegionLaw
import Derived.Deep.Slices
import Derived.Test.YtghigdcpinengaaGreatK03
import Derived.Test.YtghigdcpinengaaGreatK01
import Derived.Deep.QuietTactic
import Derived.BigQuiet
import Derived.Deep.CutRange
import Derived.Deep.RegionHeld3
import Derived.Test.YtghigdcpinengaaGreatK13
/-! Tables: slices of slices of ints whose rows lie in blocks of their own. -/
namespace Go.Proofs.YtghigdcpinengaaGreat
open Go.RowKit

/-- A table of rows of n ints, each in a block of its own. -/
structure Grid (w : World) (base : Nat) (A : Option Addr) (c n : Nat) (gs : List Nat) (rows : List (List Int)) : Prop where
  outer : w.ownsRow base 25 1 (.slice A gs.length c) gs.length (gs.map fun g => .slice (some ⟨g, 0, none⟩) n n)
  len : rows.length = gs.length
  row : ∀ (i g : Nat) (r : List Int), gs[i]? = some g → rows[i]? = some r → Blk w g 3 (intCells r) ∧ r.length = n ∧ base ≤ g
  nodup : gs.Nodup

section
variable {w w' : World} {base : Nat} {A : Option Addr} {c n : Nat} {gs : List Nat} {rows : List (List Int)}
theorem Grid.nil_ (w : World) (base n : Nat) : Grid w base none 0 n [] [] := ⟨World.ownsRow_nil _ _ _ _, rfl, by simp, by simp⟩
theorem Grid.at_ (h : Grid w base A c n gs rows) {i : Nat} (hi : i < rows.length) : ∃ g r, gs[i]? = some g ∧ rows[i]? = some r ∧ Blk w g 3 (intCells r) ∧ r.length = n ∧ base ≤ g := by
  obtain ⟨r, hr⟩ := get_of_lt hi
  obtain ⟨g, hg⟩ := get_of_lt (xs := gs) (k := i) (by have := h.len; omega)
  obtain ⟨h1, h2, h3⟩ := h.row i g r hg hr
  exact ⟨g, r, hg, hr, h1, h2, h3⟩
theorem Grid.cell (h : Grid w base A c n gs rows) {i g : Nat} (hg : gs[i]? = some g) : ∃ b off, A = some ⟨b, off, none⟩ ∧ w.cell? ⟨b, off + i, none⟩ = some (.slice (some ⟨g, 0, none⟩) n n) := by
  obtain ⟨b, off, hA, _, hc⟩ := (Reads.of_own h.outer).at_ (k := i) (u := .slice (some ⟨g, 0, none⟩) n n) (by simp [hg])
  exact ⟨b, off, hA, hc⟩
theorem Grid.blk (h : Grid w base A c n gs rows) {g : Nat} (hg : g ∈ gs) : ∃ cs, Blk w g 3 cs ∧ base ≤ g := by
  obtain ⟨i, hi⟩ := List.getElem?_of_mem hg
  obtain ⟨r, hr⟩ := get_of_lt (xs := rows) (k := i) (by have := (List.getElem?_eq_some_iff.1 hi).1; have := h.len; omega)
  obtain ⟨h1, _, h3⟩ := h.row i g r hi hr
  exact ⟨_, h1, h3⟩
theorem Grid.kept (h : Grid w base A c n gs rows) (hA : ∀ k, blockOf A k → w'.heap[k]? = w.heap[k]?) (hg : ∀ g, g ∈ gs → w'.heap[g]? = w.heap[g]?) : Grid w' base A c n gs rows :=
  ⟨own_kept h.outer hA, h.len, fun i g r hi hr => by
    obtain ⟨h1, h2, h3⟩ := h.row i g r hi hr
    exact ⟨(hg g (List.mem_of_getElem? hi)).trans h1, h2, h3⟩, h.nodup⟩
theorem Grid.next (h : Grid w base A c n gs rows) (hb : Below w.heap.size w w') : Grid w' base A c n gs rows :=
  h.kept (fun k hk => hb.block k (own_lt h.outer hk).2) fun g hg => by
    obtain ⟨cs, hc, _⟩ := h.blk hg
    exact hb.block g hc.lt
theorem Grid.mono {base' : Nat} (h : Grid w base A c n gs rows) (hb : base' ≤ base) : Grid w base' A c n gs rows :=
  ⟨own_rebase h.outer fun k hk => Nat.le_trans hb (own_lt h.outer hk).1, h.len, fun i g r hi hr => by
    obtain ⟨h1, h2, h3⟩ := h.row i g r hi hr
    exact ⟨h1, h2, by omega⟩, h.nodup⟩
theorem Grid.drewN (h : Grid w base A c n gs rows) (m : Nat) : Grid (w.drewN m) base A c n gs rows := h.kept (fun _ _ => rfl) fun _ _ => rfl
theorem Grid.far (h : Grid w base A c n gs rows) {g : Nat} {t : TypeId} {cs : Array Value} (hg : Blk w g t cs) (h1 : 25 ≠ t) (h2 : 3 ≠ t) (o : Nat) (u : Value) : Grid (w.setCell ⟨g, o, none⟩ u) base A c n gs rows :=
  h.kept (fun k hk => Below.heap_setCell w ⟨g, o, none⟩ u k (own_blk h.outer hg h1 hk)) fun g' hg' => by
    obtain ⟨cs', hc, _⟩ := h.blk hg'
    exact Below.heap_setCell w ⟨g, o, none⟩ u g' (hc.ne_ hg h2)
/-- A store into a row. -/
theorem Grid.set (h : Grid w base A c n gs rows) {i j g : Nat} {r : List Int} (hi : gs[i]? = some g) (hr : rows[i]? = some r) (x : Int) : Grid (w.setCell ⟨g, j, none⟩ (.int .i64 x)) base A c n gs (rows.set i (r.set j x)) := by
  obtain ⟨h1, h2, h3⟩ := h.row i g r hi hr
  refine ⟨own_kept h.outer fun k hk => Below.heap_setCell w ⟨g, j, none⟩ _ k (own_blk h.outer h1 (by decide) hk), by rw [List.length_set]; exact h.len, fun i' g' r' hi' hr' => ?_, h.nodup⟩
  by_cases he : i' = i
  · subst he
    rw [hi] at hi'; cases hi'
    have hl : i' < rows.length := (List.getElem?_eq_some_iff.1 hr).1
    rw [List.getElem?_set_self hl] at hr'; cases hr'
    exact ⟨by rw [← intCells_set]; exact h1.set_ j _, by simpa using h2, h3⟩
  · rw [List.getElem?_set_ne (fun e => he e.symm)] at hr'
    obtain ⟨k1, k2, k3⟩ := h.row i' g' r' hi' hr'
    have hne : g' ≠ g := by
      rintro rfl
      obtain ⟨l1, e1⟩ := List.getElem?_eq_some_iff.1 hi
      obtain ⟨l2, e2⟩ := List.getElem?_eq_some_iff.1 hi'
      rcases Nat.lt_trichotomy i i' with hl | hl | hl
      · exact List.pairwise_iff_getElem.1 h.nodup i i' l1 l2 hl (e1.trans e2.symm)
      · exact he hl.symm
      · exact List.pairwise_iff_getElem.1 h.nodup i' i l2 l1 hl (e2.trans e1.symm)
    exact ⟨k1.far (by simpa using hne) _, k2, k3⟩
/-- One row more. -/
theorem Grid.push {A' : Option Addr} {c' g : Nat} {r : List Int} (h : Grid w base A c n gs rows) (hg : Blk w g 3 (intCells r)) (hr : r.length = n) (hb : base ≤ g) (hnew : ∀ g' ∈ gs, g' ≠ g)
    (hown : w'.ownsRow base 25 1 (.slice A' (gs.length + 1) c') (gs.length + 1) ((gs.map fun g => .slice (some ⟨g, 0, none⟩) n n) ++ [.slice (some ⟨g, 0, none⟩) n n]))
    (hgr : w.grownBy w' (Value.slice A gs.length c).ownBlock) : Grid w' base A' c' n (gs ++ [g]) (rows ++ [r]) := by
  have keep : ∀ {g' : Nat} {cs : Array Value}, Blk w g' 3 cs → Blk w' g' 3 cs := fun hc => hc.grown hgr (own_blk_ne h.outer hc (by decide))
  refine ⟨by rw [List.map_append, List.length_append]; exact hown, by simp [h.len], fun i g' r' hi hr' => ?_, ?_⟩
  · rcases Nat.lt_trichotomy i gs.length with hlt | rfl | hgt
    · rw [List.getElem?_append_left hlt] at hi
      rw [List.getElem?_append_left (by rw [h.len]; exact hlt)] at hr'
      obtain ⟨k1, k2, k3⟩ := h.row i g' r' hi hr'
      exact ⟨keep k1, k2, k3⟩
    · have e1 : g = g' := by simpa using hi
      have e2 : r = r' := by rw [← h.len] at hr'; simpa using hr'
      subst e1 e2
      exact ⟨keep hg, hr, hb⟩
    · rw [List.getElem?_eq_none (by simp; omega)] at hi; cases hi
  · rw [List.nodup_append]
    exact ⟨h.nodup, by simp, fun a ha b hb' => by rw [List.mem_singleton.1 hb']; exact hnew a ha⟩
theorem Grid.reads (h : Grid w base A c n gs rows) : RowsR w w.heap.size A rows :=
  ⟨gs.map fun g => .slice (some ⟨g, 0, none⟩) n n, by rw [h.len]; exact Reads.of_own h.outer, fun i r hi => by
    obtain ⟨g, hg⟩ := get_of_lt (xs := gs) (k := i) (by have := (List.getElem?_eq_some_iff.1 hi).1; have := h.len; omega)
    obtain ⟨h1, h2, h3⟩ := h.row i g r hg hi
    subst h2
    exact ⟨some ⟨g, 0, none⟩, r.length, by simp [hg], by simp [ints], fun _ => ⟨g, 0, rfl, h1.lt, fun j v hv => by rw [Nat.zero_add, h1.cell j]; simpa [intCells] using hv⟩⟩⟩
end

end Go.Proofs.YtghigdcpinengaaGreat

/-! ref08.Joined: the graph of a table of multiplicities. -/
namespace Go.Proofs.YtghigdcpinengaaGreat
open Go.RowKit

end Go.Proofs.YtghigdcpinengaaGreat

/-! What the frames of the graph laws share: a graph that came in, a list of ints of whatever name. -/
namespace Go.Proofs.YtghigdcpinengaaGreat
open Go.ChangeShapes Go.WideShapes Go.ChangeAt Go.RowKit Go.Deep

section
variable {H : Type} {enc : TypeId × Value → H} {W : World}

set_option maxRecDepth 100000 in
/-- A graph. -/
theorem open_graph {fuel : Nat} {cs : List Value} {x : DataW H × List MemPlace} (h : DataW.trod enc Tryz.prog W 0 (fun _ => true) true fuel 24 cs = some x) :
    ∃ (n : Int) (a : Option Addr) (cap : Nat) (es : List E3), cs = [.int .i64 n, .slice a es.length cap] ∧ es.length ≤ maxLen ∧ Reads W W.heap.size 3 a es.length (edgeCells es) ∧ (Lit.int .i64 n).wf = true := by
  obtain ⟨ys, m, rfl, _, hlen, hys, hf⟩ := DataW.trod_struct Tryz.underlying24 h
  rw [show Tryz.prog.cellsOf 24 = 2 from by kernel_rfl] at hlen
  match cs, hlen with
  | [u0, u1], _ =>
    have f0 := hf 0 _ rfl
    have f1 := hf 1 _ rfl
    have hsz : ys.length = 2 := hys
    obtain ⟨y0, hy0⟩ : ∃ y, ys[0]? = some y := ⟨_, List.getElem?_eq_getElem (by omega)⟩
    obtain ⟨y1, hy1⟩ : ∃ y, ys[1]? = some y := ⟨_, List.getElem?_eq_getElem (by omega)⟩
    rw [hy0] at f0
    rw [hy1] at f1
    have ci : Tryz.prog.cellsOf 3 = 1 := by kernel_rfl
    have cl : Tryz.prog.cellsOf 22 = 1 := by kernel_rfl
    simp [ci, cl] at f0 f1
    obtain ⟨n, hn, _, hw⟩ := DataW.trod_int Tryz.underlying3 f0
    injection hn with hn
    subst hn
    rcases open_slice Tryz.underlying22 f1 with ⟨hcs, _⟩ | ⟨a, len, cap, k, fu, D, Pl, hcs, hb, hl, hm, hk, _, hx⟩
    · injection hcs with hcs
      subst hcs
      exact ⟨n, none, 0, [], rfl, by simp, Reads.nil_, hw⟩
    · injection hcs with hcs
      subst hcs
      have hk : k = cap := by simpa using hk
      have ce : Tryz.prog.cellsOf 104 = 3 := by kernel_rfl
      have each : ∀ i, i < len → ∃ e : E3, W.cell? (a.add (i * 3)) = some (.int .i64 e.1) ∧ W.cell? (a.add (i * 3 + 1)) = some (.int .i64 e.2.1) ∧ W.cell? (a.add (i * 3 + 2)) = some (.int .i64 e.2.2) := by
        intro i hi
        obtain ⟨cs', h1, h2⟩ := hx i (by omega)
        rw [ce] at h1
        obtain ⟨_, hlen, hcell⟩ := World.cells?_some h1
        obtain ⟨xs, k, _, _, _, hxl, hf⟩ := DataW.trod_struct Tryz.underlying104 h2
        match xs, hxl, cs', hlen with
        | [y0, y1, y2], _, [v0, v1, v2], _ =>
          have g0 := hf 0 _ rfl
          have g1 := hf 1 _ rfl
          have g2 := hf 2 _ rfl
          simp [ci] at g0 g1 g2
          have e0 := hcell 0 (by omega)
          have e1 := hcell 1 (by omega)
          have e2 := hcell 2 (by omega)
          rw [add_add] at e0 e1 e2
          obtain ⟨n0, q0, _, _⟩ := DataW.trod_int Tryz.underlying3 g0
          obtain ⟨n1, q1, _, _⟩ := DataW.trod_int Tryz.underlying3 g1
          obtain ⟨n2, q2, _, _⟩ := DataW.trod_int Tryz.underlying3 g2
          injection q0 with q0
          injection q1 with q1
          injection q2 with q2
          subst q0 q1 q2
          exact ⟨(n0, n1, n2), by simpa using e0, by simpa using e1, by simpa using e2⟩
      obtain ⟨F, hF⟩ := choose_lt each
      have hlen : ((List.range len).map F).length = len := by simp
      have hspot : 0 < len → ∃ b off, a = ⟨b, off, none⟩ ∧ b < W.heap.size := by
        intro h0
        have hc := (hF 0 h0).1
        obtain ⟨b, off, spot⟩ := a
        obtain rfl : spot = none := by simpa [Addr.add] using World.cell?_spot hc
        have := World.block_lt_of_cell? W _ hc
        exact ⟨b, off, rfl, by simpa [Addr.add] using this⟩
      refine ⟨n, some a, cap, (List.range len).map F, by rw [hlen], by rw [hlen]; omega, ⟨edgeCells_length _, fun hn => ?_⟩, hw⟩
      rw [hlen] at hn
      obtain ⟨b, off, rfl, hb2⟩ := hspot hn
      refine ⟨b, off, rfl, hb2, fun j u hu => ?_⟩
      have hj : j < (edgeCells ((List.range len).map F)).length := (List.getElem?_eq_some_iff.1 hu).1
      rw [edgeCells_length, hlen] at hj
      have hi : j / 3 < len := by omega
      have hget : ((List.range len).map F)[j / 3]? = some (F (j / 3)) := by rw [List.getElem?_map, List.getElem?_range hi]; rfl
      obtain ⟨k0, k1, k2⟩ := edgeCells_at hget
      obtain ⟨m0, m1, m2⟩ := hF _ hi
      rw [add_plain] at m0 m1 m2
      have h3 : j = j / 3 * 3 ∨ j = j / 3 * 3 + 1 ∨ j = j / 3 * 3 + 2 := by omega
      rcases h3 with h3 | h3 | h3
      · rw [h3, k0] at hu; injection hu with hu; rw [show off + j = off + (j / 3 * 3) from by omega, ← hu]; exact m0
      · rw [h3, k1] at hu; injection hu with hu; rw [show off + j = off + (j / 3 * 3 + 1) from by omega, ← hu]; exact m1
      · rw [h3, k2] at hu; injection hu with hu; rw [show off + j = off + (j / 3 * 3 + 2) from by omega, ← hu]; exact m2
end
end Go.Proofs.YtghigdcpinengaaGreat

/-! ref13.Sorted: sorting by insertion. -/
namespace Go.Proofs.YtghigdcpinengaaGreat
open Go.RowKit

theorem Blk.newAtS {w : World} {g : Nat} {t : TypeId} {cs : Array Value} (hg : g = w.heap.size) : Blk (w.alloc (.cells cs t)) g t cs := hg ▸ Blk.new w t cs
theorem Reads.box1 (w : World) (u : Value) (e : TypeId) : Reads (w.alloc (.cells #[u] e)) (w.heap.size + 1) 1 (some ⟨w.heap.size, 0, none⟩) 1 [u] := Reads.box w u e
theorem Reads.of_blk1 {w : World} {g : Nat} {u : Value} {e : TypeId} (h : Blk w g e #[u]) : Reads w w.heap.size 1 (some ⟨g, 0, none⟩) 1 [u] :=
  ⟨rfl, fun _ => ⟨g, 0, rfl, h.lt, fun j v hv => by
    have hj : j = 0 := by
      rcases Nat.eq_zero_or_pos j with h | h
      · exact h
      · rw [List.getElem?_eq_none (by simp; omega)] at hv; cases hv
    subst hj
    have : u = v := by simpa using hv
    subst this
    exact h.cell 0⟩⟩

end Go.Proofs.YtghigdcpinengaaGreat

/-! container/heap: Push and Pop over treebijection.queue. -/
namespace Go.Proofs.YtghigdcpinengaaGreat
open Go.RowKit

theorem own_lenH {w : World} {base : Nat} {A : Option Addr} {c : Nat} {xs : List Int} {n : Nat} (h : OwnI w base A c xs) (hn : xs.length = n) : w.ownsRow base 3 1 (.slice A n c) n (ints xs) := by subst hn; exact h
theorem UpI.push {H : List Int} {x : Int} {n : Nat} (hl : H.length = n) (h : HeapN H n) : UpI (H ++ [x]) (n + 1) n := by subst hl; exact UpI.start h

theorem assert_int (x : Int) (w : World) : (Instr.typeAssert (.iface 3 (.int .i64 x)) 20 3 false).run Tryz.prog w = .ok (.int .i64 x) w := by kernel_rfl
set_option maxHeartbeats 4000000 in
set_option maxRecDepth 100000 in
theorem qpush_any (b o base : Nat) (T : TypeId) (hT : 3 ≠ T) (cs : Array Value) (A : Option Addr) (c : Nat) (H : List Int) (n : Nat) (hn : H.length = n) (hn1 : n ≤ 1000) (x : Int) (w : World) (hO : OwnI w base A c H) (hbase : base ≤ w.heap.size) (hblk : Blk w b T cs) (hcs : cs[o]? = some (.slice A n c)) :
    Calls Tryz.prog 213 #[.pointer (some ⟨b, o, none⟩), .iface 3 (.int .i64 x)] w fun e w' => e = .returned (.tuple #[]) ∧ ∃ A' c', OwnI w' base A' c' (H ++ [x]) ∧ Blk w' b T (cs.setIfInBounds o (.slice A' (n + 1) c')) ∧ Only (fun k => ofA A k ∨ k = b) w w' ∧ (∀ k, ofA A' k → ofA A k ∨ w.heap.size ≤ k) := by
  have kc := (hblk.cell o).trans hcs
  have hfz := hblk.frozen o
  have hown := own_lenH hO hn
  have hblt := hblk.lt
  have hnb : ∀ k, blockOf A k → k ≠ b := fun k hk => own_blk hown hblk hT hk
  go_enter Tryz.func213, Tryz.ntmps213
  go_wp2_with fail
  have hta := fun w => assert_int x w
  have hol := hown.alloc (.cells #[.int .i64 x] 3)
  have kc1 : (w.alloc (.cells #[.int .i64 x] 3)).cell? ⟨b, o, none⟩ = some (.slice A n c) := ((hblk.alloc _).cell o).trans hcs
  go_region_law (refine append_step2 rfl (.tmp 7) (.tmp 10) _ _ rfl base 3 3 Tryz.underlying87 Tryz.underlying87 info_int rfl (by omega) A c n (ints H) rfl ?_ (w.heap.size + 1) [.int .i64 x] rfl ?_ (by simp [Value.oneCell']) (by omega) ?_ ?_
                 · exact hol
                 · exact Reads.box w _ _
                 · exact Nat.le_trans hbase (by simp)
                 intro A5 c5 w5 hown5 hg5 hb5 hd5
                 have b5 : Blk w5 b T cs := (hg5.block b (by simp; omega) (fun e => hnb b (blockOf_own.1 e.symm) rfl)).trans (hblk.alloc _)
                 have kc5 := (b5.cell o).trans hcs
                 have fz5 := b5.frozen o)
  all_goals (
    have O5 : Hid (OwnI (w5.setCell ⟨b, o, none⟩ (.slice A5 (n + 1) c5)) base A5 c5 (H ++ [x])) := by
      have h6 : OwnI w5 base A5 c5 (H ++ [x]) := by unfold OwnI; rw [List.length_append, hn, ints_snoc]; exact hown5
      exact own_kept h6 fun k hk => Below.heap_setCell w5 ⟨b, o, none⟩ _ k (own_blk h6 b5 hT hk)
    have D5 : Hid (∀ k, ofA A5 k → ofA A k ∨ w.heap.size ≤ k) := by
      intro k hk
      have hk2 : (Value.slice A5 (n + 1) c5).ownBlock = some k := blockOf_own.2 hk
      rcases hd5 with hd5 | hd5
      · rw [hd5] at hk2; exact .inl (blockOf_own.1 hk2)
      · rw [hd5] at hk2; injection hk2 with hk2; subst hk2; exact .inr (by simp)
    have W5 : Hid (Only (fun k => ofA A k ∨ k = b) w (w5.setCell ⟨b, o, none⟩ (.slice A5 (n + 1) c5))) := by
      have hz : w.heap.size + 1 ≤ w5.heap.size := Nat.le_trans (by simp) hg5.size
      refine ⟨hg5.os, hg5.tape, hg5.output, ?_, fun k hk hC => ?_⟩
      · show w.heap.size ≤ (w5.setCell ⟨b, o, none⟩ (.slice A5 (n + 1) c5)).heap.size
        simp only [World.setCell, Array.size_modify]; omega
      · refine (Below.heap_setCell w5 ⟨b, o, none⟩ _ k (fun e => hC (.inr e))).trans ((hg5.block k (by simp; omega) (fun e => hC (.inl (blockOf_own.1 e.symm)))).trans ?_)
        exact Below.heap_alloc w _ k hk
    go_wp2
    exact bodyPost_end (results_none rfl _ _ _) rfl ⟨rfl, A5, c5, O5.out, b5.set_ o _, W5.out, D5.out⟩)

theorem Only.trans2 {C D : Nat → Prop} {w w1 w2 : World} (h1 : Only C w w1) (h2 : Only D w1 w2) (hD : ∀ k, k < w.heap.size → D k → C k) : Only C w w2 :=
  ⟨h2.os.trans h1.os, h2.tape.trans h1.tape, h2.output.trans h1.output, Nat.le_trans h1.size h2.size, fun k hk hC => (h2.block k (Nat.lt_of_lt_of_le hk h1.size) (fun hd => hC (hD k hk hd))).trans (h1.block k hk hC)⟩

theorem qlen_any (A : Option Addr) (n c : Nat) (w : World) : Calls Tryz.prog 140 #[.slice A n c] w fun e w' => e = .returned (.int .i64 n) ∧ w = w' := by
  go_enter Tryz.func140, Tryz.ntmps140
  go_wp2
  go_ret
  exact ⟨rfl, rfl⟩
set_option maxHeartbeats 4000000 in
set_option maxRecDepth 100000 in
theorem hpush_any (b o base : Nat) (T : TypeId) (hT : 3 ≠ T) (cs : Array Value) (hos : o < cs.size) (A : Option Addr) (c : Nat) (H : List Int) (n : Nat) (hn : H.length = n) (hn1 : n ≤ 900) (hH : HeapN H n) (x : Int) (w : World) (hO : OwnI w base A c H) (hbase : base ≤ w.heap.size) (hblk : Blk w b T cs) (hcs : cs[o]? = some (.slice A n c)) :
    Calls Tryz.prog 157 #[.iface 179 (.pointer (some ⟨b, o, none⟩)), .iface 3 (.int .i64 x)] w fun e w' => e = .returned (.tuple #[]) ∧ ∃ A' c' H', H'.length = n + 1 ∧ H'.Perm (x :: H) ∧ HeapN H' (n + 1) ∧ OwnI w' base A' c' H' ∧ Blk w' b T (cs.setIfInBounds o (.slice A' (n + 1) c')) ∧ Only (fun k => ofA A k ∨ k = b) w w' ∧ (∀ k, ofA A' k → ofA A k ∨ w.heap.size ≤ k) := by
  have mP : ∀ k, (method (k + 1) 179 (.pointer (some ⟨b, o, none⟩)) "Push").run Tryz.prog w = .ok (213, .pointer (some ⟨b, o, none⟩)) w := fun k => run_method_own ml_push Tryz.underlying179 k _ _
  have PC := Lib.hid (qpush_any b o base T hT cs A c H n hn (by omega) x w hO hbase hblk hcs)
  have HUP := Lib.hid (UpI.push (x := x) hn hH)
  have HL : Hid ((H ++ [x]).length = n + 1) := by rw [Hid, List.length_append, hn]; rfl
  have HPM : Hid ((H ++ [x]).Perm (x :: H)) := List.perm_append_comm
  have HBL := Lib.hid hblk.lt
  have HOS := Lib.hid hos
  clear hH hn hO hblk hcs
  go_enter Tryz.func157, Tryz.ntmps157
  go_wp2_with fail
  refine (PC.out).mono ?_
  rintro e w1 ⟨rfl, A1, c1, o1, b1, W1, D1⟩
  have hc1 : (cs.setIfInBounds o (.slice A1 (n + 1) c1))[o]? = some (.slice A1 (n + 1) c1) := by
    rw [Array.getElem?_setIfInBounds, if_pos rfl, if_pos HOS.out]
  have kc := (b1.cell o).trans hc1
  have hba : ¬ ofA A1 b := fun hk => own_blk (own_lenH o1 HL.out) b1 hT hk rfl
  have mN : ∀ k, (method (k + 1) 179 (.pointer (some ⟨b, o, none⟩)) "Len").run Tryz.prog w1 = .ok (140, .slice A1 (n + 1) c1) w1 := fun k => run_method_ptr ml_len Tryz.underlying179 ml_agg k _ _ _ kc
  have hw1 : IntKind.i64.wrap ((n : Int) + 1 - 1) = (n : Int) := by rw [IntWalk.i64_in _ (by omega)]; omega
  have hw2 : ((n : Int) + 1 - 1) = (n : Int) := by omega
  have UC := Lib.hid (up_any b o base T (cs.setIfInBounds o (.slice A1 (n + 1) c1)) A1 c1 (H ++ [x]) (n + 1) HL.out (by omega) n HUP.out w1 o1 b1 hc1 hba)
  have B1 := Lib.hid b1
  have D1 := Lib.hid D1
  have W1 := Lib.hid W1
  clear mP kc b1 hc1
  go_wp2_with fail
  refine (qlen_any _ _ _ _).mono ?_
  rintro e w9 ⟨rfl, rfl⟩
  go_wp2_with fail
  refine (UC.out).mono ?_
  rintro e w2 ⟨rfl, H2, l2, p2, h2, o2, W2⟩
  have HF : Hid (Blk w2 b T (cs.setIfInBounds o (.slice A1 (n + 1) c1)) ∧ Only (fun k => ofA A k ∨ k = b) w w2) := ⟨B1.out.only W2 hba, W1.out.trans2 W2 fun k hk hd => by
    rcases D1.out k hd with h | h
    · exact .inl h
    · omega⟩
  go_wp2
  exact bodyPost_end (results_none rfl _ _ _) rfl ⟨rfl, A1, c1, H2, l2, p2.trans HPM.out, h2, o2, HF.out.1, HF.out.2, D1.out⟩

set_option maxHeartbeats 4000000 in
set_option maxRecDepth 100000 in
theorem qpop_any (b o base : Nat) (T : TypeId) (hT : 3 ≠ T) (cs : Array Value) (A : Option Addr) (c : Nat) (H : List Int) (n : Nat) (hn : H.length = n + 1) (hn1 : n ≤ 1000) (w : World) (hO : OwnI w base A c H) (hblk : Blk w b T cs) (hcs : cs[o]? = some (.slice A (n + 1) c)) :
    Calls Tryz.prog 212 #[.pointer (some ⟨b, o, none⟩)] w fun e w' => e = .returned (.iface 3 (.int .i64 (hp H n))) ∧ OwnI w' base A c (H.take n) ∧ Blk w' b T (cs.setIfInBounds o (.slice A n c)) ∧ Only (fun k => k = b) w w' := by
  obtain ⟨g, hA, hg, hfr, hce⟩ := hO.block (by omega)
  subst hA
  have hcap := hO.cap
  have kc := (hblk.cell o).trans hcs
  have fz := hblk.frozen o
  have cn := hce n _ (hp_at (by omega))
  have hgb : g ≠ b := own_blk (own_lenH hO hn) hblk hT ⟨_, rfl, rfl⟩
  have hw1 : IntKind.i64.wrap (((n + 1 : Nat) : Int) - 1) = (n : Int) := by rw [IntWalk.i64_in _ (by omega)]; omega
  have hw2 : IntKind.i64.wrap ((n : Int) + 1 - 1) = (n : Int) := by rw [IntWalk.i64_in _ (by omega)]; omega
  have hn0 : (0 : Int) ≤ (n : Int) := by omega
  have hn2 : (n : Int) < (n : Int) + 1 := by omega
  have hn3 : (n : Int) ≤ (c : Int) := by omega
  have hc0 : ¬ c = 0 := by omega
  have HO := Lib.hid (hO.cut n (by omega))
  have HBK := Lib.hid hblk
  obtain ⟨y, hy⟩ : ∃ y, hp H n = y := ⟨_, rfl⟩
  rw [hy] at cn ⊢
  clear hfr hce hy hO hblk hcs hcap hn
  go_enter Tryz.func212, Tryz.ntmps212
  go_wp2
  go_ret
  exact ⟨rfl, own_kept HO.out fun k hk => Below.heap_setCell w ⟨b, o, none⟩ _ k (by obtain ⟨a, ha, hk⟩ := hk; injection ha with ha; subst ha; subst hk; exact hgb), HBK.out.set_ o _, Only.setCell (C := fun k => k = b) (Only.refl _ w) (p := ⟨b, o, none⟩) (.inl rfl) _⟩

set_option maxHeartbeats 4000000 in
set_option maxRecDepth 100000 in
theorem hpop_any (b o base : Nat) (T : TypeId) (hT : 3 ≠ T) (cs : Array Value) (A : Option Addr) (c : Nat) (H : List Int) (n : Nat) (hn : H.length = n + 1) (hn1 : n ≤ 900) (hH : HeapN H (n + 1)) (w : World) (hO : OwnI w base A c H) (hblk : Blk w b T cs) (hcs : cs[o]? = some (.slice A (n + 1) c)) :
    Calls Tryz.prog 141 #[.iface 179 (.pointer (some ⟨b, o, none⟩))] w fun e w' => ∃ (x : Int) (H' : List Int), e = .returned (.iface 3 (.int .i64 x)) ∧ H'.length = n ∧ (x :: H').Perm H ∧ (∀ y ∈ H, x ≤ y) ∧ HeapN H' n ∧ OwnI w' base A c H' ∧ Blk w' b T (cs.setIfInBounds o (.slice A n c)) ∧ Only (fun k => ofA A k ∨ k = b) w w' := by
  have kc := (hblk.cell o).trans hcs
  have hba : ¬ ofA A b := fun hk => own_blk (own_lenH hO hn) hblk hT hk rfl
  have hw1 : IntKind.i64.wrap (((n + 1 : Nat) : Int) - 1) = (n : Int) := by rw [IntWalk.i64_in _ (by omega)]; omega
  have hw2 : IntKind.i64.wrap ((n : Int) + 1 - 1) = (n : Int) := by rw [IntWalk.i64_in _ (by omega)]; omega
  have hw3 : (n : Int) + 1 - 1 = (n : Int) := by omega
  have SC := Lib.hid (qswap_any base A c H (n + 1) hn 0 n (by omega) (by omega) w hO)
  have mN : ∀ k, (method (k + 1) 179 (.pointer (some ⟨b, o, none⟩)) "Len").run Tryz.prog w = .ok (140, .slice A (n + 1) c) w := fun k => run_method_ptr ml_len Tryz.underlying179 ml_agg k _ _ _ kc
  have mS : ∀ k, (method (k + 1) 179 (.pointer (some ⟨b, o, none⟩)) "Swap").run Tryz.prog w = .ok (211, .slice A (n + 1) c) w := fun k => run_method_ptr ml_swap Tryz.underlying179 ml_agg k _ _ _ kc
  have HDN := Lib.hid (DnI.start hH hn)
  have HSL : Hid ((swp H 0 n).length = n + 1) := by rw [Hid, swp_length, hn]
  have HSP := Lib.hid (swp_perm (H := H) (i := 0) (j := n) (by omega) (by omega))
  have HSN : Hid (hp (swp H 0 n) n = hp H 0) := by rw [Hid, hp_swp (by omega) (by omega), if_pos rfl]
  have HMN : Hid (∀ y ∈ H, hp H 0 ≤ y) := fun y hy => by
    obtain ⟨k, hk⟩ := List.getElem?_of_mem hy
    have hkl := (List.getElem?_eq_some_iff.1 hk).1
    have h1 := heap_min hH k (by omega)
    rw [hp_at hkl] at hk
    injection hk with hk
    omega
  have HCS := Lib.hid hcs
  clear hH hn hO kc hcs
  go_enter Tryz.func141, Tryz.ntmps141
  go_wp2_with fail
  refine (qlen_any _ _ _ _).mono ?_
  rintro e w9 ⟨rfl, rfl⟩
  go_wp2_with fail
  refine (SC.out).mono ?_
  rintro e w1 ⟨rfl, o1, W1⟩
  have b1 := hblk.only W1 hba
  have DC := Lib.hid (down_any b o base T cs A c (swp H 0 n) (n + 1) n HSL.out (by omega) (by omega) HDN.out w1 o1 b1 HCS.out hba)
  have W1 := Lib.hid W1
  clear mN mS
  go_wp2_with fail
  refine (DC.out).mono ?_
  rintro e w2 ⟨bb, rfl, H2, l2, p2, h2, o2, W2, t2⟩
  have b2 := b1.only W2 hba
  have QC := Lib.hid (qpop_any b o base T hT cs A c H2 n l2 (by omega) w2 o2 b2 HCS.out)
  have mP : ∀ k, (method (k + 1) 179 (.pointer (some ⟨b, o, none⟩)) "Pop").run Tryz.prog w2 = .ok (212, .pointer (some ⟨b, o, none⟩)) w2 := fun k => run_method_own ml_pop Tryz.underlying179 k _ _
  have HX : Hid (hp H2 n = hp H 0) := (t2 n (Nat.le_refl _)).trans HSN.out
  have HPM : Hid ((hp H 0 :: H2.take n).Perm H) := by
    have e1 : H2 = H2.take n ++ [hp H2 n] := by
      have := List.take_append_drop n H2
      have hd : H2.drop n = [hp H2 n] := by
        rw [List.drop_eq_getElem_cons (by omega), List.drop_eq_nil_of_le (by omega)]
        unfold hp; rw [List.getD_eq_getElem?_getD, List.getElem?_eq_getElem (by omega)]; rfl
      rw [hd] at this; exact this.symm
    have h3 : (hp H2 n :: H2.take n).Perm H2 := by
      conv => rhs; rw [e1]
      exact (List.perm_append_singleton _ _).symm
    rw [HX.out] at h3
    exact h3.trans (p2.trans HSP.out)
  have HHP : Hid (HeapN (H2.take n) n) := heap_take h2 (by omega)
  have HTL : Hid ((H2.take n).length = n) := by rw [Hid, List.length_take]; omega
  have W2 := Lib.hid (W1.out.trans W2)
  clear l2 p2 h2 t2 o2
  go_wp2_with fail
  refine (QC.out).mono ?_
  rintro e w3 ⟨rfl, o3, b3, W3⟩
  have HW3 : Hid (Only (fun k => ofA A k ∨ k = b) w w3) := (W2.out.mono fun _ _ h => .inl h).trans2 W3 fun k _ hk => .inr hk
  go_wp2
  go_ret
  exact ⟨hp H 0, H2.take n, by rw [← HX.out]; rfl, HTL.out, HPM.out, HMN.out, HHP.out, o3, b3, HW3.out⟩
end Go.Proofs.YtghigdcpinengaaGreat

