/-
  Texts of this claim, put together: Own, Cells, ForP, TreeQ.
-/
import Derived.Test.YtplgbapbgcipdaaGreatRows
import Derived.Test.YtplgbapbgcipdaaGreatK01
import Derived.WalkKit
import Derived.WalkSpells
import Derived.Maps.AppendAt
import Derived.OwnWalk
import Derived.OwnWalkIn
/-! Slices of ints that a call makes itself: what they are, and the append of one element. -/
namespace Go.Proofs.YtplgbapbgcipdaaGreat
open Go.RowKit

theorem info_int : (Tryz.prog.info? 3).map (fun i => (i.zero, i.size, i.bytes)) = some (some (.int .i64 0), 1, 8) := by kernel_rfl

/-- The slice value (A, length of xs, c) is the call's own: nil, or a row of a block from base on that no one else holds. -/
def OwnI (w : World) (base : Nat) (A : Option Addr) (c : Nat) (xs : List Int) : Prop := w.ownsRow base 3 1 (.slice A xs.length c) xs.length (ints xs)

section
variable {w w' : World} {base : Nat} {A : Option Addr} {c : Nat} {xs : List Int}
theorem OwnI.nil_ (w : World) (base : Nat) : OwnI w base none 0 [] := World.ownsRow_nil _ _ _ _
theorem OwnI.reads (h : OwnI w base A c xs) : Reads w w.heap.size 1 A xs.length (ints xs) := Reads.of_own h
theorem OwnI.drew (h : OwnI w base A c xs) : OwnI w.drew base A c xs := World.ownsRow.drew h
theorem OwnI.drewN (h : OwnI w base A c xs) (n : Nat) : OwnI (w.drewN n) base A c xs := h
theorem OwnI.alloc (h : OwnI w base A c xs) (o : Obj) : OwnI (w.alloc o) base A c xs := World.ownsRow.alloc h o
theorem OwnI.lt (h : OwnI w base A c xs) : ∀ k, (Value.slice A xs.length c).ownBlock = some k → base ≤ k ∧ k < w.heap.size := World.ownsRow.lt h
theorem OwnI.below {B : Nat} (h : OwnI w base A c xs) (hb : Below B w w') (hB : ∀ k, (Value.slice A xs.length c).ownBlock = some k → k < B) : OwnI w' base A c xs := by
  obtain ⟨h1, h2⟩ := h
  refine ⟨h1, ?_⟩
  rcases h2 with h2 | ⟨g, cap, cur, hv, hg, hh, r⟩
  · exact .inl h2
  · exact .inr ⟨g, cap, cur, hv, hg, (hb.block g (hB g (by rw [hv]; rfl))).trans hh, r⟩
theorem OwnI.next (h : OwnI w base A c xs) (hb : Below w.heap.size w w') : OwnI w' base A c xs := h.below hb fun k hk => (h.lt k hk).2
theorem OwnI.mono {base' : Nat} (h : OwnI w base A c xs) (hb : base' ≤ base) : OwnI w base' A c xs := by
  obtain ⟨h1, h2⟩ := h
  refine ⟨h1, ?_⟩
  rcases h2 with h2 | ⟨g, cap, cur, hv, hg, r⟩
  · exact .inl h2
  · exact .inr ⟨g, cap, cur, hv, by omega, r⟩
theorem OwnI.far (h : OwnI w base A c xs) {p : Addr} (hp : p.block < base) (u : Value) : OwnI (w.setCell p u) base A c xs := ownsRow_setCell_below h hp u
/-- A store into a block of another element type leaves it. -/
theorem OwnI.set_blk {g : Nat} {t : TypeId} {cs : Array Value} (h : OwnI w base A c xs) (hg : Blk w g t cs) (ht : 3 ≠ t) (o : Nat) (u : Value) : OwnI (w.setCell ⟨g, o, none⟩ u) base A c xs := by
  have hne := own_blk_ne h hg ht
  obtain ⟨h1, h2⟩ := h
  refine ⟨h1, ?_⟩
  rcases h2 with h2 | ⟨g', cap, cur, hv, hg', hh, r⟩
  · exact .inl h2
  · refine .inr ⟨g', cap, cur, hv, hg', (Below.heap_setCell w ⟨g, o, none⟩ u g' ?_).trans hh, r⟩
    rintro rfl
    exact hne (by rw [hv]; rfl)
end

/-! append: the destination is the call's own; the source is whatever reads as a list. -/
section
variable {P : Program} {F : Fence} {m0 : Nat}
theorem run_append_nil (w : World) (base : Nat) (t ty e : TypeId) (i : TypeInfo) (size : Nat) (ht : P.underlying t = some (.slice e)) (hi : P.info? e = some i)
    (v : Value) (n : Nat) (xs : List Value) (hown : w.ownsRow base e size v n xs) (c : Nat) : (Builtin.append_ #[t, t] ty #[v, .slice none 0 c]).run P w = .ok v w := by
  rcases hown.2 with ⟨rfl, rfl⟩ | ⟨g, cap, cur, rfl, _, _, hnc, _⟩
  · simp [Builtin.append_, run_underlying ht, sizeOf, typeInfo, hi, Builtin.lenOf, Builtin.firstCells]
  · simp [Builtin.append_, run_underlying ht, sizeOf, typeInfo, hi, Builtin.lenOf, Builtin.firstCells, hnc, storeCells]

/-- What append comes to: elements of 'size' cells. -/
theorem run_append_reads (w : World) (base : Nat) (t ty e : TypeId) {z : Value} {size bytes : Nat} (ht : P.underlying t = some (.slice e)) (hinfo : (P.info? e).map (fun i => (i.zero, i.size, i.bytes)) = some (some z, size, bytes)) (hzs : z.cells.size = size) (hby : 0 < size ∧ bytes ≤ 64)
    (A0 : Option Addr) (c0 n : Nat) (xs : List Value) (hown : w.ownsRow base e size (.slice A0 n c0) n xs)
    (B : Nat) (A : Option Addr) (m c : Nat) (news : List Value) (hr : Reads w B size A m news) (h1 : ∀ u ∈ news, u.oneCell' = true) (hn : n + m ≤ 1048576) (hbase : base ≤ w.heap.size) :
    ∃ A' c' w', (Builtin.append_ #[t, t] ty #[.slice A0 n c0, .slice A m c]).run P w = .ok (.slice A' (n + m) c') w' ∧ w'.ownsRow base e size (.slice A' (n + m) c') (n + m) (xs ++ news) ∧ w.grownBy w' (Value.slice A0 n c0).ownBlock ∧ Below base w w' ∧
      ((Value.slice A' (n + m) c').ownBlock = (Value.slice A0 n c0).ownBlock ∨ (Value.slice A' (n + m) c').ownBlock = some w.heap.size) := by
  obtain ⟨i0, hi, hz0, hz1, hz2⟩ := info_parts hinfo
  have hmn : m = 0 → news = [] := fun h => List.eq_nil_of_length_eq_zero (by have := hr.1; rw [h, Nat.zero_mul] at this; exact this)
  rcases A with _ | ad
  · have hm : m = 0 := by
      rcases Nat.eq_zero_or_pos m with h0 | h0
      · exact h0
      · obtain ⟨_, _, h, _⟩ := hr.2 h0
        cases h
    subst hm
    rw [hmn rfl, List.append_nil]
    exact ⟨A0, c0, w, run_append_nil w base t ty e i0 size ht hi _ n xs hown c, hown, World.grownBy.refl w _, Below.refl _ _, .inl rfl⟩
  · have hcells : ∀ j u, news[j]? = some u → w.cell? (ad.add j) = some u := by
      intro j u hu
      rcases Nat.eq_zero_or_pos m with h0 | h0
      · rw [hmn h0] at hu; simp at hu
      · obtain ⟨b, off, h, _, hc⟩ := hr.2 h0
        injection h with h
        subst h
        have := hc j u hu
        by_cases hj : j = 0
        · subst hj; simpa [Addr.add] using this
        · simpa [Addr.add, hj] using this
    obtain ⟨v', w', hrun, h2, h3, _, h5⟩ := run_append_own_at (P := P) w base t ty e i0 z size bytes ht hi hz0 hz1 hz2 hzs hby.1 _ n xs hown ad m c news hr.1 hcells h1 (by simp only [maxLen]; omega)
      (Nat.le_trans (Nat.mul_le_mul hn hby.2) (by omega)) hbase
    have hB : Below base w w' := (Below.refl base w).grown h3 hbase (fun k hk => (hown.lt k hk).1)
    rcases h2.2 with ⟨hv, h0⟩ | ⟨g, cap, cur, hv, _⟩
    · subst hv
      rw [h0] at h2 ⊢
      exact ⟨none, 0, w', hrun, h2, h3, hB, h5⟩
    · subst hv
      exact ⟨some ⟨g, 0, none⟩, cap, w', hrun, h2, h3, hB, h5⟩

theorem append_go {ops : Array Oper} {rest : List Oper} {o : Oper} {a : Act} {Q : Exit → Act → World → Prop} {w : World} (hgd : o.guard = none) (s x : Operand) (t : TypeId)
    (ho : o.op = .call { callee := .builtin .append, args := #[s, x], argTypes := #[t, t] })
    (base : Nat) (e : TypeId) {z : Value} {size bytes : Nat} (ht : P.underlying t = some (.slice e)) (hinfo : (P.info? e).map (fun i => (i.zero, i.size, i.bytes)) = some (some z, size, bytes)) (hzs : z.cells.size = size) (hby : 0 < size ∧ bytes ≤ 64)
    (A0 : Option Addr) (c0 n : Nat) (xs : List Value) (hs : a.eval s = .slice A0 n c0) (hown : w.ownsRow base e size (.slice A0 n c0) n xs)
    (B : Nat) {A : Option Addr} {m c : Nat} (news : List Value) (hx : a.eval x = .slice A m c) (hr : Reads w B size A m news) (h1 : ∀ u ∈ news, u.oneCell' = true) (hn : n + m ≤ 1048576) (hbase : base ≤ w.heap.size)
    (h : ∀ A' c' w', w'.ownsRow base e size (.slice A' (n + m) c') (n + m) (xs ++ news) → w.grownBy w' (Value.slice A0 n c0).ownBlock → Below base w w' →
      ((Value.slice A' (n + m) c').ownBlock = (Value.slice A0 n c0).ownBlock ∨ (Value.slice A' (n + m) c').ownBlock = some w.heap.size) → wpList P ops Q rest (a.put o.dst (.slice A' (n + m) c')) w') :
    wpList P ops Q (o :: rest) a w := by
  obtain ⟨A', c', w', hrun, h2, h3, h4, h5⟩ := run_append_reads (P := P) w base t o.type e ht hinfo hzs hby A0 c0 n xs hown B A m c news hr h1 hn hbase
  refine wpList_plain hgd fun K hK => ?_
  unfold Oper.wp execOp
  simp only [ho, resolve, invoke, builtin, Sem.run_bind, Sem.run_pure, Result.andThen_ok, List.map_toArray, List.map_cons, List.map_nil, hs, hx, hrun]
  exact hK _ _ (h A' c' w' h2 h3 h4 h5)

theorem append_gi {ops : Array Oper} {rest : List Oper} {o : Oper} {a : Act} {Q : Exit → Act → World → Prop} {w : World} (hgd : o.guard = none) (s x : Operand) (t : TypeId)
    (ho : o.op = .call { callee := .builtin .append, args := #[s, x], argTypes := #[t, t] })
    (base : Nat) (e : TypeId) {z : Value} {size bytes : Nat} (ht : P.underlying t = some (.slice e)) (hinfo : (P.info? e).map (fun i => (i.zero, i.size, i.bytes)) = some (some z, size, bytes)) (hzs : z.cells.size = size) (hby : 0 < size ∧ bytes ≤ 64)
    (A0 : Option Addr) (c0 n : Nat) (xs : List Value) (hs : a.eval s = .slice A0 n c0) (hown : w.ownsRow base e size (.slice A0 n c0) n xs)
    (B : Nat) {A : Option Addr} {m c : Nat} (news : List Value) (hx : a.eval x = .slice A m c) (hr : Reads w B size A m news) (h1 : ∀ u ∈ news, u.oneCell' = true) (hn : n + m ≤ 1048576) (hbase : base ≤ w.heap.size)
    (h : ∀ A' c' w', w'.ownsRow base e size (.slice A' (n + m) c') (n + m) (xs ++ news) → w.grownBy w' (Value.slice A0 n c0).ownBlock → Below base w w' →
      ((Value.slice A' (n + m) c').ownBlock = (Value.slice A0 n c0).ownBlock ∨ (Value.slice A' (n + m) c').ownBlock = some w.heap.size) → wpListIn F m0 P ops Q rest (a.put o.dst (.slice A' (n + m) c')) w') :
    wpListIn F m0 P ops Q (o :: rest) a w := by
  obtain ⟨A', c', w', hrun, h2, h3, h4, h5⟩ := run_append_reads (P := P) w base t o.type e ht hinfo hzs hby A0 c0 n xs hown B A m c news hr h1 hn hbase
  refine wpListIn_plain hgd fun K hK => ?_
  unfold Oper.wpIn
  refine ⟨?_, ?_⟩
  · simp [Oper.about, ho, resolve, Target.leads, Sem.run_pure]
  · rw [Oper.semAt_plain F _ _ (by rw [ho]; intro c hc'; cases hc')]
    simp [execOp, ho, resolve, invoke, builtin, hs, hx, hrun, Result.andThen]
    exact hK _ _ (h A' c' w' h2 h3 h4 h5)
end

/-- The source's own type plays no part. -/
theorem append_type2 {P : Program} (t t2 ty e e2 : TypeId) (ht : P.underlying t = some (.slice e)) (ht2 : P.underlying t2 = some (.slice e2)) (args : Array Value) (w : World) :
    (Builtin.append_ #[t, t2] ty args).run P w = (Builtin.append_ #[t, t] ty args).run P w := by
  unfold Builtin.append_
  rcases h0 : args[0]? with _ | s
  · simp
  · rcases h1 : args[1]? with _ | x
    · simp
    · cases s <;> simp [Sem.run_bind, run_underlying ht, run_underlying ht2, Result.andThen]
theorem append_step2 {P : Program} {ops : Array Oper} {o : Oper} {a : Act} {K : Act → World → Prop} {Q : Exit → Act → World → Prop} {E : Prop} {w : World} (hgd : o.guard = none) (s x : Operand) (t t2 : TypeId)
    (ho : o.op = .call { callee := .builtin .append, args := #[s, x], argTypes := #[t, t2] })
    (base : Nat) (e e2 : TypeId) {z : Value} {size bytes : Nat} (ht : P.underlying t = some (.slice e)) (ht2 : P.underlying t2 = some (.slice e2)) (hinfo : (P.info? e).map (fun i => (i.zero, i.size, i.bytes)) = some (some z, size, bytes)) (hzs : z.cells.size = size) (hby : 0 < size ∧ bytes ≤ 64)
    (A0 : Option Addr) (c0 n : Nat) (xs : List Value) (hs : a.eval s = .slice A0 n c0) (hown : w.ownsRow base e size (.slice A0 n c0) n xs)
    (B : Nat) {A : Option Addr} {m c : Nat} (news : List Value) (hx : a.eval x = .slice A m c) (hr : Reads w B size A m news) (h1 : ∀ u ∈ news, u.oneCell' = true) (hn : n + m ≤ 1048576) (hbase : base ≤ w.heap.size)
    (h : ∀ A' c' w', w'.ownsRow base e size (.slice A' (n + m) c') (n + m) (xs ++ news) → w.grownBy w' (Value.slice A0 n c0).ownBlock → Below base w w' →
      ((Value.slice A' (n + m) c').ownBlock = (Value.slice A0 n c0).ownBlock ∨ (Value.slice A' (n + m) c').ownBlock = some w.heap.size) → K (a.put o.dst (.slice A' (n + m) c')) w') :
    if Region.wanted o (yielded ops a.tmps) = true then Oper.wp P o a w K Q else E := by
  have hw : Region.wanted o (yielded ops a.tmps) = true := by simp [Region.wanted, hgd]
  rw [if_pos hw]
  obtain ⟨A', c', w', hrun, h2, h3, h4, h5⟩ := run_append_reads (P := P) w base t o.type e ht hinfo hzs hby A0 c0 n xs hown B A m c news hr h1 hn hbase
  rw [← append_type2 t t2 o.type e e2 ht ht2] at hrun
  unfold Oper.wp execOp
  simp only [ho, resolve, invoke, builtin, Sem.run_bind, Sem.run_pure, Result.andThen_ok, List.map_toArray, List.map_cons, List.map_nil, hs, hx, hrun]
  exact h A' c' w' h2 h3 h4 h5
/-- The box of one new element reads as a list of one. -/
theorem Reads.box (w : World) (u : Value) (e : TypeId) : Reads (w.alloc (.cells #[u] e)) (w.heap.size + 1) 1 (some ⟨w.heap.size, 0, none⟩) 1 [u] :=
  ⟨rfl, fun _ => ⟨w.heap.size, 0, rfl, by omega, fun j v hv => by
    have hj : j = 0 := by
      rcases Nat.eq_zero_or_pos j with h | h
      · exact h
      · rw [List.getElem?_eq_none (by simp; omega)] at hv; cases hv
    subst hj
    have : u = v := by simpa using hv
    subst this
    exact (Blk.new w e #[u]).cell 0⟩⟩

/-- .. and one of several cells. -/
theorem Reads.boxN (w : World) (cs : Array Value) (e : TypeId) : Reads (w.alloc (.cells cs e)) (w.heap.size + 1) cs.size (some ⟨w.heap.size, 0, none⟩) 1 cs.toList :=
  ⟨by simp, fun _ => ⟨w.heap.size, 0, rfl, by omega, fun j v hv => by
    rw [Nat.zero_add, (Blk.new w e cs).cell j]
    simpa using hv⟩⟩
/-- 'append(xs, x)': behind the box of the one new element. -/
theorem push_int {ops : Array Oper} {rest : List Oper} {o : Oper} {a : Act} {Q : Exit → Act → World → Prop} {w : World} (hgd : o.guard = none) (s x : Operand) (t : TypeId)
    (ho : o.op = .call { callee := .builtin .append, args := #[s, x], argTypes := #[t, t] }) (ht : Tryz.prog.underlying t = some (.slice 3))
    (base : Nat) (A : Option Addr) (c : Nat) (xs : List Int) (y : Int) (hs : a.eval s = .slice A xs.length c) (hown : OwnI w base A c xs)
    {g : Nat} (hx : a.eval x = .slice (some ⟨g, 0, none⟩) 1 1) (hgw : g = w.heap.size) (hn : xs.length ≤ 1048000) (hbase : base ≤ w.heap.size)
    (h : ∀ A' c' w', OwnI w' base A' c' (xs ++ [y]) → (w.alloc (.cells #[.int .i64 y] 3)).grownBy w' (Value.slice A xs.length c).ownBlock → Below base w w' →
      wpList Tryz.prog ops Q rest (a.put o.dst (.slice A' (xs.length + 1) c')) w') :
    wpList Tryz.prog ops Q (o :: rest) a (w.alloc (.cells #[.int .i64 y] 3)) := by
  subst hgw
  refine append_go hgd s x t ho base 3 ht info_int rfl (by omega) A c xs.length (ints xs) hs (World.ownsRow.alloc hown _) _ [.int .i64 y] hx (Reads.box _ _ _) (by simp [Value.oneCell']) (by omega) (by simp; omega) ?_
  intro A' c' w' hown' hg hB _
  exact h A' c' w' (by unfold OwnI; rw [List.length_append, ints_snoc]; exact hown') hg (((Below.refl base w).alloc hbase _).trans hB)
/-! Making slices. -/
theorem made_bools (n : Nat) : madeCells #[.bool false] n = bools (List.replicate n false) := by
  apply Array.toList_inj.1
  rw [toList_madeCells_one]
  simp [bools]
theorem made_ints (n : Nat) : madeCells #[.int .i64 0] n = (ints (List.replicate n 0)).toArray := by
  apply Array.toList_inj.1
  rw [toList_madeCells_one]
  simp [ints]
theorem info_bool : (Tryz.prog.info? 4).map (fun i => (i.zero, i.size, i.bytes)) = some (some (.bool false), 1, 1) := by kernel_rfl
theorem make_bools (n : Nat) (hn : n ≤ 1048576) (W : World) : (Instr.makeSlice 93 (.int .i64 (n : Int)) (.int .i64 (n : Int))).run Tryz.prog W =
    .ok (.slice (some ⟨W.heap.size, 0, none⟩) n n) (W.alloc (.cells (bools (List.replicate n false)) 4)) := by
  obtain ⟨i0, hi, hz0, hz1, hz2⟩ := info_parts info_bool
  have hr := run_make (P := Tryz.prog) W 93 4 i0 (.bool false) Tryz.underlying93 hi hz0 .i64 .i64 n n (by omega) (Int.le_refl _) (by rw [hz2]; omega) (by omega)
  simp only [Int.toNat_natCast, hz1, Nat.mul_one] at hr
  rw [hr, show (Value.bool false).cells = #[.bool false] from rfl, made_bools]
theorem make_ints (n : Nat) (hn : n ≤ 1048576) (W : World) : (Instr.makeSlice 25 (.int .i64 (n : Int)) (.int .i64 (n : Int))).run Tryz.prog W =
    .ok (.slice (some ⟨W.heap.size, 0, none⟩) n n) (W.alloc (.cells (ints (List.replicate n 0)).toArray 3)) := by
  obtain ⟨i0, hi, hz0, hz1, hz2⟩ := info_parts info_int
  have hr := run_make (P := Tryz.prog) W 25 3 i0 (.int .i64 0) Tryz.underlying25 hi hz0 .i64 .i64 n n (by omega) (Int.le_refl _) (by rw [hz2]; omega) (by omega)
  simp only [Int.toNat_natCast, hz1, Nat.mul_one] at hr
  rw [hr, show (Value.int .i64 0).cells = #[.int .i64 0] from rfl, made_ints]
end Go.Proofs.YtplgbapbgcipdaaGreat

/-! A forest of joined vertices as cells. -/
namespace Go.Proofs.YtplgbapbgcipdaaGreat
open Go.RowKit

/-- A forest as cells. -/
def fcells (f : List Nat) : Array Value := (f.map fun v : Nat => Value.int .i64 v).toArray
theorem fcells_get {f : List Nat} {v : Nat} (h : v < f.length) : (fcells f)[v]? = some (.int .i64 (f.getD v 0 : Nat)) := by
  simp [fcells, List.getD_eq_getElem?_getD, List.getElem?_eq_getElem h]
theorem fcells_set (f : List Nat) (i x : Nat) : (fcells f).setIfInBounds i (.int .i64 (x : Nat)) = fcells (f.set i x) := by simp [fcells, List.map_set]
theorem list12 {l : List Nat} (h : l.length = 12) : ∃ a0 a1 a2 a3 a4 a5 a6 a7 a8 a9 a10 a11, l = [a0, a1, a2, a3, a4, a5, a6, a7, a8, a9, a10, a11] := by
  match l, h with
  | [a0, a1, a2, a3, a4, a5, a6, a7, a8, a9, a10, a11], _ => exact ⟨_, _, _, _, _, _, _, _, _, _, _, _, rfl⟩
end Go.Proofs.YtplgbapbgcipdaaGreat

/-! Plain laws of a forest of joined vertices in which each vertex has any other one of its part: the roots. No program is in sight. -/
namespace Go.Proofs.YtplgbapbgcipdaaGreat

/-- What an array of 12 vertices says of some pairs: r v is the root of v, h v its height. -/
structure Rp (ps : List (Nat × Nat)) (f : List Nat) (r h : Nat → Nat) : Prop where
  len : f.length = 12
  lt : ∀ v, v < 12 → f.getD v 0 < 12
  fix : ∀ v, v < 12 → f.getD v 0 = v → r v = v
  step : ∀ v, v < 12 → f.getD v 0 ≠ v → h (f.getD v 0) < h v ∧ r (f.getD v 0) = r v
  root : ∀ v, v < 12 → r v < 12 ∧ f.getD (r v) 0 = r v
  same : ∀ u v, u < 12 → v < 12 → (r u = r v ↔ Cn ps u v)
  cnt : ∀ n, n ≤ 12 → BdP n ps → ((List.range n).filter fun v => decide (r v = v)).length = partsP n ps
def FR (ps : List (Nat × Nat)) (f : List Nat) : Prop := ∃ r h, Rp ps f r h
theorem getD_setN (f : List Nat) (i v x : Nat) : (f.set i x).getD v 0 = if v = i ∧ i < f.length then x else f.getD v 0 := by
  simp only [List.getD_eq_getElem?_getD, List.getElem?_set]
  by_cases h : i = v
  · subst h
    by_cases hl : i < f.length
    · simp [hl]
    · simp [hl]
  · simp [h, Ne.symm h]
theorem FR.mem {ps qs : List (Nat × Nat)} {f : List Nat} (h : FR ps f) (hm : ∀ p, p ∈ ps ↔ p ∈ qs) : FR qs f := by
  obtain ⟨r, hh, k⟩ := h
  refine ⟨r, hh, k.len, k.lt, k.fix, k.step, k.root, fun u v hu hv => (k.same u v hu hv).trans (cn_same hm), fun n hn hb => ?_⟩
  rw [k.cnt n hn (fun p hp => hb p ((hm p).1 hp))]
  exact partsP_congr fun _ _ => cn_same hm
theorem range12_get {v : Nat} (hv : v < 12) : (List.range 12).getD v 0 = v := by
  rw [List.getD_eq_getElem?_getD, List.getElem?_range hv]; rfl
theorem fr_nil : FR [] (List.range 12) := by
  refine ⟨id, fun _ => 0, by simp, fun v hv => by rw [range12_get hv]; exact hv, fun v _ _ => rfl, fun v hv h => absurd (range12_get hv) h, fun v hv => ⟨hv, range12_get hv⟩, fun u v _ _ => ⟨fun h => ?_, fun h => cn_nil h⟩, fun n _ _ => ?_⟩
  · have h : u = v := h
    subst h; exact .refl
  · rw [partsP_nil, List.filter_eq_self.2]
    · simp
    · intro v _; simp
theorem Rp.join {ps : List (Nat × Nat)} {f : List Nat} {r h : Nat → Nat} (k : Rp ps f r h) {a b : Nat} (ha : a < 12) (hb : b < 12) : FR ((a, b) :: ps) (f.set (r a) (r b)) := by
  have hra := k.root a ha
  have hrb := k.root b hb
  have hlen := k.len
  by_cases he : r a = r b
  · have hf : f.set (r a) (r b) = f := by
      apply List.ext_getElem?
      intro i
      by_cases hi : r a = i
      · subst hi
        rw [List.getElem?_set_self (by omega), ← he]
        have := hra.2
        rw [List.getD_eq_getElem?_getD, List.getElem?_eq_getElem (by omega)] at this
        rw [List.getElem?_eq_getElem (by omega)]
        simp only [Option.getD_some] at this
        rw [this]
      · rw [List.getElem?_set_ne hi]
    rw [hf]
    have hc : Cn ps a b := (k.same a b ha hb).1 he
    refine ⟨r, h, k.len, k.lt, k.fix, k.step, k.root, fun u v hu hv => (k.same u v hu hv).trans (cn_cons_of (p := (a, b)) hc).symm, fun n hn hbd => ?_⟩
    rw [k.cnt n hn hbd.cons.2, partsP_in (p := (a, b)) hc]
  · have hnc : ¬ Cn ps a b := fun hc => he ((k.same a b ha hb).2 hc)
    have hrr : ∀ v, v < 12 → r (r v) = r v := fun v hv => k.fix _ (k.root v hv).1 (k.root v hv).2
    have hg : ∀ v, (f.set (r a) (r b)).getD v 0 = if v = r a then r b else f.getD v 0 := fun v => by
      rw [getD_setN]
      by_cases hv : v = r a
      · rw [if_pos ⟨hv, by omega⟩, if_pos hv]
      · rw [if_neg (fun hc => hv hc.1), if_neg hv]
    have hrv : ∀ u v, u < 12 → v < 12 → (((if r u = r a then r b else r u) = (if r v = r a then r b else r v)) ↔ Cn ((a, b) :: ps) u v) := by
      intro u v hu hv
      rw [cn_cons]
      rw [← k.same u v hu hv, ← k.same u a hu ha, ← k.same b v hb hv, ← k.same u b hu hb, ← k.same a v ha hv]
      split <;> split <;> omega
    refine ⟨fun v => if r v = r a then r b else r v, fun v => if r v = r a then h v + h (r b) + 1 else h v, by simpa using hlen, ?_, ?_, ?_, ?_, hrv, ?_⟩
    · intro v hv
      rw [hg]
      split
      · exact hrb.1
      · exact k.lt v hv
    · intro v hv hfv
      rw [hg] at hfv
      split at hfv
      · omega
      · have := k.fix v hv hfv
        rw [if_neg (by omega)]; exact this
    · intro v hv hfv
      rw [hg] at hfv ⊢
      have e1 := hrr a ha
      have e2 := hrr b hb
      by_cases hva : v = r a
      · have hn : ¬ r b = r a := fun e => he e.symm
        rw [if_pos hva, hva]
        simp only [e1, e2, if_true, hn, if_false]
        exact ⟨by omega, trivial⟩
      · rw [if_neg hva] at hfv ⊢
        obtain ⟨s1, s2⟩ := k.step v hv hfv
        rw [s2]
        refine ⟨?_, rfl⟩
        split <;> omega
    · intro v hv
      have := k.root v hv
      by_cases hva : r v = r a
      · rw [if_pos hva, hg, if_neg (fun e => he e.symm)]; exact hrb
      · rw [if_neg hva, hg, if_neg hva]; exact this
    · intro n hn hbd
      obtain ⟨⟨h1, h2⟩, hbd'⟩ := hbd.cons
      dsimp only at h1 h2
      have hp := partsP_out (p := (a, b)) (n := n) h1 h2 hnc
      rw [← k.cnt n hn hbd'] at hp
      have hran : r a < n := ((k.same a (r a) ha hra.1).1 (hrr a ha).symm).lt hbd' h1
      have := filter_less (l := List.range n) List.nodup_range (x := r a) (by rw [List.mem_range]; exact hran) (P := fun v => decide (r v = v)) (Q := fun v => decide ((if r v = r a then r b else r v) = v)) (by rw [decide_eq_true_eq]; exact hrr a ha) (fun v hv => ?_)
      · omega
      · rw [List.mem_range] at hv
        have e1 := hrr a ha
        have e2 := hrr b hb
        have e3 := hrr v (by omega)
        rw [Bool.eq_iff_iff, Bool.and_eq_true, Bool.not_eq_true', decide_eq_true_eq, decide_eq_true_eq, decide_eq_false_iff_not]
        constructor
        · intro hh
          split at hh
          · rename_i hva
            rw [← hh, e2] at hva; omega
          · exact ⟨hh, by omega⟩
        · rintro ⟨h3, h4⟩
          rw [if_neg (by omega)]; exact h3
/-- The next pair. -/
theorem Rp.snoc {ps : List (Nat × Nat)} {f : List Nat} {r h : Nat → Nat} (k : Rp ps f r h) {a b : Nat} (ha : a < 12) (hb : b < 12) : FR (ps ++ [(a, b)]) (f.set (r a) (r b)) :=
  (k.join ha hb).mem fun p => by simp [or_comm]
end Go.Proofs.YtplgbapbgcipdaaGreat

/-! Plain laws of spanning trees as sets of single edges: what a single edge separates, paths, exchanges. No program is in sight. -/
namespace Go.Proofs.YtplgbapbgcipdaaGreat

/-- The ends of some single edges. -/
def pk (E : List (Nat × Nat)) (t : List Nat) : List (Nat × Nat) := t.map fun e => E.getD e (0, 0)
/-- A list without a number. -/
def lessL (t : List Nat) (e : Nat) : List Nat := t.filter fun x => !decide (x = e)
/-- A set of numbers below m, ascending. -/
def SetN (m : Nat) (t : List Nat) : Prop := t.Pairwise (· < ·) ∧ ∀ e ∈ t, e < m
/-- Single edges without a cycle, each once. -/
structure FoE (n : Nat) (E : List (Nat × Nat)) (t : List Nat) : Prop where
  bd : BdP n E
  nodup : t.Nodup
  lt : ∀ e ∈ t, e < E.length
  fo : Fo (pk E t)

section
variable {E : List (Nat × Nat)} {t u : List Nat} {n e f a b : Nat}
theorem SetN.nodup {m : Nat} (h : SetN m t) : t.Nodup := h.1.imp fun h => by omega
theorem mem_pk {p : Nat × Nat} : p ∈ pk E t ↔ ∃ e ∈ t, E.getD e (0, 0) = p := by simp [pk]
theorem pk_length : (pk E t).length = t.length := by simp [pk]
theorem getD_bd (hb : BdP n E) (he : e < E.length) : (E.getD e (0, 0)).1 < n ∧ (E.getD e (0, 0)).2 < n := by
  have : E.getD e (0, 0) ∈ E := by
    rw [List.getD_eq_getElem?_getD, List.getElem?_eq_getElem he]; exact List.getElem_mem he
  exact hb _ this
theorem bd_pk (hb : BdP n E) (h : ∀ e ∈ t, e < E.length) : BdP n (pk E t) := by
  intro p hp
  obtain ⟨e, he, rfl⟩ := mem_pk.1 hp
  exact getD_bd hb (h e he)
theorem mem_less {x : Nat} : x ∈ lessL t e ↔ x ∈ t ∧ x ≠ e := by simp [lessL]
theorem less_sub : (lessL t e).Sublist t := List.filter_sublist
theorem less_nodup (h : t.Nodup) : (lessL t e).Nodup := h.sublist less_sub
theorem less_not (h : e ∉ t) : lessL t e = t := by
  unfold lessL
  rw [List.filter_eq_self.2]
  intro x hx
  have : x ≠ e := fun h' => h (h' ▸ hx)
  simp [this]
theorem less_perm : ∀ {t : List Nat}, t.Nodup → e ∈ t → t.Perm (e :: lessL t e)
  | [], _, h => by simp at h
  | x :: t, hn, h => by
    rw [List.nodup_cons] at hn
    by_cases hx : x = e
    · subst hx
      have : lessL (x :: t) x = t := by
        have : lessL (x :: t) x = lessL t x := by simp [lessL]
        rw [this, less_not hn.1]
      rw [this]
    · have hl : lessL (x :: t) e = x :: lessL t e := by simp [lessL, hx]
      rw [hl]
      have he : e ∈ t := (List.mem_cons.1 h).elim (fun h => absurd h.symm hx) id
      exact ((less_perm hn.2 he).cons x).trans (List.Perm.swap e x _)
theorem less_length (hn : t.Nodup) (h : e ∈ t) : (lessL t e).length + 1 = t.length := by
  have := (less_perm hn h).length_eq; simp at this; omega
theorem pk_perm (h : t.Perm u) : (pk E t).Perm (pk E u) := h.map _
theorem pk_sub (h : t.Sublist u) : (pk E t).Sublist (pk E u) := h.map _
theorem cn_sub (h : ∀ x ∈ t, x ∈ u) (hc : Cn (pk E t) a b) : Cn (pk E u) a b := hc.mono fun p hp => by
  obtain ⟨e, he, rfl⟩ := mem_pk.1 hp
  exact mem_pk.2 ⟨e, h e he, rfl⟩
theorem FoE.less (h : FoE n E t) (e : Nat) : FoE n E (lessL t e) := ⟨h.bd, less_nodup h.nodup, fun x hx => h.lt x (mem_less.1 hx).1, h.fo.sub (pk_sub less_sub)⟩
theorem FoE.add (h : FoE n E t) (he : e < E.length) (hn : e ∉ t) (hc : ¬ Cn (pk E t) (E.getD e (0, 0)).1 (E.getD e (0, 0)).2) : FoE n E (e :: t) :=
  ⟨h.bd, List.nodup_cons.2 ⟨hn, h.nodup⟩, fun x hx => (List.mem_cons.1 hx).elim (fun h => h ▸ he) (h.lt x), ⟨h.fo, hc⟩⟩
theorem FoE.perm (h : FoE n E t) (hp : t.Perm u) : FoE n E u := ⟨h.bd, hp.nodup_iff.1 h.nodup, fun x hx => h.lt x (hp.mem_iff.2 hx), (fo_perm (bd_pk h.bd h.lt) (pk_perm hp)).1 h.fo⟩
/-- The other end of a single edge. -/
def oth (p : Nat × Nat) (v : Nat) : Nat := if p.1 = v then p.2 else p.1
/-- A single edge touches a vertex. -/
def Inc (E : List (Nat × Nat)) (e v : Nat) : Prop := (E.getD e (0, 0)).1 = v ∨ (E.getD e (0, 0)).2 = v
instance inc_dec (E : List (Nat × Nat)) (e v : Nat) : Decidable (Inc E e v) := inferInstanceAs (Decidable (_ ∨ _))
theorem inc_cases {v : Nat} (h : Inc E e v) : ((E.getD e (0, 0)).1 = v ∧ (E.getD e (0, 0)).2 = oth (E.getD e (0, 0)) v) ∨ ((E.getD e (0, 0)).2 = v ∧ (E.getD e (0, 0)).1 = oth (E.getD e (0, 0)) v) := by
  unfold oth
  by_cases h1 : (E.getD e (0, 0)).1 = v
  · exact .inl ⟨h1, by rw [if_pos h1]⟩
  · rcases h with h | h
    · exact absurd h h1
    · exact .inr ⟨h, by rw [if_neg h1]⟩
/-- Where a single edge is present, its ends are connected. -/
theorem inc_cn {v : Nat} (he : e ∈ t) (h : Inc E e v) : Cn (pk E t) v (oth (E.getD e (0, 0)) v) := by
  have hp : Cn (pk E t) (E.getD e (0, 0)).1 (E.getD e (0, 0)).2 := Cn.pair (mem_pk.2 ⟨e, he, rfl⟩)
  rcases inc_cases h with ⟨h1, h2⟩ | ⟨h1, h2⟩
  · rw [h1, h2] at hp; exact hp
  · rw [h1, h2] at hp; exact hp.symm
/-- A single edge that separates two vertices in a tree. -/
def Sep (E : List (Nat × Nat)) (t : List Nat) (a b e : Nat) : Prop := ¬ Cn (pk E (lessL t e)) a b
instance sep_dec (E : List (Nat × Nat)) (t : List Nat) (a b e : Nat) : Decidable (Sep E t a b e) := inferInstanceAs (Decidable (¬ _))
theorem Sep.symm (h : Sep E t a b e) : Sep E t b a e := fun hc => h hc.symm
end
end Go.Proofs.YtplgbapbgcipdaaGreat

