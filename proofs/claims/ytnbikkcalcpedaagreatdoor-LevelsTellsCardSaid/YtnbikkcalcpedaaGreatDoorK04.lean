/-
  Texts of this claim, put together: Own.
-/
import Derived.Test.YtnbikkcalcpedaaGreatDoorRows
import Derived.Test.YtnbikkcalcpedaaGreatDoorK01
import Derived.WalkKit
import Derived.WalkSpells
import Derived.Maps.AppendAt
import Derived.OwnWalk
import Derived.OwnWalkIn
namespace Go.Proofs.YtnbikkcalcpedaaGreatDoor
open Go.RowKit
theorem info_int : (Tryz.prog.info? 3).map (fun i => (i.zero, i.size, i.bytes)) = some (some (.int .i64 0), 1, 8) := by kernel_rfl
def OwnI (w : World) (base : Nat) (A : Option Addr) (c : Nat) (xs : List Int) : Prop := w.ownsRow base 3 1 (.slice A xs.length c) xs.length (ints xs)
section
variable {w w' : World} {base : Nat} {A : Option Addr} {c : Nat} {xs : List Int}
theorem OwnI.nil_ (w : World) (base : Nat) : OwnI w base none 0 [] := World.ownsRow_nil _ _ _ _
theorem OwnI.reads (h : OwnI w base A c xs) : Reads w w.heap.size 1 A xs.length (ints xs) := Reads.of_own h
theorem OwnI.drew (h : OwnI w base A c xs) : OwnI w.drew base A c xs := World.ownsRow.drew h
theorem OwnI.drewN (h : OwnI w base A c xs) (n : Nat) : OwnI (w.drewN n) base A c xs := h
theorem OwnI.alloc (h : OwnI w base A c xs) (o : Obj) : OwnI (w.alloc o) base A c xs := World.ownsRow.alloc h o
theorem OwnI.lt (h : OwnI w base A c xs) : ∀ k, (Value.slice A xs.length c).ownBlock = some k → base ≤ k ∧ k < w.heap.size := World.ownsRow.lt h
theorem OwnI.below {B : Nat} (h : OwnI w base A c xs) (hb : Below B w w') (hB : ∀ k, (Value.slice A xs.length c).ownBlock = some k → k < B) : OwnI w' base A c xs := by
  obtain ⟨h1, h2⟩ := h
  refine ⟨h1, ?_⟩
  rcases h2 with h2 | ⟨g, cap, cur, hv, hg, hh, r⟩
  · exact .inl h2
  · exact .inr ⟨g, cap, cur, hv, hg, (hb.block g (hB g (by rw [hv]; rfl))).trans hh, r⟩
theorem OwnI.next (h : OwnI w base A c xs) (hb : Below w.heap.size w w') : OwnI w' base A c xs := h.below hb fun k hk => (h.lt k hk).2
theorem OwnI.mono {base' : Nat} (h : OwnI w base A c xs) (hb : base' ≤ base) : OwnI w base' A c xs := by
  obtain ⟨h1, h2⟩ := h
  refine ⟨h1, ?_⟩
  rcases h2 with h2 | ⟨g, cap, cur, hv, hg, r⟩
  · exact .inl h2
  · exact .inr ⟨g, cap, cur, hv, by omega, r⟩
theorem OwnI.far (h : OwnI w base A c xs) {p : Addr} (hp : p.block < base) (u : Value) : OwnI (w.setCell p u) base A c xs := ownsRow_setCell_below h hp u
theorem OwnI.set_blk {g : Nat} {t : TypeId} {cs : Array Value} (h : OwnI w base A c xs) (hg : Blk w g t cs) (ht : 3 ≠ t) (o : Nat) (u : Value) : OwnI (w.setCell ⟨g, o, none⟩ u) base A c xs := by
  have hne := own_blk_ne h hg ht
  obtain ⟨h1, h2⟩ := h
  refine ⟨h1, ?_⟩
  rcases h2 with h2 | ⟨g', cap, cur, hv, hg', hh, r⟩
  · exact .inl h2
  · refine .inr ⟨g', cap, cur, hv, hg', (Below.heap_setCell w ⟨g, o, none⟩ u g' ?_).trans hh, r⟩
    rintro rfl
    exact hne (by rw [hv]; rfl)
end
section
variable {P : Program} {F : Fence} {m0 : Nat}
theorem run_append_nil (w : World) (base : Nat) (t ty e : TypeId) (i : TypeInfo) (size : Nat) (ht : P.underlying t = some (.slice e)) (hi : P.info? e = some i)
    (v : Value) (n : Nat) (xs : List Value) (hown : w.ownsRow base e size v n xs) (c : Nat) : (Builtin.append_ #[t, t] ty #[v, .slice none 0 c]).run P w = .ok v w := by
  rcases hown.2 with ⟨rfl, rfl⟩ | ⟨g, cap, cur, rfl, _, _, hnc, _⟩
  · simp [Builtin.append_, run_underlying ht, sizeOf, typeInfo, hi, Builtin.lenOf, Builtin.firstCells]
  · simp [Builtin.append_, run_underlying ht, sizeOf, typeInfo, hi, Builtin.lenOf, Builtin.firstCells, hnc, storeCells]
theorem run_append_reads (w : World) (base : Nat) (t ty e : TypeId) {z : Value} {size bytes : Nat} (ht : P.underlying t = some (.slice e)) (hinfo : (P.info? e).map (fun i => (i.zero, i.size, i.bytes)) = some (some z, size, bytes)) (hzs : z.cells.size = size) (hby : 0 < size ∧ bytes ≤ 64)
    (A0 : Option Addr) (c0 n : Nat) (xs : List Value) (hown : w.ownsRow base e size (.slice A0 n c0) n xs)
    (B : Nat) (A : Option Addr) (m c : Nat) (news : List Value) (hr : Reads w B size A m news) (h1 : ∀ u ∈ news, u.oneCell' = true) (hn : n + m ≤ 1048576) (hbase : base ≤ w.heap.size) :
    ∃ A' c' w', (Builtin.append_ #[t, t] ty #[.slice A0 n c0, .slice A m c]).run P w = .ok (.slice A' (n + m) c') w' ∧ w'.ownsRow base e size (.slice A' (n + m) c') (n + m) (xs ++ news) ∧ w.grownBy w' (Value.slice A0 n c0).ownBlock ∧ Below base w w' ∧
      ((Value.slice A' (n + m) c').ownBlock = (Value.slice A0 n c0).ownBlock ∨ (Value.slice A' (n + m) c').ownBlock = some w.heap.size) := by
  obtain ⟨i0, hi, hz0, hz1, hz2⟩ := info_parts hinfo
  have hmn : m = 0 → news = [] := fun h => List.eq_nil_of_length_eq_zero (by have := hr.1; rw [h, Nat.zero_mul] at this; exact this)
  rcases A with _ | ad
  · have hm : m = 0 := by
      rcases Nat.eq_zero_or_pos m with h0 | h0
      · exact h0
      · obtain ⟨_, _, h, _⟩ := hr.2 h0
        cases h
    subst hm
    rw [hmn rfl, List.append_nil]
    exact ⟨A0, c0, w, run_append_nil w base t ty e i0 size ht hi _ n xs hown c, hown, World.grownBy.refl w _, Below.refl _ _, .inl rfl⟩
  · have hcells : ∀ j u, news[j]? = some u → w.cell? (ad.add j) = some u := by
      intro j u hu
      rcases Nat.eq_zero_or_pos m with h0 | h0
      · rw [hmn h0] at hu; simp at hu
      · obtain ⟨b, off, h, _, hc⟩ := hr.2 h0
        injection h with h
        subst h
        have := hc j u hu
        by_cases hj : j = 0
        · subst hj; simpa [Addr.add] using this
        · simpa [Addr.add, hj] using this
    obtain ⟨v', w', hrun, h2, h3, _, h5⟩ := run_append_own_at (P := P) w base t ty e i0 z size bytes ht hi hz0 hz1 hz2 hzs hby.1 _ n xs hown ad m c news hr.1 hcells h1 (by simp only [maxLen]; omega)
      (Nat.le_trans (Nat.mul_le_mul hn hby.2) (by omega)) hbase
    have hB : Below base w w' := (Below.refl base w).grown h3 hbase (fun k hk => (hown.lt k hk).1)
    rcases h2.2 with ⟨hv, h0⟩ | ⟨g, cap, cur, hv, _⟩
    · subst hv
      rw [h0] at h2 ⊢
      exact ⟨none, 0, w', hrun, h2, h3, hB, h5⟩
    · subst hv
      exact ⟨some ⟨g, 0, none⟩, cap, w', hrun, h2, h3, hB, h5⟩
theorem append_go {ops : Array Oper} {rest : List Oper} {o : Oper} {a : Act} {Q : Exit → Act → World → Prop} {w : World} (hgd : o.guard = none) (s x : Operand) (t : TypeId)
    (ho : o.op = .call { callee := .builtin .append, args := #[s, x], argTypes := #[t, t] })
    (base : Nat) (e : TypeId) {z : Value} {size bytes : Nat} (ht : P.underlying t = some (.slice e)) (hinfo : (P.info? e).map (fun i => (i.zero, i.size, i.bytes)) = some (some z, size, bytes)) (hzs : z.cells.size = size) (hby : 0 < size ∧ bytes ≤ 64)
    (A0 : Option Addr) (c0 n : Nat) (xs : List Value) (hs : a.eval s = .slice A0 n c0) (hown : w.ownsRow base e size (.slice A0 n c0) n xs)
    (B : Nat) {A : Option Addr} {m c : Nat} (news : List Value) (hx : a.eval x = .slice A m c) (hr : Reads w B size A m news) (h1 : ∀ u ∈ news, u.oneCell' = true) (hn : n + m ≤ 1048576) (hbase : base ≤ w.heap.size)
    (h : ∀ A' c' w', w'.ownsRow base e size (.slice A' (n + m) c') (n + m) (xs ++ news) → w.grownBy w' (Value.slice A0 n c0).ownBlock → Below base w w' →
      ((Value.slice A' (n + m) c').ownBlock = (Value.slice A0 n c0).ownBlock ∨ (Value.slice A' (n + m) c').ownBlock = some w.heap.size) → wpList P ops Q rest (a.put o.dst (.slice A' (n + m) c')) w') :
    wpList P ops Q (o :: rest) a w := by
  obtain ⟨A', c', w', hrun, h2, h3, h4, h5⟩ := run_append_reads (P := P) w base t o.type e ht hinfo hzs hby A0 c0 n xs hown B A m c news hr h1 hn hbase
  refine wpList_plain hgd fun K hK => ?_
  unfold Oper.wp execOp
  simp only [ho, resolve, invoke, builtin, Sem.run_bind, Sem.run_pure, Result.andThen_ok, List.map_toArray, List.map_cons, List.map_nil, hs, hx, hrun]
  exact hK _ _ (h A' c' w' h2 h3 h4 h5)
theorem append_gi {ops : Array Oper} {rest : List Oper} {o : Oper} {a : Act} {Q : Exit → Act → World → Prop} {w : World} (hgd : o.guard = none) (s x : Operand) (t : TypeId)
    (ho : o.op = .call { callee := .builtin .append, args := #[s, x], argTypes := #[t, t] })
    (base : Nat) (e : TypeId) {z : Value} {size bytes : Nat} (ht : P.underlying t = some (.slice e)) (hinfo : (P.info? e).map (fun i => (i.zero, i.size, i.bytes)) = some (some z, size, bytes)) (hzs : z.cells.size = size) (hby : 0 < size ∧ bytes ≤ 64)
    (A0 : Option Addr) (c0 n : Nat) (xs : List Value) (hs : a.eval s = .slice A0 n c0) (hown : w.ownsRow base e size (.slice A0 n c0) n xs)
    (B : Nat) {A : Option Addr} {m c : Nat} (news : List Value) (hx : a.eval x = .slice A m c) (hr : Reads w B size A m news) (h1 : ∀ u ∈ news, u.oneCell' = true) (hn : n + m ≤ 1048576) (hbase : base ≤ w.heap.size)
    (h : ∀ A' c' w', w'.ownsRow base e size (.slice A' (n + m) c') (n + m) (xs ++ news) → w.grownBy w' (Value.slice A0 n c0).ownBlock → Below base w w' →
      ((Value.slice A' (n + m) c').ownBlock = (Value.slice A0 n c0).ownBlock ∨ (Value.slice A' (n + m) c').ownBlock = some w.heap.size) → wpListIn F m0 P ops Q rest (a.put o.dst (.slice A' (n + m) c')) w') :
    wpListIn F m0 P ops Q (o :: rest) a w := by
  obtain ⟨A', c', w', hrun, h2, h3, h4, h5⟩ := run_append_reads (P := P) w base t o.type e ht hinfo hzs hby A0 c0 n xs hown B A m c news hr h1 hn hbase
  refine wpListIn_plain hgd fun K hK => ?_
  unfold Oper.wpIn
  refine ⟨?_, ?_⟩
  · simp [Oper.about, ho, resolve, Target.leads, Sem.run_pure]
  · rw [Oper.semAt_plain F _ _ (by rw [ho]; intro c hc'; cases hc')]
    simp [execOp, ho, resolve, invoke, builtin, hs, hx, hrun, Result.andThen]
    exact hK _ _ (h A' c' w' h2 h3 h4 h5)
end
theorem append_type2 {P : Program} (t t2 ty e e2 : TypeId) (ht : P.underlying t = some (.slice e)) (ht2 : P.underlying t2 = some (.slice e2)) (args : Array Value) (w : World) :
    (Builtin.append_ #[t, t2] ty args).run P w = (Builtin.append_ #[t, t] ty args).run P w := by
  unfold Builtin.append_
  rcases h0 : args[0]? with _ | s
  · simp
  · rcases h1 : args[1]? with _ | x
    · simp
    · cases s <;> simp [Sem.run_bind, run_underlying ht, run_underlying ht2, Result.andThen]
theorem append_step2 {P : Program} {ops : Array Oper} {o : Oper} {a : Act} {K : Act → World → Prop} {Q : Exit → Act → World → Prop} {E : Prop} {w : World} (hgd : o.guard = none) (s x : Operand) (t t2 : TypeId)
    (ho : o.op = .call { callee := .builtin .append, args := #[s, x], argTypes := #[t, t2] })
    (base : Nat) (e e2 : TypeId) {z : Value} {size bytes : Nat} (ht : P.underlying t = some (.slice e)) (ht2 : P.underlying t2 = some (.slice e2)) (hinfo : (P.info? e).map (fun i => (i.zero, i.size, i.bytes)) = some (some z, size, bytes)) (hzs : z.cells.size = size) (hby : 0 < size ∧ bytes ≤ 64)
    (A0 : Option Addr) (c0 n : Nat) (xs : List Value) (hs : a.eval s = .slice A0 n c0) (hown : w.ownsRow base e size (.slice A0 n c0) n xs)
    (B : Nat) {A : Option Addr} {m c : Nat} (news : List Value) (hx : a.eval x = .slice A m c) (hr : Reads w B size A m news) (h1 : ∀ u ∈ news, u.oneCell' = true) (hn : n + m ≤ 1048576) (hbase : base ≤ w.heap.size)
    (h : ∀ A' c' w', w'.ownsRow base e size (.slice A' (n + m) c') (n + m) (xs ++ news) → w.grownBy w' (Value.slice A0 n c0).ownBlock → Below base w w' →
      ((Value.slice A' (n + m) c').ownBlock = (Value.slice A0 n c0).ownBlock ∨ (Value.slice A' (n + m) c').ownBlock = some w.heap.size) → K (a.put o.dst (.slice A' (n + m) c')) w') :
    if Region.wanted o (yielded ops a.tmps) = true then Oper.wp P o a w K Q else E := by
  have hw : Region.wanted o (yielded ops a.tmps) = true := by simp [Region.wanted, hgd]
  rw [if_pos hw]
  obtain ⟨A', c', w', hrun, h2, h3, h4, h5⟩ := run_append_reads (P := P) w base t o.type e ht hinfo hzs hby A0 c0 n xs hown B A m c news hr h1 hn hbase
  rw [← append_type2 t t2 o.type e e2 ht ht2] at hrun
  unfold Oper.wp execOp
  simp only [ho, resolve, invoke, builtin, Sem.run_bind, Sem.run_pure, Result.andThen_ok, List.map_toArray, List.map_cons, List.map_nil, hs, hx, hrun]
  exact h A' c' w' h2 h3 h4 h5
theorem Reads.box (w : World) (u : Value) (e : TypeId) : Reads (w.alloc (.cells #[u] e)) (w.heap.size + 1) 1 (some ⟨w.heap.size, 0, none⟩) 1 [u] :=
  ⟨rfl, fun _ => ⟨w.heap.size, 0, rfl, by omega, fun j v hv => by
    have hj : j = 0 := by
      rcases Nat.eq_zero_or_pos j with h | h
      · exact h
      · rw [List.getElem?_eq_none (by simp; omega)] at hv; cases hv
    subst hj
    have : u = v := by simpa using hv
    subst this
    exact (Blk.new w e #[u]).cell 0⟩⟩
theorem Reads.boxN (w : World) (cs : Array Value) (e : TypeId) : Reads (w.alloc (.cells cs e)) (w.heap.size + 1) cs.size (some ⟨w.heap.size, 0, none⟩) 1 cs.toList :=
  ⟨by simp, fun _ => ⟨w.heap.size, 0, rfl, by omega, fun j v hv => by
    rw [Nat.zero_add, (Blk.new w e cs).cell j]
    simpa using hv⟩⟩
theorem push_int {ops : Array Oper} {rest : List Oper} {o : Oper} {a : Act} {Q : Exit → Act → World → Prop} {w : World} (hgd : o.guard = none) (s x : Operand) (t : TypeId)
    (ho : o.op = .call { callee := .builtin .append, args := #[s, x], argTypes := #[t, t] }) (ht : Tryz.prog.underlying t = some (.slice 3))
    (base : Nat) (A : Option Addr) (c : Nat) (xs : List Int) (y : Int) (hs : a.eval s = .slice A xs.length c) (hown : OwnI w base A c xs)
    {g : Nat} (hx : a.eval x = .slice (some ⟨g, 0, none⟩) 1 1) (hgw : g = w.heap.size) (hn : xs.length ≤ 1048000) (hbase : base ≤ w.heap.size)
    (h : ∀ A' c' w', OwnI w' base A' c' (xs ++ [y]) → (w.alloc (.cells #[.int .i64 y] 3)).grownBy w' (Value.slice A xs.length c).ownBlock → Below base w w' →
      wpList Tryz.prog ops Q rest (a.put o.dst (.slice A' (xs.length + 1) c')) w') :
    wpList Tryz.prog ops Q (o :: rest) a (w.alloc (.cells #[.int .i64 y] 3)) := by
  subst hgw
  refine append_go hgd s x t ho base 3 ht info_int rfl (by omega) A c xs.length (ints xs) hs (World.ownsRow.alloc hown _) _ [.int .i64 y] hx (Reads.box _ _ _) (by simp [Value.oneCell']) (by omega) (by simp; omega) ?_
  intro A' c' w' hown' hg hB _
  exact h A' c' w' (by unfold OwnI; rw [List.length_append, ints_snoc]; exact hown') hg (((Below.refl base w).alloc hbase _).trans hB)
theorem made_bools (n : Nat) : madeCells #[.bool false] n = bools (List.replicate n false) := by
  apply Array.toList_inj.1
  rw [toList_madeCells_one]
  simp [bools]
theorem made_ints (n : Nat) : madeCells #[.int .i64 0] n = (ints (List.replicate n 0)).toArray := by
  apply Array.toList_inj.1
  rw [toList_madeCells_one]
  simp [ints]
theorem info_bool : (Tryz.prog.info? 4).map (fun i => (i.zero, i.size, i.bytes)) = some (some (.bool false), 1, 1) := by kernel_rfl
theorem make_bools (n : Nat) (hn : n ≤ 1048576) (W : World) : (Instr.makeSlice 109 (.int .i64 (n : Int)) (.int .i64 (n : Int))).run Tryz.prog W =
    .ok (.slice (some ⟨W.heap.size, 0, none⟩) n n) (W.alloc (.cells (bools (List.replicate n false)) 4)) := by
  obtain ⟨i0, hi, hz0, hz1, hz2⟩ := info_parts info_bool
  have hr := run_make (P := Tryz.prog) W 109 4 i0 (.bool false) Tryz.underlying109 hi hz0 .i64 .i64 n n (by omega) (Int.le_refl _) (by rw [hz2]; omega) (by omega)
  simp only [Int.toNat_natCast, hz1, Nat.mul_one] at hr
  rw [hr, show (Value.bool false).cells = #[.bool false] from rfl, made_bools]
theorem make_ints (n : Nat) (hn : n ≤ 1048576) (W : World) : (Instr.makeSlice 25 (.int .i64 (n : Int)) (.int .i64 (n : Int))).run Tryz.prog W =
    .ok (.slice (some ⟨W.heap.size, 0, none⟩) n n) (W.alloc (.cells (ints (List.replicate n 0)).toArray 3)) := by
  obtain ⟨i0, hi, hz0, hz1, hz2⟩ := info_parts info_int
  have hr := run_make (P := Tryz.prog) W 25 3 i0 (.int .i64 0) Tryz.underlying25 hi hz0 .i64 .i64 n n (by omega) (Int.le_refl _) (by rw [hz2]; omega) (by omega)
  simp only [Int.toNat_natCast, hz1, Nat.mul_one] at hr
  rw [hr, show (Value.int .i64 0).cells = #[.int .i64 0] from rfl, made_ints]
end Go.Proofs.YtnbikkcalcpedaaGreatDoor
