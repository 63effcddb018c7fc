/-
  Texts of this claim, put together: PushF, Grid.
-/
import Derived.Test.YtplgbapbgcipdaaGreatDoorK04
import Derived.Test.YtplgbapbgcipdaaGreatDoorK12
import Derived.Deep.DeepAppendRoom
import Derived.Test.YtplgbapbgcipdaaGreatDoorK13
/-! append of one element, told by its two ways: in place, or in a new block, where the old one stays as it is. -/
namespace Go.Proofs.YtplgbapbgcipdaaGreatDoor
open Go.RowKit

theorem run_push_fork {P : Program} (w : World) (base : Nat) (t ty e : TypeId) {z : Value} {bytes : Nat} (ht : P.underlying t = some (.slice e)) (hinfo : (P.info? e).map (fun i => (i.zero, i.size, i.bytes)) = some (some z, 1, bytes)) (hzs : z.cells.size = 1) (hby : bytes ≤ 64)
    (A0 : Option Addr) (c0 n : Nat) (xs : List Value) (hown : w.ownsRow base e 1 (.slice A0 n c0) n xs)
    (a : Addr) (cc : Nat) (y : Value) (hy : w.cell? a = some y) (h1 : y.oneCell' = true) (hn : n + 1 ≤ 1048576) (hbase : base ≤ w.heap.size) :
    ∃ A' c' w', (Builtin.append_ #[t, t] ty #[.slice A0 n c0, .slice (some a) 1 cc]).run P w = .ok (.slice A' (n + 1) c') w' ∧ w'.ownsRow base e 1 (.slice A' (n + 1) c') (n + 1) (xs ++ [y]) ∧ w.grownBy w' (Value.slice A0 n c0).ownBlock ∧ Below base w w' ∧
      ((A' = A0 ∧ c' = c0 ∧ n + 1 ≤ c0) ∨ ((Value.slice A' (n + 1) c').ownBlock = some w.heap.size ∧ Below w.heap.size w w')) := by
  obtain ⟨i, hi, hz, hz1, hz2⟩ := info_parts hinfo
  have hnews : ∀ j u, [y][j]? = some u → w.cell? (a.add j) = some u := by
    intro j u hu
    rcases Nat.eq_zero_or_pos j with rfl | hj
    · rw [← show y = u by simpa using hu]; simpa [Addr.add] using hy
    · rw [List.getElem?_eq_none (by simp; omega)] at hu; cases hu
  have h1s : ∀ u ∈ [y], u.oneCell' = true := by simpa using h1
  have hlen : (xs ++ [y]).length = (n + 1) * i.size := by rw [List.length_append, hown.1, hz1]; simp
  have hsmall : n + 1 ≤ maxLen := by simp only [maxLen]; omega
  have hB : ∀ (w' : World), w.grownBy w' (Value.slice A0 n c0).ownBlock → Below base w w' := fun w' h3 => (Below.refl base w).grown h3 hbase (fun k hk => (hown.lt k hk).1)
  have grown : ∀ (old : Nat), old < n + 1 → ∀ (row : Option Nat),
      (w.drew.alloc (.cells (xs.toArray ++ [y].toArray ++ Builtin.zeroCells z.cells (grownCap w (n + 1) old e - (n + 1))) e)).ownsRow base e 1
        (.slice (some ⟨w.heap.size, 0, none⟩) (n + 1) (grownCap w (n + 1) old e)) (n + 1) (xs ++ [y]) ∧
      w.grownBy (w.drew.alloc (.cells (xs.toArray ++ [y].toArray ++ Builtin.zeroCells z.cells (grownCap w (n + 1) old e - (n + 1))) e)) row := by
    intro old ho row
    have hge := grownCap_ge w (n + 1) old e
    have hcm : grownCap w (n + 1) old e ≤ maxLen := grownCap_le_maxLen w (n + 1) old e hsmall
    refine ⟨⟨by rw [hlen, hz1], .inr ⟨w.heap.size, _, _, rfl, hbase, heap_alloc_new w.drew _, hge, hcm, ?_, ?_⟩⟩, ⟨rfl, rfl, rfl, by simp, fun k hk _ => heap_alloc_old w.drew _ hk⟩⟩
    · simp only [Array.size_append, List.size_toArray, size_zeroCells, hzs, hown.1, List.length_singleton]
      omega
    · simp only [Array.toList_append, List.append_assoc]
      rw [← List.append_assoc, show (n + 1) * 1 = (xs ++ [y]).length from by rw [hlen, hz1]]
      exact List.take_left
  have far : ∀ o, Below w.heap.size w (w.drew.alloc o) := fun o => ((Below.refl w.heap.size w).drew).alloc (Nat.le_refl _) o
  rcases hown.2 with ⟨hv, h0⟩ | ⟨g, cap, cur, hv, hbg, hg, hnc, hcm, hcs, htake⟩
  · injection hv with e1 e2 e3
    subst e1; subst e3; subst h0
    have hx : xs = [] := List.eq_nil_of_length_eq_zero (by simpa using hown.1)
    subst hx
    have hr := Go.run_append_nil (P := P) w t ty e i z ht hi hz a 1 cc [y] (by simp [hz1]) hnews (by omega) (by omega) (by rw [hz2]; omega)
    have hgr := grown 0 (by omega) (Value.ownBlock (.slice none 0 0))
    simp only [Nat.zero_add, List.nil_append, Array.empty_append] at hgr hr ⊢
    exact ⟨_, _, _, hr, hgr.1, hgr.2, hB _ hgr.2, .inr ⟨rfl, far _⟩⟩
  · injection hv with e1 e2 e3
    subst e1; subst e3
    by_cases hroom : n + 1 ≤ c0
    · obtain ⟨w', hr, h2, h3⟩ := run_append_own_spare (P := P) w base t ty e i 1 ht hi hz1 g n c0 xs hown a 1 cc [y] rfl hnews h1s hroom
      exact ⟨_, _, _, hr, h2, h3, hB _ h3, .inl ⟨rfl, rfl, hroom⟩⟩
    · have holds : ∀ j u, xs[j]? = some u → w.cell? ((⟨g, 0, none⟩ : Addr).add j) = some u := hown.cells (g := g) rfl
      have hr := run_append_grow (P := P) w t ty e i z ht hi hz ⟨g, 0, none⟩ n c0 xs (by rw [hown.1, hz1]) holds a 1 cc [y] (by simp [hz1]) hnews (by omega) (by simp only [maxLen] at hsmall; omega) (growslice_fits (by omega) (by rw [hz2]; exact Nat.le_trans (Nat.mul_le_mul hn hby) (by omega)))
      have hgr := grown c0 (by omega) (Value.ownBlock (.slice (some ⟨g, 0, none⟩) n c0))
      exact ⟨_, _, _, hr, hgr.1, hgr.2, hB _ hgr.2, .inr ⟨rfl, far _⟩⟩

/-- The same as a step of a region. -/
theorem push_fork_step {ops : Array Oper} {o : Oper} {a : Act} {K : Act → World → Prop} {Q : Exit → Act → World → Prop} {E : Prop} {w : World} (s x : Operand) (t : TypeId)
    (hw : Region.wanted o (yielded ops a.tmps) = true)
    (ho : o.op = .call { callee := .builtin .append, args := #[s, x], argTypes := #[t, t] }) (ht : Tryz.prog.underlying t = some (.slice 3))
    (base : Nat) (A : Option Addr) (c n : Nat) (xs : List Int) (hxn : xs.length = n) (y : Int) (hs : a.eval s = .slice A n c) (hown : OwnI w base A c xs)
    (ad : Addr) (hx : a.eval x = .slice (some ad) 1 1) (hy : w.cell? ad = some (.int .i64 y)) (hn : n ≤ 1048000) (hbase : base ≤ w.heap.size)
    (h : ∀ A' c' w', OwnI w' base A' c' (xs ++ [y]) → w.grownBy w' (Value.slice A n c).ownBlock → Below base w w' →
      ((A' = A ∧ c' = c) ∨ ((∀ k, blockOf A' k → k = w.heap.size) ∧ Below w.heap.size w w')) → K (a.put o.dst (.slice A' (n + 1) c')) w') :
    if Region.wanted o (yielded ops a.tmps) = true then Oper.wp Tryz.prog o a w K Q else E := by
  rw [if_pos hw]
  subst hxn
  obtain ⟨A', c', w', hrun, h2, h3, h4, h5⟩ := run_push_fork (P := Tryz.prog) w base t o.type 3 ht info_int rfl (by omega) A c xs.length (ints xs) hown ad 1 (.int .i64 y) hy rfl (by omega) hbase
  have g1 : OwnI w' base A' c' (xs ++ [y]) := by unfold OwnI; rw [List.length_append, ints_snoc]; exact h2
  have g5 : (A' = A ∧ c' = c) ∨ ((∀ k, blockOf A' k → k = w.heap.size) ∧ Below w.heap.size w w') := by
    rcases h5 with ⟨e1, e2, _⟩ | ⟨e1, e2⟩
    · exact .inl ⟨e1, e2⟩
    · refine .inr ⟨fun k hk => ?_, e2⟩
      have hb := (blockOf_own (A := A') (n := xs.length + 1) (c := c') (k := k)).2 hk
      exact Option.some.inj (hb.symm.trans e1)
  have g := h A' c' w' g1 h3 h4 g5
  clear g1 g5 h h2 h3 h4 h5
  unfold Oper.wp execOp
  simp only [ho, resolve, invoke, builtin, Sem.run_bind, Sem.run_pure, Result.andThen_ok, List.map_toArray, List.map_cons, List.map_nil, hs, hx, hrun]
  exact g
end Go.Proofs.YtplgbapbgcipdaaGreatDoor

/-! ref08.Table. -/
namespace Go.Proofs.YtplgbapbgcipdaaGreatDoor
open Go.RowKit

set_option maxHeartbeats 800000 in
theorem table_any (n : Nat) (hn : n ≤ 1000) (w : World) :
    Calls Tryz.prog 159 #[.int .i64 n] w fun e w' =>
      ∃ A c gs, e = .returned (.slice A n c) ∧ Hid (gs.length = n) ∧ Grid w' w.heap.size A c n gs (List.replicate n (List.replicate n 0)) ∧ Below w.heap.size w w' := by
  have hmk := make_ints n (by omega)
  go_enter Tryz.func159, Tryz.ntmps159
  go_wp2
  go_loopw [3, 4] (fun v i wr => ∃ (k : Nat) (A' : Option Addr) (c' : Nat) (gs : List Nat), k ≤ n ∧ i = .int .i64 k ∧ v = .slice A' k c' ∧ Hid (gs.length = k) ∧ Grid wr w.heap.size A' c' n gs (List.replicate k (List.replicate n 0)) ∧ Below w.heap.size w wr) (fun _ i _ => n - (intOf i).toNat)
  case atStart => exact ⟨0, none, 0, [], by omega, rfl, rfl, by simp [Hid], Grid.nil_ _ _ _, Below.refl _ _⟩
  case round =>
    obtain ⟨k, A', c', gs, hk, rfl, rfl, HL, hown, hbel⟩ := hrel
    by_cases hlt : k < n
    · have hi : (k : Int) < (n : Int) := by omega
      have hz := hbel.size
      have hbx : w.heap.size ≤ ((wr.alloc (.cells (ints (List.replicate n 0)).toArray 3)).alloc (.cells #[.slice (some ⟨wr.heap.size, 0, none⟩) n n] 25)).heap.size := by simp; omega
      have hown2 : ((wr.alloc (.cells (ints (List.replicate n 0)).toArray 3)).alloc (.cells #[.slice (some ⟨wr.heap.size, 0, none⟩) n n] 25)).ownsRow w.heap.size 25 1 (.slice A' k c') k (gs.map fun g => .slice (some ⟨g, 0, none⟩) n n) := by
        have := HL.out; subst this; exact (World.ownsRow.alloc (World.ownsRow.alloc hown.outer _) _)
      have hbox : Reads ((wr.alloc (.cells (ints (List.replicate n 0)).toArray 3)).alloc (.cells #[.slice (some ⟨wr.heap.size, 0, none⟩) n n] 25)) (wr.heap.size + 1 + 1) 1 (some ⟨wr.heap.size + 1, 0, none⟩) 1 [.slice (some ⟨wr.heap.size, 0, none⟩) n n] := by
        have := Reads.box (wr.alloc (.cells (ints (List.replicate n 0)).toArray 3)) (.slice (some ⟨wr.heap.size, 0, none⟩) n n) 25
        simpa using this
      go_wp2_with (at_builtin; refine append_go rfl (.tmp 10) (.tmp 13) _ rfl w.heap.size 25 Tryz.underlying50 info_row rfl (by omega) A' c' k (gs.map fun g => .slice (some ⟨g, 0, none⟩) n n) rfl hown2 _ [.slice (some ⟨wr.heap.size, 0, none⟩) n n] rfl hbox (by simp [Value.oneCell']) (by omega) hbx ?_; intro A2 c2 w2 hown3 hg2 hb2 _)
      have gB : Below w.heap.size w w2 := hbel.trans ((((Below.refl _ _).alloc hz _).alloc (by simp; omega) _).trans hb2)
      have hgw : Grid ((wr.alloc (.cells (ints (List.replicate n 0)).toArray 3)).alloc (.cells #[.slice (some ⟨wr.heap.size, 0, none⟩) n n] 25)) w.heap.size A' c' n gs (List.replicate k (List.replicate n 0)) :=
        hown.next (((Below.refl _ _).alloc (Nat.le_refl _) _).alloc (by simp) _)
      have hnb := (Blk.new wr 3 (ints (List.replicate n 0)).toArray).alloc (.cells #[.slice (some ⟨wr.heap.size, 0, none⟩) n n] 25)
      have hpush : Grid w2 w.heap.size A2 c2 n (gs ++ [wr.heap.size]) (List.replicate k (List.replicate n 0) ++ [List.replicate n 0]) := by
        have hL := HL.out
        subst hL
        exact hgw.push hnb (by simp) hz (fun g' hg' => by obtain ⟨cs, hc, _⟩ := hown.blk hg'; exact Nat.ne_of_lt hc.lt) hown3 hg2
      go_roundw
      case rel => exact ⟨k + 1, A2, c2, gs ++ [wr.heap.size], by omega, by go_num, rfl, by simp [Hid, HL.out], by rw [List.replicate_succ']; exact hpush, gB⟩
      case measure => simp [intOf]; omega
    · have hi : ¬ (k : Int) < (n : Int) := by omega
      obtain rfl : k = n := by omega
      go_wp2
      go_ret
      exact ⟨A', c', rfl, gs, HL, hown, hbel⟩
end Go.Proofs.YtplgbapbgcipdaaGreatDoor

