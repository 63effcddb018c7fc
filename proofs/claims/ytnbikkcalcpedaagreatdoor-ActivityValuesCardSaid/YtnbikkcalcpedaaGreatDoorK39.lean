/-
  Texts of this claim, put together: Nat2, Nat3.
-/
import Derived.Test.YtnbikkcalcpedaaGreatDoorK36
import Derived.Test.YtnbikkcalcpedaaGreatDoorK33
/-! integer.times and plus of natural numbers of one word, whose result has one word. -/
namespace Go.Proofs.YtnbikkcalcpedaaGreatDoor
open Go.RowKit Go.Lib

/-- The slice value is the call's own row of words. -/
def OwnU (w : World) (base : Nat) (A : Option Addr) (c : Nat) (l : List Nat) : Prop := w.ownsRow base 209 1 (.slice A l.length c) l.length (u32s l)
section
variable {w w' : World} {base : Nat} {A : Option Addr} {c : Nat} {l : List Nat}
theorem OwnU.nil_ (w : World) (base : Nat) : OwnU w base none 0 [] := World.ownsRow_nil _ _ _ _
theorem OwnU.reads (h : OwnU w base A c l) : Reads w w.heap.size 1 A l.length (u32s l) := Reads.of_own h
theorem OwnU.cap_ (h : OwnU w base A c l) : l.length ≤ c := by
  rcases h.2 with ⟨hv, h0⟩ | ⟨g, cap, cur, hv, _, _, h1, _⟩
  · omega
  · injection hv with _ _ e; omega
theorem OwnU.lt (h : OwnU w base A c l) : ∀ k, blockOf A k → base ≤ k ∧ k < w.heap.size := fun k hk => World.ownsRow.lt h k (blockOf_own.2 hk)
end
theorem u32s_snoc (l : List Nat) (n : Nat) : u32s (l ++ [n]) = u32s l ++ [.int .u32 (n : Nat)] := by simp [u32s]
theorem push_u32 {ops : Array Oper} {rest : List Oper} {o : Oper} {a : Act} {Q : Exit → Act → World → Prop} {w : World} (hgd : o.guard = none) (s x : Operand) (t : TypeId)
    (ho : o.op = .call { callee := .builtin .append, args := #[s, x], argTypes := #[t, t] }) (ht : Tryz.prog.underlying t = some (.slice 209))
    (base : Nat) (A : Option Addr) (c : Nat) (l : List Nat) (y : Nat) (hs : a.eval s = .slice A l.length c) (hown : OwnU w base A c l)
    {g : Nat} (hx : a.eval x = .slice (some ⟨g, 0, none⟩) 1 1) (hgw : g = w.heap.size) (hn : l.length ≤ 1048000) (hbase : base ≤ w.heap.size)
    (h : ∀ A' c' w', OwnU w' base A' c' (l ++ [y]) → (w.alloc (.cells #[.int .u32 y] 209)).grownBy w' (Value.slice A l.length c).ownBlock → Below base w w' →
      wpList Tryz.prog ops Q rest (a.put o.dst (.slice A' (l.length + 1) c')) w') :
    wpList Tryz.prog ops Q (o :: rest) a (w.alloc (.cells #[.int .u32 y] 209)) := by
  subst hgw
  refine append_go hgd s x t ho base 209 ht info_u32 rfl (by omega) A c l.length (u32s l) hs (World.ownsRow.alloc hown _) _ [.int .u32 (y : Nat)] hx (Reads.box _ _ _) (by simp [Value.oneCell']) (by omega) (by simp; omega) ?_
  intro A' c' w' hown' hg hB _
  exact h A' c' w' (by unfold OwnU; rw [List.length_append, u32s_snoc]; exact hown') hg (((Below.refl base w).alloc hbase _).trans hB)
theorem make_u32 (n c : Nat) (hn : n ≤ c) (hc : c ≤ 2) (W : World) : (Instr.makeSlice 213 (.int .i64 (n : Int)) (.int .i64 (c : Int))).run Tryz.prog W =
    .ok (.slice (some ⟨W.heap.size, 0, none⟩) n c) (W.alloc (.cells (madeCells #[.int .u32 0] c) 209)) := by
  obtain ⟨i0, hi, hz0, hz1, hz2⟩ := info_parts info_u32
  have hr := run_make (P := Tryz.prog) W 213 209 i0 (.int .u32 0) Tryz.underlying213 hi hz0 .i64 .i64 n c (by omega) (by omega) (by rw [hz2]; omega) (by omega)
  simp only [Int.toNat_natCast, hz1, Nat.mul_one] at hr
  rw [hr, show (Value.int .u32 0).cells = #[.int .u32 0] from rfl]
theorem Reads.blk {w : World} {g : Nat} {cs : Array Value} {e : TypeId} (h : Blk w g e cs) : Reads w w.heap.size 1 (some ⟨g, 0, none⟩) cs.size cs.toList :=
  ⟨by simp, fun _ => ⟨g, 0, rfl, h.lt, fun j v hv => by
    rw [Nat.zero_add, h.cell j]
    simpa using hv⟩⟩
theorem one_word {p k : Nat} (hp : 0 < p) (hk : k ≤ [p, 0].length) (hz : ∀ j x, k ≤ j → [p, 0][j]? = some x → x = 0) (hl : ∀ x, [p, 0][k - 1]? = some x → 0 < k → x ≠ 0) : k = 1 := by
  have h2 : k ≤ 2 := hk
  rcases (show k = 0 ∨ k = 1 ∨ k = 2 by omega) with rfl | rfl | rfl
  · have := hz 0 p (by omega) rfl; omega
  · rfl
  · exact absurd rfl (hl 0 rfl (by omega))
theorem made_u32 : madeCells #[.int .u32 0] 2 = #[.int .u32 0, .int .u32 0] := by
  apply Array.toList_inj.1
  rw [toList_madeCells_one]
  rfl
set_option maxRecDepth 100000 in
set_option maxHeartbeats 4000000 in
theorem times_any (a b : Nat) (ha : 0 < a) (hb : 0 < b) (hab : a * b < 1000000000) (A1 : Option Addr) (c1 : Nat) (A2 : Option Addr) (c2 : Nat) (w : World) (h1 : Reads w w.heap.size 1 A1 1 (u32s [a])) (h2 : Reads w w.heap.size 1 A2 1 (u32s [b])) :
    Calls Tryz.prog 232 #[.slice A1 1 c1, .slice A2 1 c2] w fun e w' => ∃ A c, e = .returned (.slice A 1 c) ∧ Reads w' w'.heap.size 1 A 1 (u32s [a * b]) ∧ (∀ k, blockOf A k → w.heap.size ≤ k) ∧ Below w.heap.size w w' := by
  have hmk : ∀ W : World, (Instr.makeSlice 213 (.int .i64 2) (.int .i64 2)).run Tryz.prog W = .ok (.slice (some ⟨W.heap.size, 0, none⟩) 2 2) (W.alloc (.cells #[.int .u32 0, .int .u32 0] 209)) := fun W => by
    have := make_u32 2 2 (by omega) (by omega) W
    rw [made_u32] at this
    exact this
  obtain ⟨b1, o1, rfl, hb1, q1⟩ := h1.at_ (u32s_at (k := 0) (n := a) rfl)
  obtain ⟨b2, o2, rfl, hb2, q2⟩ := h2.at_ (u32s_at (k := 0) (n := b) rfl)
  have hla : a ≤ a * b := Nat.le_mul_of_pos_right a hb
  have hlb : b ≤ a * b := Nat.le_mul_of_pos_left b ha
  obtain ⟨p, hp⟩ : ∃ p, a * b = p := ⟨_, rfl⟩
  have hpi : (a : Int) * (b : Int) = (p : Int) := by exact_mod_cast hp
  rw [hp] at hab hla hlb ⊢
  have ua : IntKind.u64.wrap (a : Int) = (a : Int) := by rw [IntKind.wrap_u64]; omega
  have ub : IntKind.u64.wrap (b : Int) = (b : Int) := by rw [IntKind.wrap_u64]; omega
  have up : IntKind.u64.wrap (p : Int) = (p : Int) := by rw [IntKind.wrap_u64]; omega
  have u3 : IntKind.u32.wrap (p : Int) = (p : Int) := by rw [IntKind.wrap_u32]; omega
  have um : Int.tmod (p : Int) 1000000000 = (p : Int) := by rw [Int.tmod_eq_emod_of_nonneg (by omega)]; omega
  have ud : Int.tdiv (p : Int) 1000000000 = 0 := by rw [Int.tdiv_eq_ediv_of_nonneg (by omega)]; omega
  have hp0 : 0 < p := by omega
  clear hp h1 h2 ha hb
  go_enter Tryz.func232, Tryz.ntmps232
  go_wp2
  go_loopw [20] (fun i wr => ∃ k : Nat, k ≤ 1 ∧ i = .int .i64 k ∧ Hid (Blk wr w.heap.size 209 #[.int .u32 (if k = 0 then 0 else (p : Int)), .int .u32 0]) ∧ Hid (Below w.heap.size w wr)) (fun i _ => 1 - (RowKit.intOf i).toNat)
  case atStart => exact ⟨0, by omega, rfl, Blk.new w _ _, (Below.refl _ _).alloc (Nat.le_refl _) _⟩
  case round =>
    obtain ⟨k, hk, rfl, hG, hB⟩ := hrel
    obtain ⟨wo, hwo⟩ : ∃ wo : World, wo = wr := ⟨wr, rfl⟩
    subst hwo
    have Q1 := Lib.hid q1
    have Q2 := Lib.hid q2
    have q1 := (hB.out.cell (p := ⟨b1, o1, none⟩) hb1).trans q1
    have q2 := (hB.out.cell (p := ⟨b2, o2, none⟩) hb2).trans q2
    by_cases h0 : k = 0
    · subst h0
      rw [if_pos rfl] at hG
      have i0 := hG.out.cell 0
      have i1 := hG.out.cell 1
      have j0 := hG.out.frozen 0
      have j1 := hG.out.frozen 1
      go_wp2
      go_loopw [8, 27] (fun cr i wi => ∃ k : Nat, k ≤ 1 ∧ cr = .int .u64 0 ∧ i = .int .i64 k ∧ Hid (Blk wi w.heap.size 209 #[.int .u32 (if k = 0 then 0 else (p : Int)), .int .u32 0]) ∧ Hid (Below w.heap.size w wi)) (fun _ i _ => 1 - (RowKit.intOf i).toNat)
      case atStart => exact ⟨0, by omega, rfl, rfl, by rw [if_pos rfl]; exact hG.out, hB.out⟩
      case round =>
        clear i0 i1 j0 j1 q1 q2 hG hB
        obtain ⟨k, hk, rfl, rfl, hG, hB⟩ := hrel
        have q1 := (hB.out.cell (p := ⟨b1, o1, none⟩) hb1).trans Q1.out
        have q2 := (hB.out.cell (p := ⟨b2, o2, none⟩) hb2).trans Q2.out
        have hgb := hB.out.size
        by_cases h0 : k = 0
        · subst h0
          rw [if_pos rfl] at hG
          have i0 := hG.out.cell 0
          have i1 := hG.out.cell 1
          have j0 := hG.out.frozen 0
          have j1 := hG.out.frozen 1
          have HG2 := Lib.hid (hG.out.set_ 0 (.int .u32 (p : Int)))
          have HB2 := Lib.hid (hB.out.setCell (p := ⟨w.heap.size, 0, none⟩) (Nat.le_refl _) (.int .u32 (p : Int)))
          go_wp2
          go_roundw
          case rel => exact ⟨1, by omega, by go_num, by go_num, HG2.out, HB2.out⟩
          case measure => simp [RowKit.intOf]
        · obtain rfl : k = 1 := by omega
          rw [if_neg (by decide)] at hG
          have i0 := hG.out.cell 0
          have i1 := hG.out.cell 1
          have j0 := hG.out.frozen 0
          have j1 := hG.out.frozen 1
          have HG2 := Lib.hid (hG.out.set_ 1 (.int .u32 0))
          have HB2 := Lib.hid (hB.out.setCell (p := ⟨w.heap.size, 1, none⟩) (Nat.le_refl _) (.int .u32 0))
          go_wp2
          go_roundw
          case rel => exact ⟨1, by omega, by go_num, HG2.out, HB2.out⟩
          case measure => simp [RowKit.intOf]
    · obtain rfl : k = 1 := by omega
      rw [if_neg (by decide)] at hG
      have hr : Reads wo wo.heap.size 1 (some ⟨w.heap.size, 0, none⟩) 2 (u32s [p, 0]) := Reads.blk hG.out
      have TC := Lib.hid (trimmed_any (some ⟨w.heap.size, 0, none⟩) 2 [p, 0] (by simp) (by simp) _ wo hr)
      go_wp2_with fail
      refine (TC.out).mono ?_
      rintro e w' ⟨k, rfl, hk, hz, hl, rfl⟩
      obtain rfl := one_word hp0 hk hz hl
      clear hk hz hl
      go_wp2
      go_ret
      exact ⟨_, _, rfl, ⟨by simp [u32s], fun _ => by
        obtain ⟨b, off, hA, hb, hc⟩ := hr.2 (by omega)
        exact ⟨b, off, hA, hb, fun j v hv => by
          rcases j with _ | j
          · exact hc 0 v hv
          · simp [u32s] at hv⟩⟩, (by rintro k ⟨a, ha, rfl⟩; injection ha with ha; subst ha; exact Nat.le_refl _), hB.out⟩
set_option maxRecDepth 100000 in
set_option maxHeartbeats 4000000 in
theorem plus_any (n m : Nat) (hm : 0 < m) (hs : n + m < 1000000000) (A1 : Option Addr) (c1 : Nat) (A2 : Option Addr) (c2 : Nat) (w : World) (h1 : Reads w w.heap.size 1 A1 (wordsN n).length (u32s (wordsN n))) (h2 : Reads w w.heap.size 1 A2 1 (u32s [m])) :
    Calls Tryz.prog 236 #[.slice A1 (wordsN n).length c1, .slice A2 1 c2] w fun e w' => ∃ A c, e = .returned (.slice A 1 c) ∧ Reads w' w'.heap.size 1 A 1 (u32s [n + m]) ∧ (∀ k, blockOf A k → w.heap.size ≤ k) ∧ Below w.heap.size w w' := by
  have hmk : ∀ W : World, (Instr.makeSlice 213 (.int .i64 0) (.int .i64 2)).run Tryz.prog W = .ok (.slice (some ⟨W.heap.size, 0, none⟩) 0 2) (W.alloc (.cells #[.int .u32 0, .int .u32 0] 209)) := fun W => by
    have := make_u32 0 2 (by omega) (by omega) W
    rw [made_u32] at this
    exact this
  have hO : OwnU (w.alloc (.cells #[.int .u32 0, .int .u32 0] 209)) w.heap.size (some ⟨w.heap.size, 0, none⟩) 2 [] := World.ownsRow_made w #[.int .u32 0, .int .u32 0] 2 (Nat.le_refl _) (by decide) rfl
  have hB0 : Below w.heap.size w (w.alloc (.cells #[.int .u32 0, .int .u32 0] 209)) := (Below.refl _ _).alloc (Nat.le_refl _) _
  obtain ⟨b2, o2, rfl, hb2, q2⟩ := h2.at_ (u32s_at (k := 0) (n := m) rfl)
  obtain ⟨p, hp⟩ : ∃ p, n + m = p := ⟨_, rfl⟩
  have hpi : (n : Int) + (m : Int) = (p : Int) := by omega
  have hp0 : 0 < p := by omega
  rw [hp] at hs ⊢
  have un : IntKind.u32.wrap (n : Int) = (n : Int) := by rw [IntKind.wrap_u32]; omega
  have um : IntKind.u32.wrap (m : Int) = (m : Int) := by rw [IntKind.wrap_u32]; omega
  have up : IntKind.u32.wrap (p : Int) = (p : Int) := by rw [IntKind.wrap_u32]; omega
  have ur : Int.tmod (p : Int) 1000000000 = (p : Int) := by rw [Int.tmod_eq_emod_of_nonneg (by omega)]; omega
  have ud : Int.tdiv (p : Int) 1000000000 = 0 := by rw [Int.tdiv_eq_ediv_of_nonneg (by omega)]; omega
  have HH : Hid (∃ q, n = 0 ∧ m = p ∧ q = 0 ∨ 0 < n ∧ q = 1) := by
    by_cases h0 : n = 0
    · exact ⟨0, .inl ⟨h0, by omega, rfl⟩⟩
    · exact ⟨1, .inr ⟨by omega, rfl⟩⟩
  by_cases h0 : n = 0
  · subst h0
    obtain rfl : p = m := by omega
    have Q2 := Lib.hid q2
    have HO := Lib.hid hO
    have HB0 := Lib.hid hB0
    rw [show (wordsN 0).length = 0 from rfl]
    clear h1 h2 HH q2 hO hB0
    go_enter Tryz.func236, Tryz.ntmps236
    go_wp2
    go_loopw [5, 6, 22] (fun o cr i wr => ∃ (k : Nat) (l : List Nat) (A : Option Addr) (c : Nat), k ≤ 1 ∧ o = .slice A l.length c ∧ cr = .int .u32 0 ∧ i = .int .i64 k ∧ Hid (l = if k = 0 then [] else [p]) ∧ Hid (OwnU wr w.heap.size A c l) ∧ Hid (Below w.heap.size w wr)) (fun _ _ i _ => 1 - (RowKit.intOf i).toNat)
    case atStart => exact ⟨0, [], _, 2, by omega, rfl, rfl, rfl, rfl, HO.out, HB0.out⟩
    case round =>
      obtain ⟨k, l, A, c, hk, rfl, rfl, rfl, hl, hO, hB⟩ := hrel
      have q2 := (hB.out.cell (p := ⟨b2, o2, none⟩) hb2).trans Q2.out
      have hzz := hB.out.size
      by_cases h1 : k = 0
      · subst h1
        obtain rfl : l = [] := hl.out
        go_wp2_with (at_builtin; refine push_u32 rfl (.tmp 42) (.tmp 45) _ rfl Tryz.underlying213 w.heap.size A c [] p rfl hO.out rfl rfl (by simp) hzz ?_; intro A5 c5 w5 hown5 _ hb5)
        go_roundw
        case rel => exact ⟨1, [p], A5, c5, by omega, by go_num, by go_num, by go_num, rfl, hown5, hB.out.trans hb5⟩
        case measure => simp [RowKit.intOf]
      · obtain rfl : k = 1 := by omega
        obtain rfl : l = [p] := hl.out
        clear q2
        go_wp2_with (at_builtin; refine push_u32 rfl (.tmp 48) (.tmp 50) _ rfl Tryz.underlying213 w.heap.size A c [p] 0 rfl hO.out rfl rfl (by simp) hzz ?_; intro A5 c5 w5 hown5 _ hb5)
        have hr := hown5.reads
        have hlo : ∀ k, blockOf A5 k → w.heap.size ≤ k := fun k hk => (hown5.lt k hk).1
        have TC := Lib.hid (trimmed_any A5 c5 [p, 0] (by simp) hown5.cap_ _ w5 hr)
        have hB := hB.out.trans hb5
        clear hO hown5
        go_wp2_with fail
        refine (TC.out).mono ?_
        rintro e w' ⟨k, rfl, hk, hz, hl, rfl⟩
        obtain rfl := one_word hp0 hk hz hl
        clear hk hz hl
        go_wp2
        go_ret
        exact ⟨_, _, rfl, ⟨by simp [u32s], fun _ => by
          obtain ⟨b, off, hA, hb, hc⟩ := hr.2 (by simp)
          exact ⟨b, off, hA, hb, fun j v hv => by
            rcases j with _ | j
            · exact hc 0 v hv
            · simp [u32s] at hv⟩⟩, hlo, hB⟩
  · rw [wordsN_pos (by omega)] at h1 ⊢
    obtain ⟨b1, o1, rfl, hb1, q1⟩ := h1.at_ (u32s_at (k := 0) (n := n) rfl)
    have Q1 := Lib.hid q1
    have Q2 := Lib.hid q2
    have HO := Lib.hid hO
    have HB0 := Lib.hid hB0
    rw [show ([n] : List Nat).length = 1 from rfl]
    clear hp h1 h2 HH q1 q2 hO hB0
    go_enter Tryz.func236, Tryz.ntmps236
    go_wp2
    go_loopw [5, 6, 22] (fun o cr i wr => ∃ (k : Nat) (l : List Nat) (A : Option Addr) (c : Nat), k ≤ 1 ∧ o = .slice A l.length c ∧ cr = .int .u32 0 ∧ i = .int .i64 k ∧ Hid (l = if k = 0 then [] else [p]) ∧ Hid (OwnU wr w.heap.size A c l) ∧ Hid (Below w.heap.size w wr)) (fun _ _ i _ => 1 - (RowKit.intOf i).toNat)
    case atStart => exact ⟨0, [], _, 2, by omega, rfl, rfl, rfl, rfl, HO.out, HB0.out⟩
    case round =>
      obtain ⟨k, l, A, c, hk, rfl, rfl, rfl, hl, hO, hB⟩ := hrel
      have q1 := (hB.out.cell (p := ⟨b1, o1, none⟩) hb1).trans Q1.out
      have q2 := (hB.out.cell (p := ⟨b2, o2, none⟩) hb2).trans Q2.out
      have hzz := hB.out.size
      by_cases h0 : k = 0
      · subst h0
        obtain rfl : l = [] := hl.out
        go_wp2_with (at_builtin; refine push_u32 rfl (.tmp 42) (.tmp 45) _ rfl Tryz.underlying213 w.heap.size A c [] p rfl hO.out rfl rfl (by simp) hzz ?_; intro A5 c5 w5 hown5 _ hb5)
        go_roundw
        case rel => exact ⟨1, [p], A5, c5, by omega, by go_num, by go_num, by go_num, rfl, hown5, hB.out.trans hb5⟩
        case measure => simp [RowKit.intOf]
      · obtain rfl : k = 1 := by omega
        obtain rfl : l = [p] := hl.out
        clear q1 q2
        go_wp2_with (at_builtin; refine push_u32 rfl (.tmp 48) (.tmp 50) _ rfl Tryz.underlying213 w.heap.size A c [p] 0 rfl hO.out rfl rfl (by simp) hzz ?_; intro A5 c5 w5 hown5 _ hb5)
        have hr := hown5.reads
        have hlo : ∀ k, blockOf A5 k → w.heap.size ≤ k := fun k hk => (hown5.lt k hk).1
        have TC := Lib.hid (trimmed_any A5 c5 [p, 0] (by simp) hown5.cap_ _ w5 hr)
        have hB := hB.out.trans hb5
        clear hO hown5
        go_wp2_with fail
        refine (TC.out).mono ?_
        rintro e w' ⟨k, rfl, hk, hz, hl, rfl⟩
        obtain rfl := one_word hp0 hk hz hl
        clear hk hz hl
        go_wp2
        go_ret
        exact ⟨_, _, rfl, ⟨by simp [u32s], fun _ => by
          obtain ⟨b, off, hA, hb, hc⟩ := hr.2 (by simp)
          exact ⟨b, off, hA, hb, fun j v hv => by
            rcases j with _ | j
            · exact hc 0 v hv
            · simp [u32s] at hv⟩⟩, hlo, hB⟩
end Go.Proofs.YtnbikkcalcpedaaGreatDoor

/-! integer: the text of a number of one word; length, result; integer.Of below a billion. -/
namespace Go.Proofs.YtnbikkcalcpedaaGreatDoor
open Go.RowKit Go.Lib

/-- The table that strconv.Itoa reads. -/
def Tab10 (w : World) : Prop := Lib.TabIs Tryz.prog w "internal/strconv.uint64pow10" .u64 Lib.pow10Tab
theorem Tab10.below {w w' : World} (h : Tab10 w) (hb : Below w.heap.size w w') : Tab10 w' := by
  unfold Tab10 TabIs World.var? at *
  cases hg : Tryz.prog.globalNamed "internal/strconv.uint64pow10" with
  | none => simp [hg] at h
  | some g =>
    simp only [hg, Option.bind_some] at h ⊢
    have hlt : g < w.heap.size := by
      rcases Nat.lt_or_ge g w.heap.size with h' | h'
      · exact h'
      · rw [Array.getElem?_eq_none h'] at h; simp at h
    rw [hb.block g hlt]
    exact h
theorem below_grow (w : World) (k : Nat) (os : Array Obj) : Below w.heap.size w (Go.Sort.grow (w.drewN k) os) := ⟨rfl, rfl, rfl, by simp, fun i hi => Go.Sort.heap_grow_old (w.drewN k) os hi⟩
theorem ownsRow_below {w w' : World} {base : Nat} {e : TypeId} {size n : Nat} {v : Value} {xs : List Value} (h : w.ownsRow base e size v n xs) (hb : Below w.heap.size w w') : w'.ownsRow base e size v n xs := by
  have hlt := World.ownsRow.lt h
  obtain ⟨h1, h2⟩ := h
  refine ⟨h1, ?_⟩
  rcases h2 with h2 | ⟨g, cap, cur, hv, hg, hh, r⟩
  · exact .inl h2
  · exact .inr ⟨g, cap, cur, hv, hg, (hb.block g (hlt g (by rw [hv]; rfl)).2).trans hh, r⟩
theorem builderAt_below {w w' : World} {T e : TypeId} {B b : Nat} {p : Value} {bs : List Value} (h : BuilderAt T e B b p bs w) (hb : Below w.heap.size w w') : BuilderAt T e B b p bs w' := by
  have hlt := h.lt
  obtain ⟨h1, v, h2, h3, h4⟩ := h
  exact ⟨h1, v, (hb.block b hlt).trans h2, ownsRow_below h3 hb, h4⟩
theorem isBuilder_below {w w' : World} {T e : TypeId} {B b : Nat} {bs : List Value} (h : IsBuilder T e B b bs w) (hb : Below w.heap.size w w') : IsBuilder T e B b bs w' := h.imp (fun h => builderAt_below h hb) (fun h => builderAt_below h hb)
set_option maxHeartbeats 1000000 in
theorem itoaN_any (n : Nat) (h : n < 1000000000) (w : World) (ht : Tab10 w) :
    Calls Tryz.prog 67 #[.int .i64 n] w fun e w' => e = .returned (.string (intS n)) ∧ Below w.heap.size w w' :=
  (lay_strconv_Itoa (n : Int) (by omega) (by omega) w ht).mono fun e w' ⟨h1, k, os, h2⟩ => ⟨h1, by rw [h2]; exact below_grow w k os⟩
set_option maxHeartbeats 1000000 in
theorem intOfN_any (n : Nat) (h : n < 1000000000) (w : World) (ht : Tab10 w) :
    Calls Tryz.prog 19 #[.int .i64 n] w fun e w' => e = .returned (.string (intS n)) ∧ Below w.heap.size w w' := by
  have SC := Lib.hid (itoaN_any n h w ht)
  go_enter Tryz.func19, Tryz.ntmps19
  go_wp2_with fail
  refine (SC.out).mono ?_
  rintro e w' ⟨rfl, hb⟩
  go_wp2
  go_ret
  exact ⟨rfl, hb⟩
theorem intS_len (n : Nat) (h : n < 1000000000) : (intS n).size ≤ 100 ∧ 1 ≤ (intS n).size := by
  rw [← numS_int]
  have h1 := nDig_le 9 n (by omega)
  rw [← decDigits_length] at h1
  have h2 : 0 < (decDigits n).length := List.length_pos_iff.2 (dec_pos n)
  rw [Lib.size_eq]
  show (decDigits n).length ≤ 100 ∧ 1 ≤ (decDigits n).length
  omega
set_option maxHeartbeats 1000000 in
theorem length_any (n : Nat) (w : World) :
    Calls Tryz.prog 234 #[.string (intS n)] w fun e w' => e = .returned (.int .i64 (intS n).size) ∧ w' = w := by
  have hp : Lib.trimPrefix (intS n).data.toList [45] = (intS n).data.toList := by
    rw [← numS_int]
    show Lib.trimPrefix (decDigits n) [45] = decDigits n
    obtain ⟨a, l, hal⟩ := List.exists_cons_of_ne_nil (dec_pos n)
    have ha := dec_dig2 n a (by rw [hal]; simp)
    have hne : ((45 : UInt8) == a) = false := by
      rw [beq_eq_false_iff_ne]
      rintro rfl
      have h45 : (45 : UInt8).toNat = 45 := rfl
      omega
    rw [hal]
    unfold Lib.trimPrefix Lib.hasPrefix
    rw [List.isPrefixOf, hne]
    rfl
  have SC := Lib.hid (lay_strings_TrimPrefix (intS n) ⟨#[45]⟩ w)
  rw [hp] at SC
  obtain ⟨s, hs⟩ : ∃ s, intS n = s := ⟨_, rfl⟩
  rw [hs] at SC ⊢
  have hss : (⟨s.data.toList.toArray⟩ : ByteArray) = s := by cases s; rfl
  rw [hss] at SC
  clear hp hs hss
  go_enter Tryz.func234, Tryz.ntmps234
  go_wp2_with fail
  refine (SC.out).mono ?_
  rintro e w' ⟨rfl, rfl⟩
  go_wp2
  go_ret
  exact ⟨rfl, rfl⟩
set_option maxRecDepth 100000 in
set_option maxHeartbeats 2000000 in
theorem textN_any (n : Nat) (h0 : 0 < n) (h : n < 1000000000) (A : Option Addr) (c : Nat) (w : World) (hr : Reads w w.heap.size 1 A 1 (u32s [n])) (ht : Tab10 w) :
    Calls Tryz.prog 290 #[.slice A 1 c] w fun e w' => e = .returned (.string (intS n)) ∧ Below w.heap.size w w' := by
  have hst := intS_len n h
  obtain ⟨b1, o1, rfl, hb1, q1⟩ := hr.at_ (u32s_at (k := 0) (n := n) rfl)
  have hbt : (intS n) = ⟨(decDigits n).toArray⟩ := (numS_int n).symm
  obtain ⟨w0, hw0⟩ : ∃ w0, w.alloc (.cells #[.pointer none, .slice none 0 0] 349) = w0 := ⟨_, rfl⟩
  have hI0 := Lib.hid (fresh_isBuilder 349 5 w)
  rw [hw0] at hI0
  have HB0 : Hid (Below w.heap.size w w0) := by rw [Hid, ← hw0]; exact (Below.refl _ _).alloc (Nat.le_refl _) _
  have HW := Lib.hid hw0
  have IC := Lib.hid (fun (W : World) (hB : Below w.heap.size w W) => itoaN_any n h W (ht.below hB))
  have WC := Lib.hid (fun (W : World) (hB : Below w.heap.size w W) (hI : IsBuilder 349 5 w.heap.size w.heap.size [] W) => lay_Builder_WriteString w.heap.size w.heap.size [] (intS n) W hI (by simp; omega) hB.size)
  have RC := Lib.hid (fun (W : World) (hI : IsBuilder 349 5 w.heap.size w.heap.size (byteCells (decDigits n)) W) => lay_Builder_String w.heap.size w.heap.size (decDigits n) W hI (dec_pos n))
  have hcells : Hid ([] ++ strCells (intS n) = byteCells (decDigits n)) := by rw [Hid, List.nil_append, hbt]; rfl
  rw [← hbt] at RC
  have Q1 := Lib.hid q1
  have u1 : IntKind.i64.wrap (n : Int) = (n : Int) := IntWalk.i64_in _ (by omega)
  obtain ⟨s, hs⟩ : ∃ s, intS n = s := ⟨_, rfl⟩
  rw [hs] at IC WC RC hcells ⊢
  clear hst hbt hs hw0 hr ht q1 h0 h
  go_enter Tryz.func290, Tryz.ntmps290
  go_wp2
  rw [HW.out]
  go_loopw [4] (fun v wr => ∃ z : Int, v = .int .i64 z ∧ Hid (Below w.heap.size w wr) ∧ ((z = 0 ∧ Hid (IsBuilder 349 5 w.heap.size w.heap.size [] wr)) ∨ (z = -1 ∧ Hid (IsBuilder 349 5 w.heap.size w.heap.size (byteCells (decDigits n)) wr)))) (fun v _ => (RowKit.intOf v + 1).toNat)
  case atStart => exact ⟨0, rfl, HB0.out, .inl ⟨rfl, hI0.out⟩⟩
  case round =>
    obtain ⟨z, rfl, hB, ⟨rfl, hI⟩ | ⟨rfl, hI⟩⟩ := hrel
    · have q1 := (hB.out.cell (p := ⟨b1, o1, none⟩) hb1).trans Q1.out
      go_wp2_with fail
      refine (IC.out _ hB.out).mono ?_
      rintro e w' ⟨rfl, hb⟩
      have hI2 : IsBuilder 349 5 w.heap.size w.heap.size [] w' := isBuilder_below hI.out hb
      have hB2 := hB.out.trans (hb.mono hB.out.size)
      go_wp2_with fail
      refine (WC.out _ hB2 hI2).mono ?_
      rintro e w2 ⟨rfl, hI3, hb2⟩
      rw [hcells.out] at hI3
      go_wp2
      go_roundw
      case rel => exact ⟨-1, by go_num, hB2.trans hb2, .inr ⟨rfl, .inr hI3⟩⟩
      case measure => simp [RowKit.intOf]
    · go_wp2_with fail
      refine (RC.out _ hI.out).mono ?_
      rintro e w' ⟨rfl, hb⟩
      have hB2 := hB.out.trans hb
      go_wp2
      go_ret
      exact ⟨rfl, hB2⟩
set_option maxHeartbeats 1000000 in
theorem textNum_any (n : Nat) (h0 : 0 < n) (h : n < 1000000000) (A : Option Addr) (c : Nat) (w : World) (hr : Reads w w.heap.size 1 A 1 (u32s [n])) (ht : Tab10 w) :
    Calls Tryz.prog 233 #[.agg #[.bool false, .slice A 1 c]] w fun e w' => e = .returned (.string (intS n)) ∧ Below w.heap.size w w' := by
  have g := Blk.new w 215 #[.bool false, .slice A 1 c]
  have hB : Below w.heap.size w (w.alloc (.cells #[.bool false, .slice A 1 c] 215)) := (Below.refl _ _).alloc (Nat.le_refl _) _
  have k0 := g.cell 0
  have k1 := g.cell 1
  have TC := Lib.hid (fun (W : World) (hB : Below w.heap.size w W) => textN_any n h0 h A c W ((hr.below hB).more hB.size) (ht.below hB))
  clear hr ht h0 h
  go_enter Tryz.func233, Tryz.ntmps233
  go_wp2_with fail
  refine (TC.out _ hB).mono ?_
  rintro e w' ⟨rfl, hb⟩
  have hB := hB.trans (hb.mono hB.size)
  go_wp2
  go_ret
  exact ⟨rfl, hB⟩
set_option maxHeartbeats 1000000 in
theorem resultNum_any (n : Nat) (h0 : 0 < n) (h : n < 1000000000) (A : Option Addr) (c : Nat) (w : World) (hr : Reads w w.heap.size 1 A 1 (u32s [n])) (ht : Tab10 w) :
    Calls Tryz.prog 181 #[.agg #[.bool false, .slice A 1 c]] w fun e w' => e = .returned (.tuple #[.string (intS n), .int .i64 0]) ∧ Below w.heap.size w w' := by
  have g := Blk.new w 215 #[.bool false, .slice A 1 c]
  have hB : Below w.heap.size w (w.alloc (.cells #[.bool false, .slice A 1 c] 215)) := (Below.refl _ _).alloc (Nat.le_refl _) _
  have k0 := g.cell 0
  have k1 := g.cell 1
  have TC := Lib.hid (fun (W : World) (hB : Below w.heap.size w W) => textNum_any n h0 h A c W ((hr.below hB).more hB.size) (ht.below hB))
  have LC := Lib.hid (fun (W : World) => length_any n W)
  have hl := (intS_len n h).1
  have hi : ¬ (1024 : Int) < ((intS n).size : Int) := by omega
  have hi2 : decide ((1024 : Int) < ((intS n).size : Int)) = false := decide_eq_false hi
  obtain ⟨s, hs⟩ : ∃ s, intS n = s := ⟨_, rfl⟩
  rw [hs] at TC LC hi hi2 ⊢
  obtain ⟨z, hz⟩ : ∃ z, s.size = z := ⟨_, rfl⟩
  rw [hz] at LC hi hi2
  clear hr ht h0 h hs hz hl
  go_enter Tryz.func181, Tryz.ntmps181
  go_wp2_with fail
  refine (TC.out _ hB).mono ?_
  rintro e w' ⟨rfl, hb⟩
  have hB := hB.trans (hb.mono hB.size)
  go_wp2_with fail
  refine (LC.out _).mono ?_
  rintro e w' ⟨rfl, rfl⟩
  go_wp2
  go_ret2
  exact ⟨rfl, hB⟩
end Go.Proofs.YtnbikkcalcpedaaGreatDoor

