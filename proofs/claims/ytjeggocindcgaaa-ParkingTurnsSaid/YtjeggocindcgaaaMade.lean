/-
  ref11.Made of kind 3: the complete graph.
-/
import Derived.Test.YtjeggocindcgaaaMake
import Derived.Test.YtjeggocindcgaaaConfig
namespace Go.Proofs.Ytjeggocindcgaaa
open Go.RowKit

theorem info_pair : (Try.prog.info? 123).map (fun i => (i.zero, i.size, i.bytes)) = some (some (.agg #[.int .i64 0, .int .i64 0]), 2, 16) := by kernel_rfl
def OwnP (w : World) (base : Nat) (A : Option Addr) (c : Nat) (es : List (Nat × Nat)) : Prop := w.ownsRow base 123 2 (.slice A es.length c) es.length (pairCells es)
section
variable {w w' : World} {base : Nat} {A : Option Addr} {c : Nat} {es : List (Nat × Nat)}
theorem OwnP.nil_ (w : World) (base : Nat) : OwnP w base none 0 [] := World.ownsRow_nil _ _ _ _
theorem OwnP.reads (h : OwnP w base A c es) : Reads w w.heap.size 2 A es.length (pairCells es) := Reads.of_own h
theorem OwnP.alloc (h : OwnP w base A c es) (o : Obj) : OwnP (w.alloc o) base A c es := World.ownsRow.alloc h o
end
theorem push_pair {ops : Array Oper} {rest : List Oper} {o : Oper} {a : Act} {Q : Exit → Act → World → Prop} {w : World} (hgd : o.guard = none) (s x : Operand) (t : TypeId)
    (ho : o.op = .call { callee := .builtin .append, args := #[s, x], argTypes := #[t, t] }) (ht : Try.prog.underlying t = some (.slice 123))
    (base : Nat) (A : Option Addr) (c : Nat) (es : List (Nat × Nat)) (e1 e2 : Nat) (v1 v2 : Int) (h1 : (e1 : Int) = v1) (h2 : (e2 : Int) = v2) (hs : a.eval s = .slice A es.length c) (hown : OwnP w base A c es)
    {g : Nat} (hx : a.eval x = .slice (some ⟨g, 0, none⟩) 1 1) (hgw : g = w.heap.size) (hn : es.length ≤ 1048000) (hbase : base ≤ w.heap.size)
    (h : ∀ A' c' w', OwnP w' base A' c' (es ++ [(e1, e2)]) → Below base w w' → wpList Try.prog ops Q rest (a.put o.dst (.slice A' (es.length + 1) c')) w') :
    wpList Try.prog ops Q (o :: rest) a (w.alloc (.cells #[.int .i64 v1, .int .i64 v2] 123)) := by
  subst hgw h1 h2
  refine append_go hgd s x t ho base 123 ht info_pair rfl (by omega) A c es.length (pairCells es) hs (OwnP.alloc hown _) _ (pairCells [(e1, e2)]) hx (Reads.boxN w #[.int .i64 e1, .int .i64 e2] 123) pairCells_one (by omega) (by simp; omega) ?_
  intro A' c' w' hown' hg hB _
  exact h A' c' w' (by unfold OwnP; rw [List.length_append, pairCells_append]; exact hown') (((Below.refl base w).alloc hbase _).trans hB)

def pairTo (a b : Nat) : List (Nat × Nat) := (List.range' (a + 1) (b - (a + 1))).map fun j : Nat => (a, j)
theorem pairTo_succ {a b : Nat} (h : a + 1 ≤ b) : pairTo a (b + 1) = pairTo a b ++ [(a, b)] := by
  unfold pairTo
  rw [show b + 1 - (a + 1) = (b - (a + 1)) + 1 from by omega, List.range'_1_concat, List.map_append]
  simp only [List.map_cons, List.map_nil]
  rw [show a + 1 + (b - (a + 1)) = b from by omega]
theorem pairTo_none {a b : Nat} (h : b ≤ a + 1) : pairTo a b = [] := by
  unfold pairTo
  rw [show b - (a + 1) = 0 from by omega]
  rfl
theorem pairTo_length (a b : Nat) : (pairTo a b).length = b - (a + 1) := by simp [pairTo]
def pairsTo (n a : Nat) : List (Nat × Nat) := (List.range a).flatMap fun i => pairTo i n
theorem pairsTo_succ (n a : Nat) : pairsTo n (a + 1) = pairsTo n a ++ pairTo a n := by simp [pairsTo, List.range_succ, List.flatMap_append]
theorem pairsTo_length (n a : Nat) : (pairsTo n a).length ≤ a * n := by
  induction a with
  | zero => simp [pairsTo]
  | succ a ih => rw [pairsTo_succ, List.length_append, pairTo_length, Nat.succ_mul]; omega
theorem made_compl : ∀ n ∈ List.range 13, madeS n (pairsTo n n) = compl n := by decide +kernel
theorem made_in : ∀ n ∈ List.range 13, ∀ e ∈ pairsTo n n, e.1 < n ∧ e.2 < n := by decide +kernel
theorem made_cnt : ∀ n ∈ List.range 13, ∀ a ∈ List.range n, ∀ b ∈ List.range n, cnt (pairsTo n n) a b ≤ 50 := by decide +kernel

theorem rvertices3_any (n c : Nat) (hn : n ≤ 13) (A : Option Addr) (w : World) (h : Reads w w.heap.size 1 A 1 (ints [(n : Int)])) :
    Calls Try.prog 71 #[.int .i64 3, .slice A 1 c] w fun e w' => e = .returned (.int .i64 n) ∧ w = w' := by
  obtain ⟨b, off, rfl, hb, hc⟩ := h.at_ (k := 0) (u := .int .i64 n) rfl
  rw [Nat.add_zero] at hc
  have hn13 : ((13 : Int) < (n : Int)) = False := by simp; omega
  clear h
  go_enter Try.func71, Try.ntmps71
  go_wp2
  go_loop [6] (fun i => ∃ k : Nat, k ≤ 1 ∧ i = .int .i64 k) (fun i => 1 - (intOf i).toNat)
  case atStart => exact ⟨0, by omega, rfl⟩
  case round =>
    obtain ⟨k, hk, rfl⟩ := hrel
    by_cases hlt : k < 1
    · obtain rfl : k = 0 := by omega
      go_wp2
      go_round
      case rel => exact ⟨1, by omega, by go_num⟩
      case measure => simp [intOf]
    · obtain rfl : k = 1 := by omega
      go_wp2
      go_ret
      exact ⟨rfl, rfl⟩

set_option maxRecDepth 100000 in
set_option maxHeartbeats 1000000 in
theorem rends3_any (n c : Nat) (hn : n ≤ 1000) (A : Option Addr) (l : List Int) (hl : l[0]? = some (n : Int)) (w : World) (h : Reads w w.heap.size 1 A l.length (ints l)) :
    Calls Try.prog 72 #[.int .i64 3, .slice A l.length c] w fun e w' => ∃ A1 c1, e = .returned (.slice A1 (pairsTo n n).length c1) ∧ OwnP w' w.heap.size A1 c1 (pairsTo n n) ∧ Below w.heap.size w w' := by
  obtain ⟨b, off, rfl, hb, hc⟩ := h.at_ (ints_at hl)
  have hlen : (0 : Int) < (l.length : Int) := by have := (List.getElem?_eq_some_iff.1 hl).1; omega
  rw [Nat.add_zero] at hc
  clear hl h
  go_enter Try.func72, Try.ntmps72
  go_wp2
  go_loopw [8, 9] (fun v i wr => ∃ (a : Nat) (A' : Option Addr) (c' : Nat), a ≤ n ∧ i = .int .i64 a ∧ v = .slice A' (pairsTo n a).length c' ∧ OwnP wr w.heap.size A' c' (pairsTo n a) ∧ Below w.heap.size w wr) (fun _ i _ => n - (intOf i).toNat)
  case atStart => exact ⟨0, none, 0, by omega, rfl, rfl, OwnP.nil_ _ _, Below.refl _ _⟩
  case round =>
    obtain ⟨a, A', c', ha, rfl, rfl, hown, hbel⟩ := hrel
    by_cases hlt : a < n
    · have hi : (a : Int) < (n : Int) := by omega
      obtain ⟨wo, rfl⟩ : ∃ wo : World, wo = wr := ⟨_, rfl⟩
      go_wp2
      go_loopw [8, 10] (fun v i wr => ∃ (b : Nat) (A' : Option Addr) (c' : Nat), a + 1 ≤ b ∧ b ≤ n ∧ i = .int .i64 b ∧ v = .slice A' (pairsTo n a ++ pairTo a b).length c' ∧ OwnP wr w.heap.size A' c' (pairsTo n a ++ pairTo a b) ∧ Below w.heap.size w wr) (fun _ i _ => n - (intOf i).toNat)
      case atStart =>
        refine ⟨a + 1, A', c', by omega, by omega, by go_num, ?_, ?_, hbel⟩
        · rw [pairTo_none (Nat.le_refl _), List.append_nil]
        · rw [pairTo_none (Nat.le_refl _), List.append_nil]; exact hown
      case round =>
        clear hown hbel
        obtain ⟨b, A', c', hab, hb, rfl, rfl, hown, hbel⟩ := hrel
        have hz := hbel.size
        have hl13 : (pairsTo n a ++ pairTo a b).length ≤ 1048000 := by
          have h1 := pairsTo_length n a
          have h2 := pairTo_length a b
          have : a * n ≤ 1000 * 1000 := Nat.mul_le_mul (by omega) (by omega)
          rw [List.length_append]; omega
        obtain ⟨es, hes⟩ : ∃ es, pairsTo n a ++ pairTo a b = es := ⟨_, rfl⟩
        rw [hes] at hown hl13 ⊢
        have HES := Lib.hid hes
        clear hes
        by_cases hlt2 : b < n
        · have hi2 : (b : Int) < (n : Int) := by omega
          go_wp2_with (at_builtin; refine push_pair rfl (.tmp 88) (.tmp 92) _ rfl Try.underlying98 w.heap.size A' c' es a b _ _ rfl rfl rfl hown rfl rfl hl13 hz ?_; intro A3 c3 w3 hown3 hb3)
          have HR : pairsTo n a ++ pairTo a (b + 1) = es ++ [(a, b)] := by rw [pairTo_succ hab, ← List.append_assoc, HES.out]
          have HR := Lib.hid HR
          go_roundw
          case rel => exact ⟨b + 1, A3, c3, by omega, by omega, by go_num, by rw [HR.out, List.length_append]; rfl, by rw [HR.out]; exact hown3, hbel.trans hb3⟩
          case measure => simp [intOf]; omega
        · have hi2 : ¬ (b : Int) < (n : Int) := by omega
          go_wp2
          have HR : es = pairsTo n (a + 1) := by rw [pairsTo_succ, ← HES.out, show b = n from by omega]
          have HR := Lib.hid HR
          go_roundw
          case rel => exact ⟨a + 1, A', c', by omega, by go_num, by rw [HR.out], by rw [← HR.out]; exact hown, hbel⟩
          case measure => simp [intOf]; omega
    · have hi : ¬ (a : Int) < (n : Int) := by omega
      obtain rfl : a = n := by omega
      go_wp2
      go_ret
      exact ⟨A', c', rfl, hown, hbel⟩

set_option maxRecDepth 100000 in
set_option maxHeartbeats 1000000 in
theorem rmade3_any (n c : Nat) (h1 : 1 ≤ n) (hn : n ≤ 12) (A : Option Addr) (w : World) (h : Reads w w.heap.size 1 A 1 (ints [(n : Int)])) :
    Calls Try.prog 61 #[.int .i64 3, .slice A 1 c] w fun e w' =>
      ∃ A1 c1, e = .returned (.agg #[.int .i64 n, .slice A1 (compl n).length c1]) ∧ OwnE w' w.heap.size A1 c1 (compl n) ∧ Below w.heap.size w w' := by
  have hmem : n ∈ List.range 13 := by simp; omega
  have hlen : (pairsTo n n).length ≤ 4096 := by
    have := pairsTo_length n n
    have : n * n ≤ 12 * 12 := Nat.mul_le_mul hn hn
    omega
  have HK := fun (A : Option Addr) (c : Nat) w h => rmake_any n h1 hn A c (pairsTo n n) hlen (made_in n hmem) (fun a b ha hb => made_cnt n hmem a (by simpa using ha) b (by simpa using hb)) w h
  rw [made_compl n hmem] at HK
  have HK := Lib.hid HK
  clear hmem hlen
  have hr0 : Reads (w.alloc (.cells #[.int .i64 0, .slice none 0 0] 52)) (w.alloc (.cells #[.int .i64 0, .slice none 0 0] 52)).heap.size 1 A 1 (ints [(n : Int)]) := h.next ((Below.refl _ _).alloc (Nat.le_refl _) _)
  go_enter Try.func61, Try.ntmps61
  go_wp2_with first
    | (go_at_call 71; refine (rvertices3_any n c (by omega) A _ hr0).mono ?_; rintro e w0 ⟨rfl, rfl⟩)
    | (go_at_call 72; refine (rends3_any n c (by omega) A [(n : Int)] rfl _ hr0).mono ?_; rintro e w1 ⟨A1, c1, rfl, hown1, hb1⟩)
    | (go_at_call 70; refine (HK.out A1 c1 _ hown1.reads).mono ?_; rintro e w2 ⟨A2, c2, rfl, hown2, hb2⟩; have g0 := ((Blk.new w 52 #[.int .i64 0, .slice none 0 0]).below hb1 (by simp)|>.next hb2).alloc (.cells #[.int .i64 n, .slice A2 (compl n).length c2] 52); have f0 := g0.frozen; have p0 := g0.cell 0; have p1 := g0.cell 1)
  try simp only [Exit.inBlock, Exit.then]
  refine bodyPost_ret (results_g rfl rfl ((g0.set_ 0 _).set_ 1 _) rfl) rfl ?_
  refine ⟨A2, c2, rfl, ?_, ?_⟩
  · exact ((OwnE.set_blk ((hown2.mono (Nat.le_trans (by simp) hb1.size)).alloc _) g0 (by decide) _ _).set_blk (g0.set_ 0 _) (by decide) _ _)
  · exact (((((Below.refl _ _).alloc (Nat.le_refl _) _).trans (hb1.mono (by simp))).trans (hb2.mono (Nat.le_trans (by simp) hb1.size))).alloc (Nat.le_trans (Nat.le_trans (by simp) hb1.size) hb2.size) _).setCell (Nat.le_refl _) _ |>.setCell (Nat.le_refl _) _
end Go.Proofs.Ytjeggocindcgaaa
