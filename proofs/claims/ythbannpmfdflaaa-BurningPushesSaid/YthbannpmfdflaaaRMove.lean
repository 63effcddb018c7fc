/-
  ref18.Of, ref18.Moved, ref23.Without.
-/
import Derived.Test.YthbannpmfdflaaaRBurn2
import Derived.Test.YthbannpmfdflaaaOwnSet
import Derived.Test.YthbannpmfdflaaaPushP
import Derived.Test.YthbannpmfdflaaaKindle
import Derived.Deep.RegionWith
namespace Go.Proofs.Ythbannpmfdflaaa
open Go.RowKit

theorem make_script (n : Nat) (hn : n ≤ 1048576) (W : World) : (Instr.makeSlice 29 (.int .i64 (n : Int)) (.int .i64 (n : Int))).run Try.prog W =
    .ok (.slice (some ⟨W.heap.size, 0, none⟩) n n) (W.alloc (.cells (ints (List.replicate n 0)).toArray 3)) := by
  obtain ⟨i0, hi, hz0, hz1, hz2⟩ := info_parts info_int
  have hr := run_make (P := Try.prog) W 29 3 i0 (.int .i64 0) Try.underlying29 hi hz0 .i64 .i64 n n (by omega) (Int.le_refl _) (by rw [hz2]; omega) (by omega)
  simp only [Int.toNat_natCast, hz1, Nat.mul_one] at hr
  rw [hr, show (Value.int .i64 0).cells = #[.int .i64 0] from rfl, made_ints]
theorem intCells_at {xs : List Int} {k : Nat} {x : Int} (h : xs[k]? = some x) : (intCells xs)[k]? = some (.int .i64 x) := intCells_get h

set_option maxRecDepth 100000 in
set_option maxHeartbeats 2000000 in
theorem of_any (n : Nat) (hn12 : n ≤ 12) (A : Option Addr) (m c : Nat) (B : Option Addr) (d : Nat) (l : List Nat) (hl : ∀ u ∈ l, u < n) (hll : l.length ≤ 100) (w : World) (h' : Reads w w.heap.size 1 B l.length (ints (natsI l))) :
    Calls Try.prog 120 #[.agg #[.int .i64 n, .slice A m c], .slice B l.length d] w fun e w' => ∃ g, e = .returned (.slice (some ⟨g, 0, none⟩) n n) ∧ Blk w' g 3 (intCells (ofL n l)) ∧ w.heap.size ≤ g ∧ Below w.heap.size w w' := by
  have hmk := make_script n (by omega)
  have g0 := Blk.new w 24 #[.int .i64 n, .slice A m c]
  have hL : (ints (List.replicate n 0)).toArray = intCells (ofL n (l.take 0)) := by rfl
  have s0 := Blk.new (w.alloc (.cells #[.int .i64 n, .slice A m c] 24)) 3 (ints (List.replicate n 0)).toArray
  have hb0 := ((Below.refl w.heap.size w).alloc (Nat.le_refl _) (.cells #[.int .i64 n, .slice A m c] 24)).alloc (by simp) (.cells (ints (List.replicate n 0)).toArray 3)
  have HS0 : Hid (Blk ((w.alloc (.cells #[.int .i64 n, .slice A m c] 24)).alloc (.cells (ints (List.replicate n 0)).toArray 3)) (w.heap.size + 1) 3 (intCells (ofL n (l.take 0)))) := by
    rw [show (w.alloc (.cells #[.int .i64 n, .slice A m c] 24)).heap.size = w.heap.size + 1 from by simp] at s0
    rw [← hL]; exact s0
  have HB0 := Lib.hid hb0
  have HL := Lib.hid hl
  clear s0 hL hb0 hl
  go_enter Try.func120, Try.ntmps120
  go_wp2
  go_loopw [6] (fun i wr => ∃ k : Nat, k ≤ l.length ∧ i = .int .i64 k ∧ Below w.heap.size w wr ∧ Blk wr (w.heap.size + 1) 3 (intCells (ofL n (l.take k)))) (fun i _ => l.length - (intOf i).toNat)
  case atStart => exact ⟨0, by omega, rfl, HB0.out, HS0.out⟩
  case round =>
    obtain ⟨k, hk, rfl, hbel, g1⟩ := hrel
    clear HB0 HS0 hmk g0
    have hsz := hbel.size
    by_cases hlt : k < l.length
    · obtain ⟨u, hu⟩ := get_of_lt hlt
      have hun := HL.out u (List.mem_of_getElem? hu)
      obtain ⟨b, off, rfl, hb, hcell⟩ := (h'.below hbel).at_ (ints_at (natsI_at hu))
      have hi : (k : Int) < (l.length : Int) := by omega
      have hui : (u : Int) < (n : Int) := by omega
      have hs := ofL_snoc n (l.take k) u
      rw [← take_snoc hu] at hs
      have HSS := Lib.hid hs
      obtain ⟨x, hx⟩ := get_of_lt (xs := ofL n (l.take k)) (k := u) (by rw [ofL_length]; exact hun)
      have c1 := g1.cell u
      rw [intCells_at hx] at c1
      have f1 := g1.frozen u
      clear hs hu hx
      go_wp2
      go_roundw
      case rel =>
        have := g1.set_ u (.int .i64 1)
        rw [intCells_set, ← HSS.out] at this
        exact ⟨k + 1, by omega, by go_num, hbel.setCell (by simp) _, this⟩
      case measure => simp [intOf]; omega
    · obtain rfl : k = l.length := by omega
      rw [List.take_length] at g1
      go_wp2
      go_ret
      exact ⟨w.heap.size + 1, rfl, g1, by omega, hbel⟩

set_option maxHeartbeats 2000000 in
theorem without_any (A : Option Addr) (c : Nat) (cs : List Int) (hn : cs.length ≤ 1048000) (q : Nat) (hq : q < cs.length) (w : World) (h : Reads w w.heap.size 1 A cs.length (ints cs)) :
    Calls Try.prog 118 #[.slice A cs.length c, .int .i64 q] w fun e w' => ∃ g c', e = .returned (.slice (some ⟨g, 0, none⟩) cs.length c') ∧ OwnI w' w.heap.size (some ⟨g, 0, none⟩) c' (cs.set q 0) ∧ Below w.heap.size w w' := by
  have hown0 : (w.alloc (.cells #[] 3)).ownsRow w.heap.size 3 1 (.slice (some ⟨w.heap.size, 0, none⟩) 0 0) 0 [] := World.ownsRow_made w #[] 0 (Nat.le_refl _) (by simp [maxLen]) (by simp)
  have hr := h.alloc (Nat.le_refl _) (.cells #[] 3)
  have hqi : (q : Int) < (cs.length : Int) := by omega
  obtain ⟨x, hx⟩ := get_of_lt hq
  go_enter Try.func118, Try.ntmps118
  go_wp2_with (at_builtin; refine append_go rfl (.tmp 6) (.tmp 7) _ rfl w.heap.size 3 Try.underlying26 info_int rfl (by omega) (some ⟨w.heap.size, 0, none⟩) 0 0 [] rfl hown0 w.heap.size (ints cs) rfl hr (by simp [ints, Value.oneCell']) (by omega) (by simp) ?_; intro A' c' w' hown' _ hb' _
               rw [Nat.zero_add, List.nil_append] at hown'
               have ho : OwnI w' w.heap.size A' c' cs := hown'
               obtain ⟨g, rfl, hg, hf, hc⟩ := ho.block (by omega)
               have hf := hf q
               have hc := hc q x hx
               rw [Nat.zero_add])
  go_ret
  refine ⟨g, c', rfl, ?_, ?_⟩
  · have := ho.put q 0
    unfold OwnI at this ⊢
    rw [List.length_set] at this ⊢
    exact this
  · exact (((Below.refl _ _).alloc (Nat.le_refl _) _).trans hb').setCell (by simp; omega) _
end Go.Proofs.Ythbannpmfdflaaa
