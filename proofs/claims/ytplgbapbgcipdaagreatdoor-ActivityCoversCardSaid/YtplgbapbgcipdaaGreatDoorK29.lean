/-
  Texts of this claim, put together: RFound31, RIntv31, Right31.
-/
import Derived.Test.YtplgbapbgcipdaaGreatDoorK28
import Derived.Test.YtplgbapbgcipdaaGreatDoorK26
import Derived.Test.YtplgbapbgcipdaaGreatDoorK24
import Derived.Test.YtplgbapbgcipdaaGreatDoorK22
import Derived.Test.YtplgbapbgcipdaaGreatDoorK21
/-! The reference's Found and Interval. -/
namespace Go.Proofs.YtplgbapbgcipdaaGreatDoor
open Go.RowKit

theorem withinB_nI {l o b : List Nat} : withinB (nI l) (nI o) (nI b) = true ↔ ∀ f ∈ l, f ∈ o ∨ f ∈ b := by
  unfold withinB
  rw [Bool.not_eq_true', List.any_eq_false]
  constructor
  · intro h f hf
    have h1 := h (f : Int) (mem_nI9.2 hf)
    by_cases h2 : f ∈ o
    · exact .inl h2
    · by_cases h3 : f ∈ b
      · exact .inr h3
      · refine absurd ?_ h1
        rw [decide_eq_false (fun hc => h2 (mem_nI9.1 hc)), decide_eq_false (fun hc => h3 (mem_nI9.1 hc))]
        rfl
  · intro h x hx
    obtain ⟨f, hf, rfl⟩ := List.mem_map.1 hx
    rcases h f hf with h1 | h1
    · rw [decide_eq_true (mem_nI9.2 h1)]; simp
    · rw [decide_eq_true (p := (f : Int) ∈ nI b) (mem_nI9.2 h1)]; simp
/-- The program's choice is the interval. -/
theorem pick_iv {m : Nat} {es : List E3} {t S : List Nat} (hz : treeErr m es (nI t) = 0) (hS : SetN (endsL es).length S) : pickB m es (nI S) (nI t) = decide (InIv (endsL es) S t) := by
  have e1 : intE m es (nI t) = (nI (insA (endsL es) t), 0) := by unfold intE; rw [if_pos hz, toN_nI]
  have e2 : extE m es (nI t) = (nI (outA (endsL es) t), 0) := by unfold extE; rw [if_pos hz, toN_nI]
  unfold pickB
  rw [e1, e2, Bool.eq_iff_iff, Bool.and_eq_true, withinB_nI, withinB_nI, decide_eq_true_eq]
  constructor
  · rintro ⟨h1, h2⟩
    refine ⟨fun f hf hn => ?_, fun e he hs hn => ?_⟩
    · rcases h1 f hf with h | h
      · exact absurd h hn
      · exact of_decide_eq_true (List.mem_filter.1 h).2
    · rcases h2 e hs with h | h
      · exact absurd h hn
      · have := (List.mem_filter.1 h).2
        rw [Bool.and_eq_true] at this
        exact of_decide_eq_true this.2
  · rintro ⟨h1, h2⟩
    refine ⟨fun f hf => ?_, fun e hs => ?_⟩
    · by_cases h : f ∈ S
      · exact .inl h
      · exact .inr (List.mem_filter.2 ⟨hf, decide_eq_true (h1 f hf h)⟩)
    · by_cases h : e ∈ t
      · exact .inl h
      · exact .inr (List.mem_filter.2 ⟨List.mem_range.2 (hS.2 e hs), by rw [decide_eq_false h, decide_eq_true (h2 e (hS.2 e hs) hs h)]; rfl⟩)
/-- The tree in whose interval a set is. -/
def foundL (n : Nat) (E : List (Nat × Nat)) (S : List Nat) : List Nat := ((treesT n E).find? fun t => decide (InIv E S t)).getD []
theorem found_spec {n : Nat} {E : List (Nat × Nat)} (hb : BdP n E) (hn : 0 < n) (hx : ∃ t, IsTr n E t) (S : List Nat) : (treesT n E).find? (fun t => decide (InIv E S t)) = some (foundL n E S) ∧ IsTr n E (foundL n E S) ∧ InIv E S (foundL n E S) := by
  obtain ⟨t, ht, hi⟩ := iv_ex hb hx S
  have hm := ((treesT_spec hb hn).1 t).2 ht
  unfold foundL
  cases hf : (treesT n E).find? fun t => decide (InIv E S t) with
  | none => exact absurd (decide_eq_true hi) (List.find?_eq_none.1 hf t hm)
  | some u =>
    have h1 := List.find?_some hf
    have h2 := List.mem_of_find?_eq_some hf
    exact ⟨rfl, ((treesT_spec hb hn).1 u).1 h2, of_decide_eq_true h1⟩
/-- What Interval finds. -/
theorem intv_found {m : Nat} {es : List E3} {S : List Nat} (hj : joinErr m es = 0) (hS : SetN (endsL es).length S) (hx : ∃ t, IsTr m (endsL es) t) : intvE m es (nI S) = (nI (foundL m (endsL es) S), 0) := by
  obtain ⟨_, hG, _⟩ := join_zero hj
  have hb := bd_ends hG
  have hlo := hG.lo
  have hb' : BdP m (endsL es) := hb
  have hE : (tallE m es).1 = (treesT m (endsL es)).map nI := by unfold tallE; rw [if_neg (fun hc => hc hj), Int.toNat_natCast]
  unfold intvE
  rw [if_neg (fun hc => hc hj), if_neg (fun hc => hc (edg_ok hS)), hE, List.find?_map]
  have hf : (treesT m (endsL es)).find? (pickB m es (nI S) ∘ nI) = (treesT m (endsL es)).find? fun t => decide (InIv (endsL es) S t) := by
    have hc : ∀ l : List (List Nat), (∀ t ∈ l, (pickB m es (nI S) ∘ nI) t = decide (InIv (endsL es) S t)) → l.find? (pickB m es (nI S) ∘ nI) = l.find? fun t => decide (InIv (endsL es) S t) := by
      intro l
      induction l with
      | nil => intro _; rfl
      | cons a l ih =>
        intro h
        rw [List.find?_cons, List.find?_cons, h a (by simp), ih fun t ht => h t (by simp [ht])]
    refine hc _ fun t ht => ?_
    have hT := ((treesT_spec hb' (by omega)).1 t).1 ht
    exact pick_iv (tree_ok hj hT) hS
  rw [hf, (found_spec hb' (by omega) hx S).1]
  rfl
end Go.Proofs.YtplgbapbgcipdaaGreatDoor

/-! The reference's Interval. -/
namespace Go.Proofs.YtplgbapbgcipdaaGreatDoor
open Go.RowKit

theorem join_tree {m : Nat} {es : List E3} (hj : joinErr m es = 0) : ∃ t, IsTr m (endsL es) t := by
  obtain ⟨_, hG, hc⟩ := join_zero hj
  have hbd := bd_ends hG
  rw [Int.toNat_natCast, connB_parts hG, decide_eq_true_eq] at hc
  exact tree_ex hbd hc
end Go.Proofs.YtplgbapbgcipdaaGreatDoor

/-! right of sandpilelaw31; the set that bits tell; the number of sets in all intervals. -/
namespace Go.Proofs.YtplgbapbgcipdaaGreatDoor
open Go.RowKit

theorem and_one_u16 (E : Nat) (h : E ≤ 65535) : bits BinOp.and IntKind.u16 (E : Int) 1 = ((E % 2 : Nat) : Int) := by
  have h1 : (BitVec.ofInt 16 (E : Int)).toNat = E := by
    rw [BitVec.ofInt_natCast, BitVec.toNat_ofNat]; exact Nat.mod_eq_of_lt (by omega)
  have h2 : (BitVec.ofInt 16 (1 : Int)).toNat = 1 := by decide
  show IntKind.u16.wrap ((BitVec.ofInt 16 (E : Int) &&& BitVec.ofInt 16 (1 : Int)).toNat : Int) = _
  rw [BitVec.toNat_and, h1, h2, Nat.and_one_is_mod]
  simp [IntKind.wrap, IntKind.bits, IntKind.signed]
  omega
/-- The set that bits tell. -/
def bitS (m u : Nat) : List Nat := (List.range m).filter fun e => decide (u / 2 ^ e % 2 = 1)
theorem bitS_set {m u : Nat} : SetN m (bitS m u) := ⟨List.pairwise_lt_range.sublist List.filter_sublist, fun _ hx => List.mem_range.1 (List.mem_filter.1 hx).1⟩
theorem take_sum_le (l : List Nat) (k : Nat) : (l.take k).sum ≤ l.sum := by
  have h := congrArg List.sum (List.take_append_drop k l)
  rw [List.sum_append] at h
  omega
set_option maxHeartbeats 1000000 in
theorem right31_any (n : Int) (A : Option Addr) (c : Nat) (es : List E3) (w : World) (h : Reads w w.heap.size 3 A es.length (edgeCells es)) :
    Calls Tryz.prog 27 #[.agg #[.int .i64 n, .slice A es.length c]] w fun e w' => e = .returned (.bool (smallB n es 5 8 && decide (joinErr n es = 0))) ∧ Below w.heap.size w w' := by
  have FC := Lib.hid (fun (W : World) (hB : Below w.heap.size w W) => rfewtrees_any n A c es W ((h.below hB).more hB.size))
  have g := Blk.new w 24 #[.int .i64 n, .slice A es.length c]
  have hB : Below w.heap.size w (w.alloc (.cells #[.int .i64 n, .slice A es.length c] 24)) := (Below.refl _ _).alloc (Nat.le_refl _) _
  have k0 := g.cell 0
  have k1 := g.cell 1
  cases hf : smallB n es 5 8
  · rw [hf] at FC
    rw [Bool.false_and]
    clear hf h
    go_enter Tryz.func27, Tryz.ntmps27
    go_wp2_with fail
    refine (FC.out _ hB).mono ?_
    rintro e wn ⟨rfl, hb⟩
    have hB := hB.trans (hb.mono hB.size)
    go_wp2
    go_ret
    exact ⟨rfl, hB⟩
  · rw [hf] at FC
    rw [Bool.true_and]
    obtain ⟨h40, _, _⟩ := few13_parts (n := n) (es := es) (m := 0) (by unfold few13; rw [hf]; rfl)
    have JC := Lib.hid (fun (W : World) (hB : Below w.heap.size w W) => rjoinedErr_any n A c es (by omega) W ((h.below hB).more hB.size))
    obtain ⟨z, hz⟩ : ∃ z, joinErr n es = z := ⟨_, rfl⟩
    rw [hz] at JC ⊢
    have HD : Hid (decide (z = 0) = (z == 0)) := by
      rw [Hid]
      by_cases h0 : z = 0
      · subst h0; rfl
      · rw [decide_eq_false h0]; simp [h0]
    clear hf h h40 hz
    go_enter Tryz.func27, Tryz.ntmps27
    go_wp2_with fail
    refine (FC.out _ hB).mono ?_
    rintro e wn ⟨rfl, hb⟩
    have g := g.next hb
    have hB := hB.trans (hb.mono hB.size)
    have k0 := g.cell 0
    have k1 := g.cell 1
    clear hb
    go_wp2_with fail
    refine (JC.out _ hB).mono ?_
    rintro e wn ⟨rfl, hb⟩
    have hB := hB.trans (hb.mono hB.size)
    go_wp2
    go_ret
    exact ⟨by rw [HD.out]; rfl, hB⟩
end Go.Proofs.YtplgbapbgcipdaaGreatDoor

