/-
  Texts of this claim, put together: REnumP, RBefore, DEqual, OwnSet, CloneI, Edge, IterX, Lit, TreeS, Has.
-/
import Derived.Test.YtghigdcpinengaaGreatK06
import Derived.Test.YtghigdcpinengaaGreatK03
import Derived.Test.YtghigdcpinengaaGreatK01
import Derived.Deep.QuietTactic
import Derived.BigQuiet
import Derived.Test.YtghigdcpinengaaGreatK04
import Derived.Test.YtghigdcpinengaaGreatK08
import Derived.BigRegion
/-! Plain: lists below a list, in lexicographic order; those with a property that what is more has too. No program is in sight. -/
namespace Go.Proofs.YtghigdcpinengaaGreat

/-- The lists that are found from a list on: fuel f, so the place is n - f. -/
def enumR (rec : List Int → Bool) (top : List Int) (n : Nat) : Nat → List Int → List (List Int)
  | 0, c => if rec c then [c] else []
  | f + 1, c => if rec c then (List.range ((top.getD (n - (f + 1)) 0) + 1).toNat).flatMap fun k : Nat => enumR rec top n f (c.set (n - (f + 1)) (k : Int)) else []
/-- .. from the k-th number on. -/
def remR (rec : List Int → Bool) (top : List Int) (n f : Nat) (c : List Int) (k : Nat) : List (List Int) := ((List.range ((top.getD (n - (f + 1)) 0) + 1).toNat).drop k).flatMap fun k : Nat => enumR rec top n f (c.set (n - (f + 1)) (k : Int))
/-- All lists that go on like this. -/
def extL (top : List Int) (n : Nat) : Nat → List Int → List (List Int)
  | 0, c => [c]
  | f + 1, c => (List.range ((top.getD (n - (f + 1)) 0) + 1).toNat).flatMap fun k : Nat => extL top n f (c.set (n - (f + 1)) (k : Int))
/-- The lists of v numbers below. -/
def belL (top : List Int) : Nat → List (List Int)
  | 0 => [[]]
  | v + 1 => (belL top v).flatMap fun p => (List.range ((top.getD v 0) + 1).toNat).map fun k : Nat => p ++ [(k : Int)]
theorem flat_congr {α β : Type} {f g : α → List β} : ∀ {l : List α}, (∀ a ∈ l, f a = g a) → l.flatMap f = l.flatMap g
  | [], _ => rfl
  | a :: l, h => by rw [List.flatMap_cons, List.flatMap_cons, h a (by simp), flat_congr fun b hb => h b (by simp [hb])]
section
variable {rec : List Int → Bool} {top : List Int} {n f v k : Nat} {c : List Int}
theorem enumR_no (h : rec c = false) : enumR rec top n f c = [] := by
  cases f <;> simp [enumR, h]
theorem enumR_succ (h : rec c = true) : enumR rec top n (f + 1) c = remR rec top n f c 0 := by simp [enumR, remR, h]
theorem remR_step (hv : v + (f + 1) = n) (hk : (k : Int) ≤ top.getD v 0) : remR rec top n f c k = enumR rec top n f (c.set v (k : Int)) ++ remR rec top n f c (k + 1) := by
  unfold remR
  obtain rfl : n - (f + 1) = v := by omega
  rw [List.drop_eq_getElem_cons (by rw [List.length_range]; omega), List.flatMap_cons]
  simp
theorem remR_end (hv : v + (f + 1) = n) (hk : top.getD v 0 < (k : Int)) : remR rec top n f c k = [] := by
  unfold remR
  obtain rfl : n - (f + 1) = v := by omega
  rw [List.drop_eq_nil_of_le (by rw [List.length_range]; omega)]
  rfl
theorem extL_some (hv : v + (f + 1) = n) : extL top n (f + 1) c = (List.range ((top.getD v 0) + 1).toNat).flatMap fun k : Nat => extL top n f (c.set v (k : Int)) := by
  obtain rfl : n - (f + 1) = v := by omega
  rfl
theorem set_drop {p : List Int} (hv : v < top.length) (hp : p.length = v) (x : Int) : (p ++ top.drop v).set v x = (p ++ [x]) ++ top.drop (v + 1) := by
  rw [List.set_append_right _ _ (by omega), hp, Nat.sub_self, List.drop_eq_getElem_cons hv, List.set_cons_zero, List.append_assoc]
  rfl
theorem belL_length : ∀ v, ∀ p ∈ belL top v, p.length = v
  | 0, p, h => by simp [belL] at h; simp [h]
  | v + 1, p, h => by
    rw [belL, List.mem_flatMap] at h
    obtain ⟨x, hx, h⟩ := h
    rw [List.mem_map] at h
    obtain ⟨k, _, rfl⟩ := h
    simp [belL_length v x hx]
theorem ext_bel (hn : top.length = n) : ∀ f v, v + f = n → ((belL top v).flatMap fun p => extL top n f (p ++ top.drop v)) = belL top n
  | 0, v, h => by
    obtain rfl : v = n := by omega
    have h1 : ∀ p, p ++ top.drop v = p := fun p => by rw [List.drop_eq_nil_of_le (by omega), List.append_nil]
    simp only [h1, extL]
    simp
  | f + 1, v, h => by
    rw [← ext_bel hn f (v + 1) (by omega), belL, List.flatMap_assoc]
    apply flat_congr
    intro p hp
    rw [extL_some h, List.flatMap_map]
    apply flat_congr
    intro k hk
    rw [set_drop (by omega) (belL_length v p hp)]
theorem bel_ext (hn : top.length = n) : belL top n = extL top n n top := by
  have := ext_bel hn n 0 (by omega)
  simpa [belL] using this.symm
/-- What is found goes on like the list, and is less. -/
theorem ext_le : ∀ f, f ≤ n → ∀ c : List Int, c.length = n → (∀ i, n - f ≤ i → i < n → c.getD i 0 = top.getD i 0) → ∀ x ∈ extL top n f c, x.length = n ∧ ∀ i, i < n → x.getD i 0 ≤ c.getD i 0
  | 0, _, c, hc, _, x, hx => by
    simp [extL] at hx; subst hx; exact ⟨hc, fun i _ => Int.le_refl _⟩
  | f + 1, hf, c, hc, ht, x, hx => by
    rw [extL_some (v := n - (f + 1)) (by omega), List.mem_flatMap] at hx
    obtain ⟨k, hk, hx⟩ := hx
    have hk := List.mem_range.1 hk
    have hset : ∀ i, (c.set (n - (f + 1)) (k : Int)).getD i 0 = if i = n - (f + 1) then (k : Int) else c.getD i 0 := by
      intro i
      rw [List.getD_eq_getElem?_getD, List.getElem?_set]
      by_cases h : n - (f + 1) = i
      · rw [if_pos h, if_pos (by omega), if_pos h.symm]; rfl
      · rw [if_neg h, if_neg (fun e => h e.symm), ← List.getD_eq_getElem?_getD]
    obtain ⟨h1, h2⟩ := ext_le f (by omega) (c.set (n - (f + 1)) (k : Int)) (by simpa using hc) (fun i h1 h2 => by rw [hset, if_neg (by omega)]; exact ht i (by omega) h2) x hx
    refine ⟨h1, fun i hi => ?_⟩
    have h3 := h2 i hi
    rw [hset] at h3
    by_cases h : i = n - (f + 1)
    · rw [if_pos h] at h3
      have := ht i (by omega) hi
      rw [← h] at hk
      omega
    · rw [if_neg h] at h3; exact h3
/-- What is cut off has no element with the property. -/
theorem enum_filter (hm : ∀ x y : List Int, x.length = n → (∀ i, i < n → x.getD i 0 ≤ y.getD i 0) → (∀ i, i < n → y.getD i 0 ≤ top.getD i 0) → rec x = true → rec y = true) :
    ∀ f, f ≤ n → ∀ c : List Int, c.length = n → (∀ i, n - f ≤ i → i < n → c.getD i 0 = top.getD i 0) → (∀ i, i < n → c.getD i 0 ≤ top.getD i 0) → enumR rec top n f c = (extL top n f c).filter rec
  | 0, _, c, _, _, _ => by
    simp only [enumR, extL, List.filter_cons, List.filter_nil]
  | f + 1, hf, c, hc, ht, hl => by
    cases h : rec c
    · rw [enumR_no h]
      symm
      rw [List.filter_eq_nil_iff]
      intro x hx hr
      obtain ⟨h1, h2⟩ := ext_le (f + 1) hf c hc ht x hx
      rw [hm x c h1 h2 hl hr] at h
      cases h
    · rw [enumR, if_pos h, extL, List.filter_flatMap]
      apply flat_congr
      intro k hk
      have hk := List.mem_range.1 hk
      have hset : ∀ i, (c.set (n - (f + 1)) (k : Int)).getD i 0 = if i = n - (f + 1) then (k : Int) else c.getD i 0 := by
        intro i
        rw [List.getD_eq_getElem?_getD, List.getElem?_set]
        by_cases h : n - (f + 1) = i
        · rw [if_pos h, if_pos (by omega), if_pos h.symm]; rfl
        · rw [if_neg h, if_neg (fun e => h e.symm), ← List.getD_eq_getElem?_getD]
      refine enum_filter hm f (by omega) _ (by simpa using hc) (fun i h1 h2 => by rw [hset, if_neg (by omega)]; exact ht i (by omega) h2) (fun i hi => ?_)
      rw [hset]
      split
      · rename_i e; subst e; omega
      · exact hl i hi
theorem enum_bel (hm : ∀ x y : List Int, x.length = n → (∀ i, i < n → x.getD i 0 ≤ y.getD i 0) → (∀ i, i < n → y.getD i 0 ≤ top.getD i 0) → rec x = true → rec y = true) (hn : top.length = n) : enumR rec top n n top = (belL top n).filter rec := by
  rw [bel_ext hn]
  exact enum_filter hm n (Nat.le_refl _) top hn (fun _ _ _ => rfl) (fun _ _ => Int.le_refl _)
end
end Go.Proofs.YtghigdcpinengaaGreat

/-! ref10.Before: the order of lists of ints. -/
namespace Go.Proofs.YtghigdcpinengaaGreat
open Go.RowKit

theorem bfI_drop {xs ys : List Int} {k : Nat} {x y : Int} (h : xs[k]? = some x) (h' : ys[k]? = some y) : bfI (xs.drop k) (ys.drop k) = if x = y then bfI (xs.drop (k + 1)) (ys.drop (k + 1)) else decide (x < y) := by
  obtain ⟨l1, e1⟩ := List.getElem?_eq_some_iff.1 h
  obtain ⟨l2, e2⟩ := List.getElem?_eq_some_iff.1 h'
  rw [List.drop_eq_getElem_cons l1, List.drop_eq_getElem_cons l2, e1, e2, bfI]

set_option maxHeartbeats 1000000 in
theorem rbefore_any (A : Option Addr) (c : Nat) (xs : List Int) (B : Option Addr) (d : Nat) (ys : List Int) (hn : xs.length ≤ 1048576) (w : World) (h : Reads w w.heap.size 1 A xs.length (ints xs)) (h' : Reads w w.heap.size 1 B ys.length (ints ys)) :
    Calls Tryz.prog 80 #[.slice A xs.length c, .slice B ys.length d] w fun e w' => e = .returned (.bool (bfI xs ys)) ∧ Below w.heap.size w w' := by
  go_enter Tryz.func80, Tryz.ntmps80
  go_wp2_with fail
  go_loopw [5] (fun i wr => ∃ k : Nat, k ≤ xs.length ∧ k ≤ ys.length ∧ i = .int .i64 k ∧ Hid (Below w.heap.size w wr) ∧ Hid (bfI xs ys = bfI (xs.drop k) (ys.drop k))) (fun i _ => xs.length - (intOf i).toNat)
  case atStart => exact ⟨0, by omega, by omega, rfl, Below.refl _ _, by simp [Hid]⟩
  case round =>
    obtain ⟨k, hk, hk', rfl, HW, HS⟩ := hrel
    by_cases hlt : k < xs.length
    · by_cases hlt' : k < ys.length
      · obtain ⟨x, hx⟩ := get_of_lt hlt
        obtain ⟨y, hy⟩ := get_of_lt hlt'
        have hd := bfI_drop hx hy
        obtain ⟨b, off, rfl, hb, hcell⟩ := (h.below HW.out).at_ (ints_at hx)
        obtain ⟨b', off', rfl, hb', hcell'⟩ := (h'.below HW.out).at_ (ints_at hy)
        have hi : (k : Int) < (xs.length : Int) := by omega
        have hi' : (k : Int) < (ys.length : Int) := by omega
        have HD := Lib.hid hd
        clear hx hy hd h h'
        by_cases hxy : x = y
        · have hq : (x != y) = false := by simp [hxy]
          have HN := Lib.hid (HS.out.trans (HD.out.trans (if_pos hxy)))
          clear hxy
          go_wp2
          go_quiet (fail)
          go_wp2
          go_roundw
          case rel => exact ⟨k + 1, by omega, by omega, by go_num, below_drewN HW.out _, HN⟩
          case measure => simp [intOf]; omega
        · have hq : (x != y) = true := by simpa using hxy
          have HN := Lib.hid (HS.out.trans (HD.out.trans (if_neg hxy)))
          clear hxy
          go_wp2
          go_quiet (fail)
          go_wp2
          go_quiet (fail)
          go_wp2
          go_ret
          exact ⟨ret_bool HN.out.symm, by exact below_drewN (below_drewN HW.out _) _⟩
      · obtain rfl : k = ys.length := by omega
        have HN : Hid (bfI xs ys = false) := by
          rw [Hid, HS.out, List.drop_length]
          cases xs.drop ys.length <;> rfl
        have hi : ((ys.length : Nat) : Int) < (xs.length : Int) := by omega
        have hq : ¬ (xs.length : Int) < (ys.length : Int) := by omega
        go_wp2
        go_ret
        exact ⟨ret_bool (by rw [HN.out]), HW.out⟩
    · obtain rfl : k = xs.length := by omega
      have HN : Hid (bfI xs ys = decide ((xs.length : Int) < (ys.length : Int))) := by
        rw [Hid, HS.out, List.drop_length]
        cases hd : ys.drop xs.length with
        | nil =>
          have := congrArg List.length hd
          rw [List.length_drop] at this
          simp at this
          simp [bfI]; omega
        | cons y l =>
          have := congrArg List.length hd
          rw [List.length_drop] at this
          simp at this
          simp [bfI]; omega
      go_wp2
      go_ret
      exact ⟨ret_bool (by rw [HN.out, decide_eq_decide]; omega), HW.out⟩
end Go.Proofs.YtghigdcpinengaaGreat

/-! slices.Equal on divisors. -/
namespace Go.Proofs.YtghigdcpinengaaGreat
open Go.RowKit

set_option maxHeartbeats 800000 in
theorem dequal_any (A : Option Addr) (c : Nat) (xs : List Int) (B : Option Addr) (d : Nat) (ys : List Int) (hn : xs.length ≤ 1048576) (w : World) (h : Reads w w.heap.size 1 A xs.length (ints xs)) (h' : Reads w w.heap.size 1 B ys.length (ints ys)) :
    Calls Tryz.prog 28 #[.slice A xs.length c, .slice B ys.length d] w fun e w' => e = .returned (.bool (decide (xs = ys))) ∧ Below w.heap.size w w' := by
  by_cases hl : xs.length = ys.length
  · have HL := Lib.hid hl
    have hb : ((xs.length : Int) != (ys.length : Int)) = false := by simp; omega
    clear hl
    go_enter Tryz.func28, Tryz.ntmps28
    go_wp2
    clear hb
    go_loopw [13] (fun i wr => ∃ k : Nat, k ≤ xs.length ∧ i = .int .i64 k ∧ Below w.heap.size w wr ∧ Hid (xs.take k = ys.take k)) (fun i _ => xs.length - (intOf i).toNat)
    case atStart => exact ⟨0, by omega, rfl, Below.refl _ _, by simp [Hid]⟩
    case round =>
      obtain ⟨k, hk, rfl, hbel, HS⟩ := hrel
      by_cases hlt : k < xs.length
      · obtain ⟨x, hx⟩ := get_of_lt hlt
        obtain ⟨y, hy⟩ := get_of_lt (xs := ys) (k := k) (by have := HL.out; omega)
        have HX := Lib.hid hx
        have HY := Lib.hid hy
        obtain ⟨b, off, rfl, hb, hcell⟩ := (h.below hbel).at_ (ints_at hx)
        obtain ⟨b', off', rfl, hb', hcell'⟩ := (h'.below hbel).at_ (ints_at hy)
        have hi : (k : Int) < (xs.length : Int) := by omega
        have hi' : (k : Int) < (ys.length : Int) := by have := HL.out; omega
        clear hx hy h h'
        by_cases hxy : x = y
        · subst hxy
          go_wp2
          go_quiet (fail)
          go_wp2
          go_roundw
          case rel => exact ⟨k + 1, by omega, by go_num, below_drewN hbel _, by rw [Hid, take_snoc HX.out, take_snoc HY.out, HS.out]⟩
          case measure => simp [intOf]; omega
        · have hbx : (x != y) = true := by simpa using hxy
          go_wp2
          go_quiet (fail)
          go_wp2
          go_ret
          refine ⟨ret_bool ?_, below_drewN hbel _⟩
          have : ¬ xs = ys := fun e => hxy (by have h1 := HX.out; rw [e, HY.out] at h1; injection h1 with h1; exact h1.symm)
          simp [this]
      · go_wp2
        go_ret
        refine ⟨ret_bool ?_, hbel⟩
        have e : xs = ys := by have h1 := HS.out; rw [show k = xs.length from by omega, List.take_length, HL.out, List.take_length] at h1; exact h1
        simp [e]
  · have hb : ((xs.length : Int) != (ys.length : Int)) = true := by simp; omega
    go_enter Tryz.func28, Tryz.ntmps28
    go_wp2
    go_ret
    have : ¬ xs = ys := fun e => hl (by rw [e])
    exact ⟨ret_bool (by simp [this]), Below.refl _ _⟩
end Go.Proofs.YtghigdcpinengaaGreat

/-! slices.Equal on ints and on scripts. -/
namespace Go.Proofs.YtghigdcpinengaaGreat
open Go.RowKit

end Go.Proofs.YtghigdcpinengaaGreat

/-! A slice of ints of the call's own: its block, and a store into it. -/
namespace Go.Proofs.YtghigdcpinengaaGreat
open Go.RowKit

theorem OwnI.block {w : World} {base : Nat} {A : Option Addr} {c : Nat} {xs : List Int} (h : OwnI w base A c xs) (hn : 0 < xs.length) : ∃ g, A = some ⟨g, 0, none⟩ ∧ base ≤ g ∧ (∀ i, w.frozen? ⟨g, i, none⟩ = false) ∧ ∀ (k : Nat) (x : Int), xs[k]? = some x → w.cell? ⟨g, k, none⟩ = some (.int .i64 x) := by
  obtain ⟨h1, h2⟩ := h
  rcases h2 with ⟨h2, h3⟩ | ⟨g, cap, cur, hv, hg, hh, r1, r2, r3, r4⟩
  · simp at h2; omega
  · injection hv with hv1 hv2 hv3
    have hb : Blk w g 3 cur := hh
    refine ⟨g, hv1, hg, hb.frozen, fun k x hk => ?_⟩
    rw [hb.cell k]
    have hk' : k < xs.length := (List.getElem?_eq_some_iff.1 hk).1
    have e1 : (cur.toList.take (xs.length * 1))[k]? = some (.int .i64 x) := by rw [r4, ints_at hk]
    rw [Nat.mul_one, List.getElem?_take_of_lt hk', Array.getElem?_toList] at e1
    exact e1
theorem OwnI.set {w : World} {base : Nat} {A : Option Addr} {c g : Nat} {xs : List Int} (h : OwnI w base A c xs) (hA : A = some ⟨g, 0, none⟩) (k : Nat) (x : Int) : OwnI (w.setCell ⟨g, k, none⟩ (.int .i64 x)) base A c (xs.set k x) := by
  obtain ⟨h1, h2⟩ := h
  rcases h2 with ⟨h2, h3⟩ | ⟨g', cap, cur, hv, hg, hh, r1, r2, r3, r4⟩
  · simp at h2; rw [hA] at h2; simp at h2
  · have hv1 : A = some ⟨g', 0, none⟩ := by injection hv
    rw [hA] at hv1
    have hgg : g = g' := by injection hv1 with hv1; injection hv1
    subst hgg
    refine ⟨by rw [ints_length]; simp, .inr ⟨g, cap, cur.setIfInBounds k (.int .i64 x), by rw [List.length_set]; exact hv, hg, (Blk.set_ (show Blk w g 3 cur from hh) k _), by rw [List.length_set]; exact r1, r2, by simpa using r3, ?_⟩⟩
    rw [Array.toList_setIfInBounds, List.take_set, List.length_set, r4]
    simp [ints, List.map_set]
theorem OwnI.at_ {w : World} {base c g : Nat} {xs : List Int} (h : OwnI w base (some ⟨g, 0, none⟩) c xs) (hn : 0 < xs.length) : base ≤ g ∧ g < w.heap.size ∧ (∀ i, w.frozen? ⟨g, i, none⟩ = false) ∧ ∀ (k : Nat) (x : Int), xs[k]? = some x → w.cell? ⟨g, k, none⟩ = some (.int .i64 x) := by
  obtain ⟨g', e, h1, h2, h3⟩ := h.block hn
  injection e with e
  injection e with e
  subst e
  exact ⟨h1, (own_lt h ⟨_, rfl, rfl⟩).2, h2, h3⟩
theorem OwnI.put {w : World} {base c g : Nat} {xs : List Int} (h : OwnI w base (some ⟨g, 0, none⟩) c xs) (k : Nat) (x : Int) : OwnI (w.setCell ⟨g, k, none⟩ (.int .i64 x)) base (some ⟨g, 0, none⟩) c (xs.set k x) := h.set rfl k x
theorem OwnI.other {w : World} {base c g : Nat} {xs : List Int} (h : OwnI w base (some ⟨g, 0, none⟩) c xs) {p : Addr} (hp : p.block ≠ g) (u : Value) : OwnI (w.setCell p u) base (some ⟨g, 0, none⟩) c xs :=
  own_kept h fun k hk => by
    obtain ⟨a, ha, hk⟩ := hk
    injection ha with ha
    subst ha
    exact Below.heap_setCell w p u k (fun e => hp (by rw [← e, ← hk]))
theorem OwnI.kept {w w' : World} {base c g : Nat} {xs : List Int} (h : OwnI w base (some ⟨g, 0, none⟩) c xs) (hp : w'.heap[g]? = w.heap[g]?) : OwnI w' base (some ⟨g, 0, none⟩) c xs :=
  own_kept h fun k hk => by
    obtain ⟨a, ha, hk⟩ := hk
    injection ha with ha
    subst ha
    subst hk
    exact hp
end Go.Proofs.YtghigdcpinengaaGreat

/-! slices.Clone on ints. -/
namespace Go.Proofs.YtghigdcpinengaaGreat
open Go.RowKit

set_option maxHeartbeats 400000 in
/-- slices.Clone on ints. -/
theorem clone_any (A : Option Addr) (c : Nat) (xs : List Int) (hn : xs.length ≤ 1048000) (w : World) (h : Reads w w.heap.size 1 A xs.length (ints xs)) :
    Calls Tryz.prog 108 #[.slice A xs.length c] w fun e w' =>
      ∃ A' c', e = .returned (.slice A' xs.length c') ∧ OwnI w' w.heap.size A' c' xs ∧ Below w.heap.size w w' := by
  have q22 : ∀ (w : World) (a : Option Addr) (n c n' c' : Nat), (binOp .eql 25 (.slice a n c) (.slice none n' c')).run Tryz.prog w = .ok (.bool a.isNone) w := fun w a n c n' c' => Lib.run_eql_slice_nil w _ _ a n c n' c' Tryz.underlying25
  rcases A with _ | ad
  · have hx : xs = [] := by
      rcases xs with _ | ⟨x, xs⟩
      · rfl
      · obtain ⟨_, _, h, _⟩ := h.2 (by simp)
        cases h
    subst hx
    go_enter Tryz.func108, Tryz.ntmps108
    go_wp2
    go_ret
    exact ⟨none, 0, rfl, OwnI.nil_ _ _, Below.refl _ _⟩
  · go_enter Tryz.func108, Tryz.ntmps108
    have hown0 : (w.alloc (.cells #[] 3)).ownsRow w.heap.size 3 1 (.slice (some ⟨w.heap.size, 0, none⟩) 0 0) 0 [] := World.ownsRow_made w #[] 0 (Nat.le_refl _) (by simp [maxLen]) (by simp)
    have hr := h.alloc (Nat.le_refl _) (.cells #[] 3)
    go_wp2_with (at_builtin; refine append_go rfl (.tmp 5) (.tmp 6) _ rfl w.heap.size 3 Tryz.underlying25 info_int rfl (by omega) (some ⟨w.heap.size, 0, none⟩) 0 0 [] rfl hown0 w.heap.size (ints xs) rfl hr (by simp [ints, Value.oneCell']) (by omega) (by simp) ?_; intro A' c' w' hown' _ hb' _)
    go_ret
    refine ⟨A', c', rfl, ?_, ((Below.refl _ _).alloc (Nat.le_refl _) _).trans hb'⟩
    rw [Nat.zero_add, List.nil_append] at hown'
    exact hown'

end Go.Proofs.YtghigdcpinengaaGreat

/-! Graphs: slices of edges (three cells each) and of pairs (two cells each); the reference's equality of graphs. -/
namespace Go.Proofs.YtghigdcpinengaaGreat
open Go.RowKit

/-- An edge: its ends, and how often. -/
abbrev E3 := Int × Int × Int
def edgeCells : List E3 → List Value
  | [] => []
  | e :: es => .int .i64 e.1 :: .int .i64 e.2.1 :: .int .i64 e.2.2 :: edgeCells es
theorem edgeCells_length (es : List E3) : (edgeCells es).length = es.length * 3 := by
  induction es with
  | nil => rfl
  | cons e es ih => simp [edgeCells, ih]; omega
theorem edgeCells_at {es : List E3} {k : Nat} {e : E3} (h : es[k]? = some e) :
    (edgeCells es)[k * 3]? = some (.int .i64 e.1) ∧ (edgeCells es)[k * 3 + 1]? = some (.int .i64 e.2.1) ∧ (edgeCells es)[k * 3 + 2]? = some (.int .i64 e.2.2) := by
  induction es generalizing k with
  | nil => simp at h
  | cons f es ih =>
    rcases k with _ | k
    · simp at h; subst h; simp [edgeCells]
    · have := ih (k := k) (by simpa using h)
      rw [show (k + 1) * 3 = k * 3 + 1 + 1 + 1 from by omega, show k * 3 + 1 + 1 + 1 + 1 = (k * 3 + 1) + 1 + 1 + 1 from by omega, show k * 3 + 1 + 1 + 1 + 2 = (k * 3 + 2) + 1 + 1 + 1 from by omega]
      simpa [edgeCells] using this
theorem Reads.edge {w : World} {B n : Nat} {A : Option Addr} {es : List E3} {k : Nat} {e : E3} (h : Reads w B 3 A n (edgeCells es)) (he : es[k]? = some e) :
    ∃ b off, A = some ⟨b, off, none⟩ ∧ b < B ∧ w.cell? ⟨b, off + k * 3, none⟩ = some (.int .i64 e.1) ∧ w.cell? ⟨b, off + k * 3 + 1, none⟩ = some (.int .i64 e.2.1) ∧ w.cell? ⟨b, off + k * 3 + 1 + 1, none⟩ = some (.int .i64 e.2.2) := by
  have hk : k < es.length := (List.getElem?_eq_some_iff.1 he).1
  have hl := h.1
  rw [edgeCells_length] at hl
  obtain ⟨b, off, hA, hb, hc⟩ := h.2 (by omega)
  obtain ⟨h1, h2, h3⟩ := edgeCells_at he
  exact ⟨b, off, hA, hb, hc _ _ h1, by have := hc _ _ h2; rwa [show off + (k * 3 + 1) = off + k * 3 + 1 from by omega] at this, by have := hc _ _ h3; rwa [show off + (k * 3 + 2) = off + k * 3 + 1 + 1 from by omega] at this⟩

/-- The slice value is the call's own row of edges. -/
def OwnE (w : World) (base : Nat) (A : Option Addr) (c : Nat) (es : List E3) : Prop := w.ownsRow base 104 3 (.slice A es.length c) es.length (edgeCells es)
section
variable {w w' : World} {base : Nat} {A : Option Addr} {c : Nat} {es : List E3}
theorem OwnE.nil_ (w : World) (base : Nat) : OwnE w base none 0 [] := World.ownsRow_nil _ _ _ _
theorem OwnE.reads (h : OwnE w base A c es) : Reads w w.heap.size 3 A es.length (edgeCells es) := Reads.of_own h
theorem OwnE.alloc (h : OwnE w base A c es) (o : Obj) : OwnE (w.alloc o) base A c es := World.ownsRow.alloc h o
theorem OwnE.drewN (h : OwnE w base A c es) (n : Nat) : OwnE (w.drewN n) base A c es := h
theorem OwnE.lt (h : OwnE w base A c es) : ∀ k, blockOf A k → base ≤ k ∧ k < w.heap.size := fun k hk => World.ownsRow.lt h k (blockOf_own.2 hk)
theorem OwnE.kept (h : OwnE w base A c es) (hk : ∀ k, blockOf A k → w'.heap[k]? = w.heap[k]?) : OwnE w' base A c es := by
  obtain ⟨h1, h2⟩ := h
  refine ⟨h1, ?_⟩
  rcases h2 with h2 | ⟨g, cap, cur, hv, hg, hh, r⟩
  · exact .inl h2
  · have hgb : (Value.slice A es.length c).ownBlock = some g := by rw [hv]; rfl
    exact .inr ⟨g, cap, cur, hv, hg, (hk g (blockOf_own.1 hgb)).trans hh, r⟩
theorem OwnE.next (h : OwnE w base A c es) (hb : Below w.heap.size w w') : OwnE w' base A c es := h.kept fun k hk => hb.block k (h.lt k hk).2
theorem OwnE.mono {base' : Nat} (h : OwnE w base A c es) (hb : base' ≤ base) : OwnE w base' A c es := by
  obtain ⟨h1, h2⟩ := h
  refine ⟨h1, ?_⟩
  rcases h2 with h2 | ⟨g, cap, cur, hv, hg, r⟩
  · exact .inl h2
  · exact .inr ⟨g, cap, cur, hv, by omega, r⟩
theorem OwnE.set_blk {g : Nat} {t : TypeId} {cs : Array Value} (h : OwnE w base A c es) (hg : Blk w g t cs) (ht : 104 ≠ t) (o : Nat) (u : Value) : OwnE (w.setCell ⟨g, o, none⟩ u) base A c es := by
  have hne := own_blk_ne h hg ht
  refine h.kept fun k hk => Below.heap_setCell w ⟨g, o, none⟩ u k ?_
  rintro rfl
  exact hne (blockOf_own.2 hk).symm
end
end Go.Proofs.YtghigdcpinengaaGreat

/-! What stays of slices through the steps of an iterator; the ends of functions that hold ranges over functions. -/
namespace Go.Proofs.YtghigdcpinengaaGreat
open Go.RowKit Go.Shelf

/-- The marks of the loops that a function has gone through. -/
def MarksAt : List Deferred → World → Prop
  | [], _ => True
  | d :: ds, w => ∃ D, d = { target := .collected D, args := #[] } ∧ w.heap[D]? = some (.deferred (some [])) ∧ (∀ d' ∈ ds, d' ≠ d) ∧ MarksAt ds w
theorem MarksAt.keep {ds : List Deferred} {w w' : World} (h : MarksAt ds w) (hk : ∀ D, ({ target := .collected D, args := #[] } : Deferred) ∈ ds → w'.heap[D]? = w.heap[D]?) : MarksAt ds w' := by
  induction ds with
  | nil => trivial
  | cons d ds ih =>
    obtain ⟨D, hd, hD, hne, hr⟩ := h
    refine ⟨D, hd, (hk D (by rw [hd]; simp)).trans hD, hne, ih hr fun D' h' => hk D' (by simp [h'])⟩
theorem end_marks {P : Program} {n : Nat} {fn : Func} {R : Ending → World → Prop} {tmps : Array Value} : ∀ (ds : List Deferred) (w : World), MarksAt ds w →
    (∀ w', Only (fun k => ({ target := .collected k, args := #[] } : Deferred) ∈ ds) w w' → ∃ v, (results fn tmps).run P w' = .ok v w' ∧ R (.returned v) w') → LeavesInM Fence.wide n P fn tmps R ds .returning w := by
  intro ds
  induction ds with
  | nil => intro w _ h; exact h w (Only.refl _ _)
  | cons d ds ih =>
    rintro w ⟨D, hd, hD, hne, hr⟩ h
    refine ⟨by simp, .inl ⟨D, _, by rw [hd], run_takeDeferred hD, ih _ (hr.keep fun D' h' => World.putObj_heap_other fun e => hne _ h' (by rw [hd, e])) ?_⟩⟩
    intro w' ho
    refine h w' (Only.trans ((Only.put_one w D _).mono fun k _ hk => by subst hk; rw [hd]; simp) (ho.mono fun k _ hk => by simp [hk]))

theorem end_none {P : Program} {F : Fence} {n : Nat} {fn : Func} {R : Ending → World → Prop} {tmps : Array Value} {w : World} {v : Value} (hv : (results fn tmps).run P w = .ok v w) (hR : R (.returned v) w) :
    bodyPostM F n P fn R .ret { tmps := tmps, defers := [] } w := ⟨v, hv, hR⟩

theorem OwnI.stays {B : Nat} {M C : Nat → Prop} {w w' : World} {base c : Nat} {A : Option Addr} {xs : List Int} (h : OwnI w base A c xs) (hst : Stays B M C w w') (hC : ∀ k, blockOf A k → C k ∨ (k < B ∧ ¬ M k)) : OwnI w' base A c xs := by
  have hlt := h.lt
  obtain ⟨h1, h2⟩ := h
  refine ⟨h1, ?_⟩
  rcases h2 with h2 | ⟨g, cap, cur, hv, hg, hh, r⟩
  · exact .inl h2
  · have hgb : (Value.slice A xs.length c).ownBlock = some g := by rw [hv]; rfl
    exact .inr ⟨g, cap, cur, hv, hg, (hst.block g (hlt g hgb).2 (hC g (blockOf_own.1 hgb))).trans hh, r⟩
theorem OwnI.only {C : Nat → Prop} {w w' : World} {base c : Nat} {A : Option Addr} {xs : List Int} (h : OwnI w base A c xs) (ho : Only C w w') (hC : ∀ k, blockOf A k → ¬ C k) : OwnI w' base A c xs := by
  have hlt := h.lt
  obtain ⟨h1, h2⟩ := h
  refine ⟨h1, ?_⟩
  rcases h2 with h2 | ⟨g, cap, cur, hv, hg, hh, r⟩
  · exact .inl h2
  · have hgb : (Value.slice A xs.length c).ownBlock = some g := by rw [hv]; rfl
    exact .inr ⟨g, cap, cur, hv, hg, (ho.block g (hlt g hgb).2 (hC g (blockOf_own.1 hgb))).trans hh, r⟩
theorem reads_only {C : Nat → Prop} {w w' : World} {B n : Nat} {A : Option Addr} {xs : List Value} (h : Reads w B 1 A n xs) (ho : Only C w w') (hB : B ≤ w.heap.size) (hC : ∀ k, blockOf A k → ¬ C k) : Reads w' B 1 A n xs :=
  ⟨h.1, fun hn => by
    obtain ⟨b, off, rfl, hb, hc⟩ := h.2 hn
    exact ⟨b, off, rfl, hb, fun j u hu => (World.cell?_of_block (w := w) (ho.block b (by omega) (hC b ⟨_, rfl, rfl⟩))).trans (hc j u hu)⟩⟩

/-- A post that bears no panic. -/
def NoPanic (Q : Exit → Act → World → Prop) : Exit → Act → World → Prop
  | .panic _, _, _ => False
  | .outgrown, _, _ => False
  | e, a, w => Q e a w
theorem wpIn_nopanic {F : Fence} {n : Nat} {P : Program} {c : Code} {Q : Exit → Act → World → Prop} {a : Act} {w : World} (h : c.wpIn F n P (NoPanic Q) a w) : c.wpIn F n P Q a w :=
  wpIn_mono h fun e a w hq => by cases e <;> first | exact hq | exact hq.elim

theorem nopanic_normal {Q : Exit → Act → World → Prop} {a : Act} {w : World} (h : Q .normal a w) : NoPanic Q .normal a w := h
end Go.Proofs.YtghigdcpinengaaGreat

/-! Slices of ints that are known whole. -/
namespace Go.Proofs.YtghigdcpinengaaGreat
open Go.RowKit

def intCells (l : List Int) : Array Value := (ints l).toArray
theorem intCells_get {l : List Int} {k : Nat} {x : Int} (h : l[k]? = some x) : (intCells l)[k]? = some (.int .i64 x) := by simp [intCells, ints, h]
theorem intCells_set (l : List Int) (k : Nat) (x : Int) : (intCells l).setIfInBounds k (.int .i64 x) = intCells (l.set k x) := by simp [intCells, ints, List.map_set]
theorem OwnI.of_blk {w : World} {base g : Nat} {l : List Int} (h : Blk w g 3 (intCells l)) (hb : base ≤ g) (hl : l.length ≤ maxLen) : OwnI w base (some ⟨g, 0, none⟩) l.length l :=
  ⟨by simp [ints], .inr ⟨g, l.length, intCells l, rfl, hb, h, Nat.le_refl _, hl, by simp [intCells, ints], by rw [Nat.mul_one]; show (ints l).take l.length = ints l; rw [← ints_length, List.take_length]⟩⟩
end Go.Proofs.YtghigdcpinengaaGreat

/-! Plain laws of paths in spanning trees: the parents found by rounds, a search in depth, and the cycle of a single edge. No program is in sight. -/
namespace Go.Proofs.YtghigdcpinengaaGreat

section
variable {E : List (Nat × Nat)} {t : List Nat} {n e f a b v w r : Nat}

/-! The parents, by rounds. -/
/-! The search in depth: behind 'from' (a single edge, or none). -/
/-! The cycle of a single edge. -/
end
end Go.Proofs.YtghigdcpinengaaGreat

/-! slices.Index and Contains on ints (from XLegal, for programs without firing). -/
namespace Go.Proofs.YtghigdcpinengaaGreat
open Go.RowKit

set_option maxHeartbeats 1000000 in
theorem index_any (A : Option Addr) (c : Nat) (xs : List Int) (hn : xs.length ≤ 1048576) (v : Int) (w : World) (h : Reads w w.heap.size 1 A xs.length (ints xs)) :
    Calls Tryz.prog 65 #[.slice A xs.length c, .int .i64 v] w fun e w' => ∃ r : Int, e = .returned (.int .i64 r) ∧ Hid (0 ≤ r ↔ v ∈ xs) ∧ w = w' := by
  go_enter Tryz.func65, Tryz.ntmps65
  go_wp2
  go_loop [8] (fun i => ∃ k : Nat, k ≤ xs.length ∧ i = .int .i64 k ∧ Hid (v ∉ xs.take k)) (fun i => xs.length - (intOf i).toNat)
  case atStart => exact ⟨0, by omega, rfl, by simp [Hid]⟩
  case round =>
    obtain ⟨k, hk, rfl, HS⟩ := hrel
    by_cases hlt : k < xs.length
    · obtain ⟨x, hx⟩ := get_of_lt hlt
      obtain ⟨b, off, rfl, hb, hcell⟩ := h.at_ (ints_at hx)
      have hi : (k : Int) < (xs.length : Int) := by omega
      have htk := take_snoc hx
      by_cases hv : v = x
      · have e : (v == x) = true := by simpa using hv
        have HT : Hid (v ∈ xs) := by rw [hv]; exact List.mem_of_getElem? hx
        clear hx htk hv
        go_wp2
        go_ret
        exact ⟨k, rfl, ⟨fun _ => HT.out, fun _ => by omega⟩, rfl⟩
      · have e : (v == x) = false := by simpa using hv
        have HN : Hid (v ∉ xs.take (k + 1)) := by
          rw [htk, Hid, List.mem_append]
          rintro (hc | hc)
          · exact HS.out hc
          · exact hv (List.mem_singleton.1 hc)
        clear hx htk hv
        go_wp2
        go_round
        case rel => exact ⟨k + 1, by omega, by go_num, HN⟩
        case measure => simp [intOf]; omega
    · obtain rfl : k = xs.length := by omega
      rw [List.take_length] at HS
      go_wp2
      go_ret
      exact ⟨-1, rfl, ⟨fun h => absurd h (by decide), fun h => absurd h HS.out⟩, rfl⟩
set_option maxHeartbeats 1000000 in
theorem contains_any (A : Option Addr) (c : Nat) (xs : List Int) (hn : xs.length ≤ 1048576) (v : Int) (w : World) (h : Reads w w.heap.size 1 A xs.length (ints xs)) :
    Calls Tryz.prog 33 #[.slice A xs.length c, .int .i64 v] w fun e w' => e = .returned (.bool (decide (v ∈ xs))) ∧ w = w' := by
  have IC := Lib.hid (index_any A c xs hn v w h)
  go_enter Tryz.func33, Tryz.ntmps33
  go_wp2_with fail
  refine (IC.out).mono ?_
  rintro e w1 ⟨r, rfl, HR, rfl⟩
  go_wp2
  go_ret
  exact ⟨ret_bool (by rw [Bool.eq_iff_iff]; simp [HR.out]), rfl⟩

end Go.Proofs.YtghigdcpinengaaGreat

