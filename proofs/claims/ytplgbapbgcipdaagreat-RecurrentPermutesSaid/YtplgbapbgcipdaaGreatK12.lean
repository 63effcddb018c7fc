/-
  Texts of this claim, put together: REnumP, DEqual, Order, LEqual, Repeat, OwnSet.
-/
import Derived.Test.YtplgbapbgcipdaaGreatK07
import Derived.Test.YtplgbapbgcipdaaGreatK05
import Derived.Deep.QuietTactic
import Derived.BigQuiet
import Derived.Laws.CopyOwn
import Derived.Deep.RegionHeld3
import Derived.Test.YtplgbapbgcipdaaGreatK08
/-! Plain: lists below a list, in lexicographic order; those with a property that what is more has too. No program is in sight. -/
namespace Go.Proofs.YtplgbapbgcipdaaGreat

/-- The lists that are found from a list on: fuel f, so the place is n - f. -/
def enumR (rec : List Int → Bool) (top : List Int) (n : Nat) : Nat → List Int → List (List Int)
  | 0, c => if rec c then [c] else []
  | f + 1, c => if rec c then (List.range ((top.getD (n - (f + 1)) 0) + 1).toNat).flatMap fun k : Nat => enumR rec top n f (c.set (n - (f + 1)) (k : Int)) else []
/-- .. from the k-th number on. -/
def remR (rec : List Int → Bool) (top : List Int) (n f : Nat) (c : List Int) (k : Nat) : List (List Int) := ((List.range ((top.getD (n - (f + 1)) 0) + 1).toNat).drop k).flatMap fun k : Nat => enumR rec top n f (c.set (n - (f + 1)) (k : Int))
/-- All lists that go on like this. -/
def extL (top : List Int) (n : Nat) : Nat → List Int → List (List Int)
  | 0, c => [c]
  | f + 1, c => (List.range ((top.getD (n - (f + 1)) 0) + 1).toNat).flatMap fun k : Nat => extL top n f (c.set (n - (f + 1)) (k : Int))
/-- The lists of v numbers below. -/
def belL (top : List Int) : Nat → List (List Int)
  | 0 => [[]]
  | v + 1 => (belL top v).flatMap fun p => (List.range ((top.getD v 0) + 1).toNat).map fun k : Nat => p ++ [(k : Int)]
theorem flat_congr {α β : Type} {f g : α → List β} : ∀ {l : List α}, (∀ a ∈ l, f a = g a) → l.flatMap f = l.flatMap g
  | [], _ => rfl
  | a :: l, h => by rw [List.flatMap_cons, List.flatMap_cons, h a (by simp), flat_congr fun b hb => h b (by simp [hb])]
section
variable {rec : List Int → Bool} {top : List Int} {n f v k : Nat} {c : List Int}
theorem enumR_no (h : rec c = false) : enumR rec top n f c = [] := by
  cases f <;> simp [enumR, h]
theorem enumR_succ (h : rec c = true) : enumR rec top n (f + 1) c = remR rec top n f c 0 := by simp [enumR, remR, h]
theorem remR_step (hv : v + (f + 1) = n) (hk : (k : Int) ≤ top.getD v 0) : remR rec top n f c k = enumR rec top n f (c.set v (k : Int)) ++ remR rec top n f c (k + 1) := by
  unfold remR
  obtain rfl : n - (f + 1) = v := by omega
  rw [List.drop_eq_getElem_cons (by rw [List.length_range]; omega), List.flatMap_cons]
  simp
theorem remR_end (hv : v + (f + 1) = n) (hk : top.getD v 0 < (k : Int)) : remR rec top n f c k = [] := by
  unfold remR
  obtain rfl : n - (f + 1) = v := by omega
  rw [List.drop_eq_nil_of_le (by rw [List.length_range]; omega)]
  rfl
theorem extL_some (hv : v + (f + 1) = n) : extL top n (f + 1) c = (List.range ((top.getD v 0) + 1).toNat).flatMap fun k : Nat => extL top n f (c.set v (k : Int)) := by
  obtain rfl : n - (f + 1) = v := by omega
  rfl
theorem set_drop {p : List Int} (hv : v < top.length) (hp : p.length = v) (x : Int) : (p ++ top.drop v).set v x = (p ++ [x]) ++ top.drop (v + 1) := by
  rw [List.set_append_right _ _ (by omega), hp, Nat.sub_self, List.drop_eq_getElem_cons hv, List.set_cons_zero, List.append_assoc]
  rfl
theorem belL_length : ∀ v, ∀ p ∈ belL top v, p.length = v
  | 0, p, h => by simp [belL] at h; simp [h]
  | v + 1, p, h => by
    rw [belL, List.mem_flatMap] at h
    obtain ⟨x, hx, h⟩ := h
    rw [List.mem_map] at h
    obtain ⟨k, _, rfl⟩ := h
    simp [belL_length v x hx]
theorem ext_bel (hn : top.length = n) : ∀ f v, v + f = n → ((belL top v).flatMap fun p => extL top n f (p ++ top.drop v)) = belL top n
  | 0, v, h => by
    obtain rfl : v = n := by omega
    have h1 : ∀ p, p ++ top.drop v = p := fun p => by rw [List.drop_eq_nil_of_le (by omega), List.append_nil]
    simp only [h1, extL]
    simp
  | f + 1, v, h => by
    rw [← ext_bel hn f (v + 1) (by omega), belL, List.flatMap_assoc]
    apply flat_congr
    intro p hp
    rw [extL_some h, List.flatMap_map]
    apply flat_congr
    intro k hk
    rw [set_drop (by omega) (belL_length v p hp)]
theorem bel_ext (hn : top.length = n) : belL top n = extL top n n top := by
  have := ext_bel hn n 0 (by omega)
  simpa [belL] using this.symm
/-- What is found goes on like the list, and is less. -/
theorem ext_le : ∀ f, f ≤ n → ∀ c : List Int, c.length = n → (∀ i, n - f ≤ i → i < n → c.getD i 0 = top.getD i 0) → ∀ x ∈ extL top n f c, x.length = n ∧ ∀ i, i < n → x.getD i 0 ≤ c.getD i 0
  | 0, _, c, hc, _, x, hx => by
    simp [extL] at hx; subst hx; exact ⟨hc, fun i _ => Int.le_refl _⟩
  | f + 1, hf, c, hc, ht, x, hx => by
    rw [extL_some (v := n - (f + 1)) (by omega), List.mem_flatMap] at hx
    obtain ⟨k, hk, hx⟩ := hx
    have hk := List.mem_range.1 hk
    have hset : ∀ i, (c.set (n - (f + 1)) (k : Int)).getD i 0 = if i = n - (f + 1) then (k : Int) else c.getD i 0 := by
      intro i
      rw [List.getD_eq_getElem?_getD, List.getElem?_set]
      by_cases h : n - (f + 1) = i
      · rw [if_pos h, if_pos (by omega), if_pos h.symm]; rfl
      · rw [if_neg h, if_neg (fun e => h e.symm), ← List.getD_eq_getElem?_getD]
    obtain ⟨h1, h2⟩ := ext_le f (by omega) (c.set (n - (f + 1)) (k : Int)) (by simpa using hc) (fun i h1 h2 => by rw [hset, if_neg (by omega)]; exact ht i (by omega) h2) x hx
    refine ⟨h1, fun i hi => ?_⟩
    have h3 := h2 i hi
    rw [hset] at h3
    by_cases h : i = n - (f + 1)
    · rw [if_pos h] at h3
      have := ht i (by omega) hi
      rw [← h] at hk
      omega
    · rw [if_neg h] at h3; exact h3
/-- What is cut off has no element with the property. -/
theorem enum_filter (hm : ∀ x y : List Int, x.length = n → (∀ i, i < n → x.getD i 0 ≤ y.getD i 0) → (∀ i, i < n → y.getD i 0 ≤ top.getD i 0) → rec x = true → rec y = true) :
    ∀ f, f ≤ n → ∀ c : List Int, c.length = n → (∀ i, n - f ≤ i → i < n → c.getD i 0 = top.getD i 0) → (∀ i, i < n → c.getD i 0 ≤ top.getD i 0) → enumR rec top n f c = (extL top n f c).filter rec
  | 0, _, c, _, _, _ => by
    simp only [enumR, extL, List.filter_cons, List.filter_nil]
  | f + 1, hf, c, hc, ht, hl => by
    cases h : rec c
    · rw [enumR_no h]
      symm
      rw [List.filter_eq_nil_iff]
      intro x hx hr
      obtain ⟨h1, h2⟩ := ext_le (f + 1) hf c hc ht x hx
      rw [hm x c h1 h2 hl hr] at h
      cases h
    · rw [enumR, if_pos h, extL, List.filter_flatMap]
      apply flat_congr
      intro k hk
      have hk := List.mem_range.1 hk
      have hset : ∀ i, (c.set (n - (f + 1)) (k : Int)).getD i 0 = if i = n - (f + 1) then (k : Int) else c.getD i 0 := by
        intro i
        rw [List.getD_eq_getElem?_getD, List.getElem?_set]
        by_cases h : n - (f + 1) = i
        · rw [if_pos h, if_pos (by omega), if_pos h.symm]; rfl
        · rw [if_neg h, if_neg (fun e => h e.symm), ← List.getD_eq_getElem?_getD]
      refine enum_filter hm f (by omega) _ (by simpa using hc) (fun i h1 h2 => by rw [hset, if_neg (by omega)]; exact ht i (by omega) h2) (fun i hi => ?_)
      rw [hset]
      split
      · rename_i e; subst e; omega
      · exact hl i hi
theorem enum_bel (hm : ∀ x y : List Int, x.length = n → (∀ i, i < n → x.getD i 0 ≤ y.getD i 0) → (∀ i, i < n → y.getD i 0 ≤ top.getD i 0) → rec x = true → rec y = true) (hn : top.length = n) : enumR rec top n n top = (belL top n).filter rec := by
  rw [bel_ext hn]
  exact enum_filter hm n (Nat.le_refl _) top hn (fun _ _ _ => rfl) (fun _ _ => Int.le_refl _)
end
end Go.Proofs.YtplgbapbgcipdaaGreat

/-! slices.Equal on divisors. -/
namespace Go.Proofs.YtplgbapbgcipdaaGreat
open Go.RowKit

set_option maxHeartbeats 800000 in
theorem dequal_any (A : Option Addr) (c : Nat) (xs : List Int) (B : Option Addr) (d : Nat) (ys : List Int) (hn : xs.length ≤ 1048576) (w : World) (h : Reads w w.heap.size 1 A xs.length (ints xs)) (h' : Reads w w.heap.size 1 B ys.length (ints ys)) :
    Calls Tryz.prog 21 #[.slice A xs.length c, .slice B ys.length d] w fun e w' => e = .returned (.bool (decide (xs = ys))) ∧ Below w.heap.size w w' := by
  by_cases hl : xs.length = ys.length
  · have HL := Lib.hid hl
    have hb : ((xs.length : Int) != (ys.length : Int)) = false := by simp; omega
    clear hl
    go_enter Tryz.func21, Tryz.ntmps21
    go_wp2
    clear hb
    go_loopw [13] (fun i wr => ∃ k : Nat, k ≤ xs.length ∧ i = .int .i64 k ∧ Below w.heap.size w wr ∧ Hid (xs.take k = ys.take k)) (fun i _ => xs.length - (intOf i).toNat)
    case atStart => exact ⟨0, by omega, rfl, Below.refl _ _, by simp [Hid]⟩
    case round =>
      obtain ⟨k, hk, rfl, hbel, HS⟩ := hrel
      by_cases hlt : k < xs.length
      · obtain ⟨x, hx⟩ := get_of_lt hlt
        obtain ⟨y, hy⟩ := get_of_lt (xs := ys) (k := k) (by have := HL.out; omega)
        have HX := Lib.hid hx
        have HY := Lib.hid hy
        obtain ⟨b, off, rfl, hb, hcell⟩ := (h.below hbel).at_ (ints_at hx)
        obtain ⟨b', off', rfl, hb', hcell'⟩ := (h'.below hbel).at_ (ints_at hy)
        have hi : (k : Int) < (xs.length : Int) := by omega
        have hi' : (k : Int) < (ys.length : Int) := by have := HL.out; omega
        clear hx hy h h'
        by_cases hxy : x = y
        · subst hxy
          go_wp2
          go_quiet (fail)
          go_wp2
          go_roundw
          case rel => exact ⟨k + 1, by omega, by go_num, below_drewN hbel _, by rw [Hid, take_snoc HX.out, take_snoc HY.out, HS.out]⟩
          case measure => simp [intOf]; omega
        · have hbx : (x != y) = true := by simpa using hxy
          go_wp2
          go_quiet (fail)
          go_wp2
          go_ret
          refine ⟨ret_bool ?_, below_drewN hbel _⟩
          have : ¬ xs = ys := fun e => hxy (by have h1 := HX.out; rw [e, HY.out] at h1; injection h1 with h1; exact h1.symm)
          simp [this]
      · go_wp2
        go_ret
        refine ⟨ret_bool ?_, hbel⟩
        have e : xs = ys := by have h1 := HS.out; rw [show k = xs.length from by omega, List.take_length, HL.out, List.take_length] at h1; exact h1
        simp [e]
  · have hb : ((xs.length : Int) != (ys.length : Int)) = true := by simp; omega
    go_enter Tryz.func21, Tryz.ntmps21
    go_wp2
    go_ret
    have : ¬ xs = ys := fun e => hl (by rw [e])
    exact ⟨ret_bool (by simp [this]), Below.refl _ _⟩
end Go.Proofs.YtplgbapbgcipdaaGreat

/-! slices.Equal on ints and on scripts. -/
namespace Go.Proofs.YtplgbapbgcipdaaGreat
open Go.RowKit

end Go.Proofs.YtplgbapbgcipdaaGreat

/-! ref17.Order and ref17.Same: the order and the equality of divisors. -/
namespace Go.Proofs.YtplgbapbgcipdaaGreat
open Go.RowKit

/-- The order of two lists of one length. -/
def ordS : List Int → List Int → Int
  | x :: xs, y :: ys => if x < y then -1 else if y < x then 1 else ordS xs ys
  | _, _ => 0
theorem ordS_drop {xs ys : List Int} {k : Nat} {x y : Int} (h : xs[k]? = some x) (h' : ys[k]? = some y) :
    ordS (xs.drop k) (ys.drop k) = if x < y then -1 else if y < x then 1 else ordS (xs.drop (k + 1)) (ys.drop (k + 1)) := by
  obtain ⟨l1, e1⟩ := List.getElem?_eq_some_iff.1 h
  obtain ⟨l2, e2⟩ := List.getElem?_eq_some_iff.1 h'
  rw [List.drop_eq_getElem_cons l1, List.drop_eq_getElem_cons l2, e1, e2, ordS]
theorem ordS_zero : ∀ {xs ys : List Int}, xs.length = ys.length → (ordS xs ys = 0 ↔ xs = ys)
  | [], [], _ => by simp [ordS]
  | [], _ :: _, h => by simp at h
  | _ :: _, [], h => by simp at h
  | x :: xs, y :: ys, h => by
    have ih := ordS_zero (xs := xs) (ys := ys) (by simpa using h)
    rw [ordS]
    by_cases h1 : x < y
    · rw [if_pos h1]; simp; intro e; omega
    · by_cases h2 : y < x
      · rw [if_neg h1, if_pos h2]; simp; intro e; omega
      · have : x = y := by omega
        subst this
        rw [if_neg h1, if_neg h1, ih]; simp

theorem drew_once {w wr : World} {a : Nat} (h : ∃ m, wr = w.drewN m) : ∃ m, wr.drewN a = w.drewN m := by
  obtain ⟨m, e⟩ := h
  exact ⟨m + a, by rw [e, World.drewN_drewN]⟩
theorem drew_twice {w wr : World} {a b : Nat} (h : ∃ m, wr = w.drewN m) : ∃ m, (wr.drewN a).drewN b = w.drewN m := by
  obtain ⟨m, e⟩ := h
  exact ⟨m + (a + b), by rw [e, World.drewN_drewN, World.drewN_drewN]⟩
set_option maxHeartbeats 800000 in
theorem rorder_any (A : Option Addr) (c : Nat) (xs : List Int) (B : Option Addr) (d : Nat) (ys : List Int) (hn : xs.length ≤ 1048576) (hl : xs.length = ys.length) (w : World) (b0 : Nat) (h : Reads w b0 1 A xs.length (ints xs)) (h' : Reads w b0 1 B ys.length (ints ys)) :
    Calls Tryz.prog 42 #[.slice A xs.length c, .slice B ys.length d] w fun e w' => e = .returned (.int .i64 (ordS xs ys)) ∧ ∃ m, w' = w.drewN m := by
  have HL := Lib.hid hl
  clear hl
  go_enter Tryz.func42, Tryz.ntmps42
  go_wp2
  go_loopw [5] (fun i wr => ∃ k : Nat, k ≤ xs.length ∧ i = .int .i64 k ∧ Hid (∃ m, wr = w.drewN m) ∧ Hid (ordS xs ys = ordS (xs.drop k) (ys.drop k))) (fun i _ => xs.length - (intOf i).toNat)
  case atStart => exact ⟨0, by omega, rfl, ⟨0, rfl⟩, by simp [Hid]⟩
  case round =>
    obtain ⟨k, hk, rfl, HM, HS⟩ := hrel
    have hrd : Reads wr b0 1 A xs.length (ints xs) := by obtain ⟨m, e⟩ := HM.out; rw [e]; exact h
    have hrd' : Reads wr b0 1 B ys.length (ints ys) := by obtain ⟨m, e⟩ := HM.out; rw [e]; exact h'
    by_cases hlt : k < xs.length
    · obtain ⟨x, hx⟩ := get_of_lt hlt
      obtain ⟨y, hy⟩ := get_of_lt (xs := ys) (k := k) (by have := HL.out; omega)
      have hd := ordS_drop hx hy
      obtain ⟨b, off, rfl, hb, hcell⟩ := hrd.at_ (ints_at hx)
      obtain ⟨b', off', rfl, hb', hcell'⟩ := hrd'.at_ (ints_at hy)
      have hi : (k : Int) < (xs.length : Int) := by omega
      have hi' : (k : Int) < (ys.length : Int) := by have := HL.out; omega
      clear hx hy h h' hrd hrd'
      by_cases h1 : x < y
      · have d1 : decide (x < y) = true := decide_eq_true h1
        rw [if_pos h1] at hd
        have HD := Lib.hid hd
        clear hd
        go_wp2
        go_quiet (fail)
        go_wp2
        go_ret
        exact ⟨by rw [HS.out, HD.out]; rfl, by obtain ⟨m, e⟩ := HM.out; exact ⟨m + nq, by rw [e, World.drewN_drewN]⟩⟩
      · have d1 : decide (x < y) = false := decide_eq_false h1
        by_cases h2 : y < x
        · have d2 : decide (y < x) = true := decide_eq_true h2
          rw [if_neg h1, if_pos h2] at hd
          have HD := Lib.hid hd
          clear hd
          go_wp2
          go_quiet (fail)
          go_wp2
          go_quiet (fail)
          go_wp2
          go_ret
          exact ⟨by rw [HS.out, HD.out]; rfl, drew_twice HM.out⟩
        · have d2 : decide (y < x) = false := decide_eq_false h2
          rw [if_neg h1, if_neg h2] at hd
          have HD := Lib.hid hd
          clear hd
          go_wp2
          go_quiet (fail)
          go_wp2
          go_quiet (fail)
          go_wp2
          go_roundw
          case rel => exact ⟨k + 1, by omega, by go_num, drew_once HM.out, by rw [Hid, HS.out, HD.out]⟩
          case measure => simp [intOf]; omega
    · go_wp2
      go_ret
      refine ⟨?_, HM.out⟩
      have e : ordS xs ys = 0 := by rw [HS.out, List.drop_eq_nil_of_le (by omega)]; rfl
      rw [e]; rfl

set_option maxHeartbeats 400000 in
theorem dsame_any (A : Option Addr) (c : Nat) (xs : List Int) (B : Option Addr) (d : Nat) (ys : List Int) (hn : xs.length ≤ 1048576) (w : World) (b0 : Nat) (h : Reads w b0 1 A xs.length (ints xs)) (h' : Reads w b0 1 B ys.length (ints ys)) :
    Calls Tryz.prog 12 #[.slice A xs.length c, .slice B ys.length d] w fun e w' => e = .returned (.bool (decide (xs = ys))) ∧ ∃ m, w' = w.drewN m := by
  by_cases hl : xs.length = ys.length
  · have hb : ((xs.length : Int) != (ys.length : Int)) = false := by simp; omega
    have HO := Lib.hid (rorder_any A c xs B d ys hn hl w b0 h h')
    have HZ := Lib.hid (ordS_zero hl)
    clear hl
    go_enter Tryz.func12, Tryz.ntmps12
    go_wp2_with (go_at_call 42; refine (HO.out).mono ?_; rintro e w' ⟨rfl, hw'⟩)
    go_ret
    refine ⟨ret_bool ?_, hw'⟩
    by_cases he : xs = ys
    · have := HZ.out.2 he; simp [he] at this ⊢; exact this
    · have : ¬ ordS xs ys = 0 := fun e => he (HZ.out.1 e)
      simp [he, this]
  · have hb : ((xs.length : Int) != (ys.length : Int)) = true := by simp; omega
    go_enter Tryz.func12, Tryz.ntmps12
    go_wp2
    go_ret
    have : ¬ xs = ys := fun e => hl (by rw [e])
    exact ⟨ret_bool (by simp [this]), 0, rfl⟩
end Go.Proofs.YtplgbapbgcipdaaGreat

/-! ref23.Same. -/
namespace Go.Proofs.YtplgbapbgcipdaaGreat
open Go.RowKit

end Go.Proofs.YtplgbapbgcipdaaGreat

/-! slices.Equal on lists and on scripts. -/
namespace Go.Proofs.YtplgbapbgcipdaaGreat
open Go.RowKit

set_option maxHeartbeats 800000 in
theorem iequal_any (A : Option Addr) (c : Nat) (xs : List Int) (B : Option Addr) (d : Nat) (ys : List Int) (hn : xs.length ≤ 1048576) (w : World) (h : Reads w w.heap.size 1 A xs.length (ints xs)) (h' : Reads w w.heap.size 1 B ys.length (ints ys)) :
    Calls Tryz.prog 34 #[.slice A xs.length c, .slice B ys.length d] w fun e w' => e = .returned (.bool (decide (xs = ys))) ∧ Below w.heap.size w w' := by
  by_cases hl : xs.length = ys.length
  · have HL := Lib.hid hl
    have hb : ((xs.length : Int) != (ys.length : Int)) = false := by simp; omega
    clear hl
    go_enter Tryz.func34, Tryz.ntmps34
    go_wp2
    clear hb
    go_loopw [13] (fun i wr => ∃ k : Nat, k ≤ xs.length ∧ i = .int .i64 k ∧ Below w.heap.size w wr ∧ Hid (xs.take k = ys.take k)) (fun i _ => xs.length - (intOf i).toNat)
    case atStart => exact ⟨0, by omega, rfl, Below.refl _ _, by simp [Hid]⟩
    case round =>
      obtain ⟨k, hk, rfl, hbel, HS⟩ := hrel
      by_cases hlt : k < xs.length
      · obtain ⟨x, hx⟩ := get_of_lt hlt
        obtain ⟨y, hy⟩ := get_of_lt (xs := ys) (k := k) (by have := HL.out; omega)
        have HX := Lib.hid hx
        have HY := Lib.hid hy
        obtain ⟨b, off, rfl, hb, hcell⟩ := (h.below hbel).at_ (ints_at hx)
        obtain ⟨b', off', rfl, hb', hcell'⟩ := (h'.below hbel).at_ (ints_at hy)
        have hi : (k : Int) < (xs.length : Int) := by omega
        have hi' : (k : Int) < (ys.length : Int) := by have := HL.out; omega
        clear hx hy h h'
        by_cases hxy : x = y
        · subst hxy
          go_wp2
          go_quiet (fail)
          go_wp2
          go_roundw
          case rel => exact ⟨k + 1, by omega, by go_num, below_drewN hbel _, by rw [Hid, take_snoc HX.out, take_snoc HY.out, HS.out]⟩
          case measure => simp [intOf]; omega
        · have hbx : (x != y) = true := by simpa using hxy
          go_wp2
          go_quiet (fail)
          go_wp2
          go_ret
          refine ⟨ret_bool ?_, below_drewN hbel _⟩
          have : ¬ xs = ys := fun e => hxy (by have h1 := HX.out; rw [e, HY.out] at h1; injection h1 with h1; exact h1.symm)
          simp [this]
      · go_wp2
        go_ret
        refine ⟨ret_bool ?_, hbel⟩
        have e : xs = ys := by have h1 := HS.out; rw [show k = xs.length from by omega, List.take_length, HL.out, List.take_length] at h1; exact h1
        simp [e]
  · have hb : ((xs.length : Int) != (ys.length : Int)) = true := by simp; omega
    go_enter Tryz.func34, Tryz.ntmps34
    go_wp2
    go_ret
    have : ¬ xs = ys := fun e => hl (by rw [e])
    exact ⟨ret_bool (by simp [this]), Below.refl _ _⟩
set_option maxHeartbeats 800000 in
theorem sequal_any (A : Option Addr) (c : Nat) (xs : List Int) (B : Option Addr) (d : Nat) (ys : List Int) (hn : xs.length ≤ 1048576) (w : World) (h : Reads w w.heap.size 1 A xs.length (ints xs)) (h' : Reads w w.heap.size 1 B ys.length (ints ys)) :
    Calls Tryz.prog 35 #[.slice A xs.length c, .slice B ys.length d] w fun e w' => e = .returned (.bool (decide (xs = ys))) ∧ Below w.heap.size w w' := by
  by_cases hl : xs.length = ys.length
  · have HL := Lib.hid hl
    have hb : ((xs.length : Int) != (ys.length : Int)) = false := by simp; omega
    clear hl
    go_enter Tryz.func35, Tryz.ntmps35
    go_wp2
    clear hb
    go_loopw [13] (fun i wr => ∃ k : Nat, k ≤ xs.length ∧ i = .int .i64 k ∧ Below w.heap.size w wr ∧ Hid (xs.take k = ys.take k)) (fun i _ => xs.length - (intOf i).toNat)
    case atStart => exact ⟨0, by omega, rfl, Below.refl _ _, by simp [Hid]⟩
    case round =>
      obtain ⟨k, hk, rfl, hbel, HS⟩ := hrel
      by_cases hlt : k < xs.length
      · obtain ⟨x, hx⟩ := get_of_lt hlt
        obtain ⟨y, hy⟩ := get_of_lt (xs := ys) (k := k) (by have := HL.out; omega)
        have HX := Lib.hid hx
        have HY := Lib.hid hy
        obtain ⟨b, off, rfl, hb, hcell⟩ := (h.below hbel).at_ (ints_at hx)
        obtain ⟨b', off', rfl, hb', hcell'⟩ := (h'.below hbel).at_ (ints_at hy)
        have hi : (k : Int) < (xs.length : Int) := by omega
        have hi' : (k : Int) < (ys.length : Int) := by have := HL.out; omega
        clear hx hy h h'
        by_cases hxy : x = y
        · subst hxy
          go_wp2
          go_quiet (fail)
          go_wp2
          go_roundw
          case rel => exact ⟨k + 1, by omega, by go_num, below_drewN hbel _, by rw [Hid, take_snoc HX.out, take_snoc HY.out, HS.out]⟩
          case measure => simp [intOf]; omega
        · have hbx : (x != y) = true := by simpa using hxy
          go_wp2
          go_quiet (fail)
          go_wp2
          go_ret
          refine ⟨ret_bool ?_, below_drewN hbel _⟩
          have : ¬ xs = ys := fun e => hxy (by have h1 := HX.out; rw [e, HY.out] at h1; injection h1 with h1; exact h1.symm)
          simp [this]
      · go_wp2
        go_ret
        refine ⟨ret_bool ?_, hbel⟩
        have e : xs = ys := by have h1 := HS.out; rw [show k = xs.length from by omega, List.take_length, HL.out, List.take_length] at h1; exact h1
        simp [e]
  · have hb : ((xs.length : Int) != (ys.length : Int)) = true := by simp; omega
    go_enter Tryz.func35, Tryz.ntmps35
    go_wp2
    go_ret
    have : ¬ xs = ys := fun e => hl (by rw [e])
    exact ⟨ret_bool (by simp [this]), Below.refl _ _⟩
end Go.Proofs.YtplgbapbgcipdaaGreat

/-! slices.Repeat of a list with one bool. -/
namespace Go.Proofs.YtplgbapbgcipdaaGreat
open Go.RowKit

set_option maxRecDepth 100000 in
set_option maxHeartbeats 4000000 in
theorem mul_any (n : Nat) (hn : n ≤ 12) (w : World) :
    Calls Tryz.prog 104 #[.int .u64 1, .int .u64 n] w fun e w' => e = .returned (.tuple #[.int .u64 0, .int .u64 n]) ∧ w' = w := by
  have h : n = 0 ∨ n = 1 ∨ n = 2 ∨ n = 3 ∨ n = 4 ∨ n = 5 ∨ n = 6 ∨ n = 7 ∨ n = 8 ∨ n = 9 ∨ n = 10 ∨ n = 11 ∨ n = 12 := by omega
  rcases h with rfl | rfl | rfl | rfl | rfl | rfl | rfl | rfl | rfl | rfl | rfl | rfl | rfl
  all_goals
    go_enter Tryz.func104, Tryz.ntmps104
    go_wp2
    go_ret2
    exact ⟨rfl, rfl⟩
set_option maxRecDepth 100000 in
/-- 'copy' within and into a block of bools. -/
theorem copy_bools {w : World} {g o n : Nat} {cur : List Bool} (hg : Blk w g 4 (bools cur)) (a : Addr) (m c d k : Nat) (hk : k = Nat.min m n) (hsrc : ∀ j, j < k → w.cell? (a.add j) = some (.bool true)) (hfit : o + k ≤ cur.length) :
    ∃ w', (Builtin.copy_ #[93, 93] 3 #[.slice (some ⟨g, o, none⟩) n d, .slice (some a) m c]).run Tryz.prog w = .ok (.int .i64 k) w' ∧ Blk w' g 4 (bools (cur.take o ++ List.replicate k true ++ cur.drop (o + k))) ∧ ∀ B w0, Below B w0 w → B ≤ g → Below B w0 w' := by
  obtain ⟨i0, hi, hz0, hz1, hz2⟩ := info_parts info_bool
  have hin : (Tryz.prog.info? 4).map (·.size) = some 1 := by rw [hi]; simp [hz1]
  have hr := run_copy_row Tryz.prog w 93 93 3 4 g o n d a m c (bools cur) 4 (List.replicate k (.bool true)) Tryz.underlying93 hin hg (by simpa using hk)
    (fun j v hj => by
      rw [List.getElem?_replicate] at hj
      split at hj
      · rename_i h; injection hj with hj; subst hj; exact hsrc j h
      · cases hj) (by simpa [bools] using hfit) (fun v hv => by rw [(List.mem_replicate.1 hv).2]; rfl)
  rw [List.length_replicate] at hr
  refine ⟨_, hr, ?_, fun B w0 hb hB => below_setRow hb hB _⟩
  have := setRow_heap w g (bools cur) ((bools cur).toList.take o ++ List.replicate k (Value.bool true) ++ (bools cur).toList.drop (o + k)).toArray 4 (0, 0) hg
  refine this.trans ?_
  congr 2
  simp [bools, List.map_take, List.map_drop]
theorem rep_take {n k m : Nat} (hk : k + m ≤ n) : (List.replicate k true ++ List.replicate (n - k) false).take k ++ List.replicate m true ++ (List.replicate k true ++ List.replicate (n - k) false).drop (k + m) = List.replicate (k + m) true ++ List.replicate (n - (k + m)) false := by
  rw [List.take_left' (by simp), List.drop_append]
  simp only [List.length_replicate, List.drop_replicate]
  rw [show k - (k + m) = 0 by omega, show n - k - (k + m - k) = n - (k + m) by omega, List.replicate_zero, List.nil_append, List.replicate_append_replicate]

set_option maxRecDepth 100000 in
set_option maxHeartbeats 4000000 in
theorem repeat_any (n : Nat) (h1 : 1 ≤ n) (hn : n ≤ 12) (g : Nat) (w : World) (hg : Blk w g 4 #[.bool true]) :
    Calls Tryz.prog 66 #[.slice (some ⟨g, 0, none⟩) 1 1, .int .i64 n] w fun e w' => e = .returned (.slice (some ⟨w.heap.size, 0, none⟩) n n) ∧ Blk w' w.heap.size 4 (bools (List.replicate n true)) ∧ Below w.heap.size w w' := by
  have MC := Lib.hid (mul_any n hn)
  have hw1 : IntKind.u64.wrap (n : Int) = n := IntWalk.u64_in _ (by omega)
  have hw2 : IntKind.i64.wrap (n : Int) = n := IntWalk.i64_in _ (by omega)
  have hl : ((9223372036854775807 : Int) < (n : Int)) = False := by simp; omega
  have hl2 : decide ((9223372036854775807 : Int) < (n : Int)) = false := by simp; omega
  have hmb := make_bools n (by omega)
  have h0 : ¬ ((n : Int) < 0) := by omega
  obtain ⟨w2, hrun, hb2, hbl2⟩ := copy_bools (Blk.new w 4 (bools (List.replicate n false))) ⟨g, 0, none⟩ 1 1 n 1 (o := 0) (n := n) (by show 1 = min 1 n; omega)
    (fun j hj => by obtain rfl : j = 0 := by omega
                    exact (hg.alloc (.cells (bools (List.replicate n false)) 4)).cell 0) (by simp; omega)
  have hB2 := hbl2 w.heap.size w ((Below.refl _ _).alloc (Nat.le_refl _) _) (Nat.le_refl _)
  have e0 := rep_take (n := n) (k := 0) (m := 1) (by omega)
  simp only [List.replicate_zero, List.nil_append, Nat.sub_zero, Nat.zero_add] at e0
  rw [Nat.zero_add, e0] at hb2
  clear e0 hbl2 hg
  go_enter Tryz.func66, Tryz.ntmps66
  go_wp2_with fail
  refine (MC.out _).mono ?_
  rintro e w1 ⟨rfl, rfl⟩
  go_wp2_with fail
  go_loopw [8] (fun i wl => ∃ k : Nat, i = .int .i64 k ∧ 1 ≤ k ∧ k ≤ n ∧ Hid (Blk wl w1.heap.size 4 (bools (List.replicate k true ++ List.replicate (n - k) false))) ∧ Below w1.heap.size w1 wl) (fun i _ => n - (intOf i).toNat)
  case atStart => exact ⟨1, rfl, by omega, h1, hb2, hB2⟩
  case round =>
    obtain ⟨k, rfl, hk1, hkn, HB, hbel⟩ := hrel
    clear hrun
    by_cases hlt : k < n
    · have hi : (k : Int) < (n : Int) := by omega
      have hBd : Blk wr.drew w1.heap.size 4 (bools (List.replicate k true ++ List.replicate (n - k) false)) := HB.out
      obtain ⟨m, hm⟩ : ∃ m, m = Nat.min k (n - k) := ⟨_, rfl⟩
      have hmk : m ≤ k ∧ 1 ≤ m ∧ k + m ≤ n := by have : m = min k (n - k) := hm; omega
      obtain ⟨w3, hrun, hb3, hbl3⟩ := copy_bools hBd ⟨w1.heap.size, 0, none⟩ k n (n - k) m (o := k) (n := n - k) hm (fun j hj => by
          have := hBd.cell j
          have hadd : (⟨w1.heap.size, 0, none⟩ : Addr).add j = ⟨w1.heap.size, 0 + j, none⟩ := by unfold Addr.add; split <;> simp_all
          rw [hadd, Nat.zero_add]
          refine this.trans (bools_get ?_)
          rw [List.getElem?_append_left (by rw [List.length_replicate]; omega), List.getElem?_replicate, if_pos (by omega)]) (by simp; omega)
      have hB3 := hbl3 w1.heap.size w1 hbel.drew (Nat.le_refl _)
      rw [rep_take hmk.2.2] at hb3
      have HB3 := Lib.hid hb3
      have hw4 : IntKind.i64.wrap ((k : Int) + (m : Int)) = k + m := IntWalk.i64_in _ (by omega)
      clear hb3 hbl3 hBd hm
      go_wp2_with fail
      go_region_held3 (fun _ => True) (trivial) (fail)
      all_goals
        go_wp2
        go_roundw
        case rel => exact ⟨k + m, by go_num, by omega, by omega, HB3, hB3⟩
        case measure => simp [intOf]; omega
    · obtain rfl : k = n := by omega
      go_wp2
      go_ret
      exact ⟨rfl, by have := HB.out; simpa using this, hbel⟩
end Go.Proofs.YtplgbapbgcipdaaGreat

/-! A slice of ints of the call's own: its block, and a store into it. -/
namespace Go.Proofs.YtplgbapbgcipdaaGreat
open Go.RowKit

theorem OwnI.block {w : World} {base : Nat} {A : Option Addr} {c : Nat} {xs : List Int} (h : OwnI w base A c xs) (hn : 0 < xs.length) : ∃ g, A = some ⟨g, 0, none⟩ ∧ base ≤ g ∧ (∀ i, w.frozen? ⟨g, i, none⟩ = false) ∧ ∀ (k : Nat) (x : Int), xs[k]? = some x → w.cell? ⟨g, k, none⟩ = some (.int .i64 x) := by
  obtain ⟨h1, h2⟩ := h
  rcases h2 with ⟨h2, h3⟩ | ⟨g, cap, cur, hv, hg, hh, r1, r2, r3, r4⟩
  · simp at h2; omega
  · injection hv with hv1 hv2 hv3
    have hb : Blk w g 3 cur := hh
    refine ⟨g, hv1, hg, hb.frozen, fun k x hk => ?_⟩
    rw [hb.cell k]
    have hk' : k < xs.length := (List.getElem?_eq_some_iff.1 hk).1
    have e1 : (cur.toList.take (xs.length * 1))[k]? = some (.int .i64 x) := by rw [r4, ints_at hk]
    rw [Nat.mul_one, List.getElem?_take_of_lt hk', Array.getElem?_toList] at e1
    exact e1
theorem OwnI.set {w : World} {base : Nat} {A : Option Addr} {c g : Nat} {xs : List Int} (h : OwnI w base A c xs) (hA : A = some ⟨g, 0, none⟩) (k : Nat) (x : Int) : OwnI (w.setCell ⟨g, k, none⟩ (.int .i64 x)) base A c (xs.set k x) := by
  obtain ⟨h1, h2⟩ := h
  rcases h2 with ⟨h2, h3⟩ | ⟨g', cap, cur, hv, hg, hh, r1, r2, r3, r4⟩
  · simp at h2; rw [hA] at h2; simp at h2
  · have hv1 : A = some ⟨g', 0, none⟩ := by injection hv
    rw [hA] at hv1
    have hgg : g = g' := by injection hv1 with hv1; injection hv1
    subst hgg
    refine ⟨by rw [ints_length]; simp, .inr ⟨g, cap, cur.setIfInBounds k (.int .i64 x), by rw [List.length_set]; exact hv, hg, (Blk.set_ (show Blk w g 3 cur from hh) k _), by rw [List.length_set]; exact r1, r2, by simpa using r3, ?_⟩⟩
    rw [Array.toList_setIfInBounds, List.take_set, List.length_set, r4]
    simp [ints, List.map_set]
theorem OwnI.at_ {w : World} {base c g : Nat} {xs : List Int} (h : OwnI w base (some ⟨g, 0, none⟩) c xs) (hn : 0 < xs.length) : base ≤ g ∧ g < w.heap.size ∧ (∀ i, w.frozen? ⟨g, i, none⟩ = false) ∧ ∀ (k : Nat) (x : Int), xs[k]? = some x → w.cell? ⟨g, k, none⟩ = some (.int .i64 x) := by
  obtain ⟨g', e, h1, h2, h3⟩ := h.block hn
  injection e with e
  injection e with e
  subst e
  exact ⟨h1, (own_lt h ⟨_, rfl, rfl⟩).2, h2, h3⟩
theorem OwnI.put {w : World} {base c g : Nat} {xs : List Int} (h : OwnI w base (some ⟨g, 0, none⟩) c xs) (k : Nat) (x : Int) : OwnI (w.setCell ⟨g, k, none⟩ (.int .i64 x)) base (some ⟨g, 0, none⟩) c (xs.set k x) := h.set rfl k x
theorem OwnI.other {w : World} {base c g : Nat} {xs : List Int} (h : OwnI w base (some ⟨g, 0, none⟩) c xs) {p : Addr} (hp : p.block ≠ g) (u : Value) : OwnI (w.setCell p u) base (some ⟨g, 0, none⟩) c xs :=
  own_kept h fun k hk => by
    obtain ⟨a, ha, hk⟩ := hk
    injection ha with ha
    subst ha
    exact Below.heap_setCell w p u k (fun e => hp (by rw [← e, ← hk]))
theorem OwnI.kept {w w' : World} {base c g : Nat} {xs : List Int} (h : OwnI w base (some ⟨g, 0, none⟩) c xs) (hp : w'.heap[g]? = w.heap[g]?) : OwnI w' base (some ⟨g, 0, none⟩) c xs :=
  own_kept h fun k hk => by
    obtain ⟨a, ha, hk⟩ := hk
    injection ha with ha
    subst ha
    subst hk
    exact hp
end Go.Proofs.YtplgbapbgcipdaaGreat

