/-
  Texts of this claim, put together: REnumP, LEqual, IterL.
-/
import Derived.Test.YtplgbapbgcipdaaGreatK05
import Derived.Test.YtplgbapbgcipdaaGreatK04
import Derived.Deep.QuietTactic
import Derived.BigQuiet
import Derived.Test.YtplgbapbgcipdaaGreatK03
/-! Plain: lists below a list, in lexicographic order; those with a property that what is more has too. No program is in sight. -/
namespace Go.Proofs.YtplgbapbgcipdaaGreat

/-- The lists that are found from a list on: fuel f, so the place is n - f. -/
def enumR (rec : List Int → Bool) (top : List Int) (n : Nat) : Nat → List Int → List (List Int)
  | 0, c => if rec c then [c] else []
  | f + 1, c => if rec c then (List.range ((top.getD (n - (f + 1)) 0) + 1).toNat).flatMap fun k : Nat => enumR rec top n f (c.set (n - (f + 1)) (k : Int)) else []
/-- .. from the k-th number on. -/
def remR (rec : List Int → Bool) (top : List Int) (n f : Nat) (c : List Int) (k : Nat) : List (List Int) := ((List.range ((top.getD (n - (f + 1)) 0) + 1).toNat).drop k).flatMap fun k : Nat => enumR rec top n f (c.set (n - (f + 1)) (k : Int))
/-- All lists that go on like this. -/
def extL (top : List Int) (n : Nat) : Nat → List Int → List (List Int)
  | 0, c => [c]
  | f + 1, c => (List.range ((top.getD (n - (f + 1)) 0) + 1).toNat).flatMap fun k : Nat => extL top n f (c.set (n - (f + 1)) (k : Int))
/-- The lists of v numbers below. -/
def belL (top : List Int) : Nat → List (List Int)
  | 0 => [[]]
  | v + 1 => (belL top v).flatMap fun p => (List.range ((top.getD v 0) + 1).toNat).map fun k : Nat => p ++ [(k : Int)]
theorem flat_congr {α β : Type} {f g : α → List β} : ∀ {l : List α}, (∀ a ∈ l, f a = g a) → l.flatMap f = l.flatMap g
  | [], _ => rfl
  | a :: l, h => by rw [List.flatMap_cons, List.flatMap_cons, h a (by simp), flat_congr fun b hb => h b (by simp [hb])]
section
variable {rec : List Int → Bool} {top : List Int} {n f v k : Nat} {c : List Int}
theorem enumR_no (h : rec c = false) : enumR rec top n f c = [] := by
  cases f <;> simp [enumR, h]
theorem enumR_succ (h : rec c = true) : enumR rec top n (f + 1) c = remR rec top n f c 0 := by simp [enumR, remR, h]
theorem remR_step (hv : v + (f + 1) = n) (hk : (k : Int) ≤ top.getD v 0) : remR rec top n f c k = enumR rec top n f (c.set v (k : Int)) ++ remR rec top n f c (k + 1) := by
  unfold remR
  obtain rfl : n - (f + 1) = v := by omega
  rw [List.drop_eq_getElem_cons (by rw [List.length_range]; omega), List.flatMap_cons]
  simp
theorem remR_end (hv : v + (f + 1) = n) (hk : top.getD v 0 < (k : Int)) : remR rec top n f c k = [] := by
  unfold remR
  obtain rfl : n - (f + 1) = v := by omega
  rw [List.drop_eq_nil_of_le (by rw [List.length_range]; omega)]
  rfl
theorem extL_some (hv : v + (f + 1) = n) : extL top n (f + 1) c = (List.range ((top.getD v 0) + 1).toNat).flatMap fun k : Nat => extL top n f (c.set v (k : Int)) := by
  obtain rfl : n - (f + 1) = v := by omega
  rfl
theorem set_drop {p : List Int} (hv : v < top.length) (hp : p.length = v) (x : Int) : (p ++ top.drop v).set v x = (p ++ [x]) ++ top.drop (v + 1) := by
  rw [List.set_append_right _ _ (by omega), hp, Nat.sub_self, List.drop_eq_getElem_cons hv, List.set_cons_zero, List.append_assoc]
  rfl
theorem belL_length : ∀ v, ∀ p ∈ belL top v, p.length = v
  | 0, p, h => by simp [belL] at h; simp [h]
  | v + 1, p, h => by
    rw [belL, List.mem_flatMap] at h
    obtain ⟨x, hx, h⟩ := h
    rw [List.mem_map] at h
    obtain ⟨k, _, rfl⟩ := h
    simp [belL_length v x hx]
theorem ext_bel (hn : top.length = n) : ∀ f v, v + f = n → ((belL top v).flatMap fun p => extL top n f (p ++ top.drop v)) = belL top n
  | 0, v, h => by
    obtain rfl : v = n := by omega
    have h1 : ∀ p, p ++ top.drop v = p := fun p => by rw [List.drop_eq_nil_of_le (by omega), List.append_nil]
    simp only [h1, extL]
    simp
  | f + 1, v, h => by
    rw [← ext_bel hn f (v + 1) (by omega), belL, List.flatMap_assoc]
    apply flat_congr
    intro p hp
    rw [extL_some h, List.flatMap_map]
    apply flat_congr
    intro k hk
    rw [set_drop (by omega) (belL_length v p hp)]
theorem bel_ext (hn : top.length = n) : belL top n = extL top n n top := by
  have := ext_bel hn n 0 (by omega)
  simpa [belL] using this.symm
/-- What is found goes on like the list, and is less. -/
theorem ext_le : ∀ f, f ≤ n → ∀ c : List Int, c.length = n → (∀ i, n - f ≤ i → i < n → c.getD i 0 = top.getD i 0) → ∀ x ∈ extL top n f c, x.length = n ∧ ∀ i, i < n → x.getD i 0 ≤ c.getD i 0
  | 0, _, c, hc, _, x, hx => by
    simp [extL] at hx; subst hx; exact ⟨hc, fun i _ => Int.le_refl _⟩
  | f + 1, hf, c, hc, ht, x, hx => by
    rw [extL_some (v := n - (f + 1)) (by omega), List.mem_flatMap] at hx
    obtain ⟨k, hk, hx⟩ := hx
    have hk := List.mem_range.1 hk
    have hset : ∀ i, (c.set (n - (f + 1)) (k : Int)).getD i 0 = if i = n - (f + 1) then (k : Int) else c.getD i 0 := by
      intro i
      rw [List.getD_eq_getElem?_getD, List.getElem?_set]
      by_cases h : n - (f + 1) = i
      · rw [if_pos h, if_pos (by omega), if_pos h.symm]; rfl
      · rw [if_neg h, if_neg (fun e => h e.symm), ← List.getD_eq_getElem?_getD]
    obtain ⟨h1, h2⟩ := ext_le f (by omega) (c.set (n - (f + 1)) (k : Int)) (by simpa using hc) (fun i h1 h2 => by rw [hset, if_neg (by omega)]; exact ht i (by omega) h2) x hx
    refine ⟨h1, fun i hi => ?_⟩
    have h3 := h2 i hi
    rw [hset] at h3
    by_cases h : i = n - (f + 1)
    · rw [if_pos h] at h3
      have := ht i (by omega) hi
      rw [← h] at hk
      omega
    · rw [if_neg h] at h3; exact h3
/-- What is cut off has no element with the property. -/
theorem enum_filter (hm : ∀ x y : List Int, x.length = n → (∀ i, i < n → x.getD i 0 ≤ y.getD i 0) → (∀ i, i < n → y.getD i 0 ≤ top.getD i 0) → rec x = true → rec y = true) :
    ∀ f, f ≤ n → ∀ c : List Int, c.length = n → (∀ i, n - f ≤ i → i < n → c.getD i 0 = top.getD i 0) → (∀ i, i < n → c.getD i 0 ≤ top.getD i 0) → enumR rec top n f c = (extL top n f c).filter rec
  | 0, _, c, _, _, _ => by
    simp only [enumR, extL, List.filter_cons, List.filter_nil]
  | f + 1, hf, c, hc, ht, hl => by
    cases h : rec c
    · rw [enumR_no h]
      symm
      rw [List.filter_eq_nil_iff]
      intro x hx hr
      obtain ⟨h1, h2⟩ := ext_le (f + 1) hf c hc ht x hx
      rw [hm x c h1 h2 hl hr] at h
      cases h
    · rw [enumR, if_pos h, extL, List.filter_flatMap]
      apply flat_congr
      intro k hk
      have hk := List.mem_range.1 hk
      have hset : ∀ i, (c.set (n - (f + 1)) (k : Int)).getD i 0 = if i = n - (f + 1) then (k : Int) else c.getD i 0 := by
        intro i
        rw [List.getD_eq_getElem?_getD, List.getElem?_set]
        by_cases h : n - (f + 1) = i
        · rw [if_pos h, if_pos (by omega), if_pos h.symm]; rfl
        · rw [if_neg h, if_neg (fun e => h e.symm), ← List.getD_eq_getElem?_getD]
      refine enum_filter hm f (by omega) _ (by simpa using hc) (fun i h1 h2 => by rw [hset, if_neg (by omega)]; exact ht i (by omega) h2) (fun i hi => ?_)
      rw [hset]
      split
      · rename_i e; subst e; omega
      · exact hl i hi
theorem enum_bel (hm : ∀ x y : List Int, x.length = n → (∀ i, i < n → x.getD i 0 ≤ y.getD i 0) → (∀ i, i < n → y.getD i 0 ≤ top.getD i 0) → rec x = true → rec y = true) (hn : top.length = n) : enumR rec top n n top = (belL top n).filter rec := by
  rw [bel_ext hn]
  exact enum_filter hm n (Nat.le_refl _) top hn (fun _ _ _ => rfl) (fun _ _ => Int.le_refl _)
end
end Go.Proofs.YtplgbapbgcipdaaGreat

/-! slices.Equal on lists and on scripts. -/
namespace Go.Proofs.YtplgbapbgcipdaaGreat
open Go.RowKit

set_option maxHeartbeats 800000 in
theorem iequal_any (A : Option Addr) (c : Nat) (xs : List Int) (B : Option Addr) (d : Nat) (ys : List Int) (hn : xs.length ≤ 1048576) (w : World) (h : Reads w w.heap.size 1 A xs.length (ints xs)) (h' : Reads w w.heap.size 1 B ys.length (ints ys)) :
    Calls Tryz.prog 34 #[.slice A xs.length c, .slice B ys.length d] w fun e w' => e = .returned (.bool (decide (xs = ys))) ∧ Below w.heap.size w w' := by
  by_cases hl : xs.length = ys.length
  · have HL := Lib.hid hl
    have hb : ((xs.length : Int) != (ys.length : Int)) = false := by simp; omega
    clear hl
    go_enter Tryz.func34, Tryz.ntmps34
    go_wp2
    clear hb
    go_loopw [13] (fun i wr => ∃ k : Nat, k ≤ xs.length ∧ i = .int .i64 k ∧ Below w.heap.size w wr ∧ Hid (xs.take k = ys.take k)) (fun i _ => xs.length - (intOf i).toNat)
    case atStart => exact ⟨0, by omega, rfl, Below.refl _ _, by simp [Hid]⟩
    case round =>
      obtain ⟨k, hk, rfl, hbel, HS⟩ := hrel
      by_cases hlt : k < xs.length
      · obtain ⟨x, hx⟩ := get_of_lt hlt
        obtain ⟨y, hy⟩ := get_of_lt (xs := ys) (k := k) (by have := HL.out; omega)
        have HX := Lib.hid hx
        have HY := Lib.hid hy
        obtain ⟨b, off, rfl, hb, hcell⟩ := (h.below hbel).at_ (ints_at hx)
        obtain ⟨b', off', rfl, hb', hcell'⟩ := (h'.below hbel).at_ (ints_at hy)
        have hi : (k : Int) < (xs.length : Int) := by omega
        have hi' : (k : Int) < (ys.length : Int) := by have := HL.out; omega
        clear hx hy h h'
        by_cases hxy : x = y
        · subst hxy
          go_wp2
          go_quiet (fail)
          go_wp2
          go_roundw
          case rel => exact ⟨k + 1, by omega, by go_num, below_drewN hbel _, by rw [Hid, take_snoc HX.out, take_snoc HY.out, HS.out]⟩
          case measure => simp [intOf]; omega
        · have hbx : (x != y) = true := by simpa using hxy
          go_wp2
          go_quiet (fail)
          go_wp2
          go_ret
          refine ⟨ret_bool ?_, below_drewN hbel _⟩
          have : ¬ xs = ys := fun e => hxy (by have h1 := HX.out; rw [e, HY.out] at h1; injection h1 with h1; exact h1.symm)
          simp [this]
      · go_wp2
        go_ret
        refine ⟨ret_bool ?_, hbel⟩
        have e : xs = ys := by have h1 := HS.out; rw [show k = xs.length from by omega, List.take_length, HL.out, List.take_length] at h1; exact h1
        simp [e]
  · have hb : ((xs.length : Int) != (ys.length : Int)) = true := by simp; omega
    go_enter Tryz.func34, Tryz.ntmps34
    go_wp2
    go_ret
    have : ¬ xs = ys := fun e => hl (by rw [e])
    exact ⟨ret_bool (by simp [this]), Below.refl _ _⟩
set_option maxHeartbeats 800000 in
theorem sequal_any (A : Option Addr) (c : Nat) (xs : List Int) (B : Option Addr) (d : Nat) (ys : List Int) (hn : xs.length ≤ 1048576) (w : World) (h : Reads w w.heap.size 1 A xs.length (ints xs)) (h' : Reads w w.heap.size 1 B ys.length (ints ys)) :
    Calls Tryz.prog 35 #[.slice A xs.length c, .slice B ys.length d] w fun e w' => e = .returned (.bool (decide (xs = ys))) ∧ Below w.heap.size w w' := by
  by_cases hl : xs.length = ys.length
  · have HL := Lib.hid hl
    have hb : ((xs.length : Int) != (ys.length : Int)) = false := by simp; omega
    clear hl
    go_enter Tryz.func35, Tryz.ntmps35
    go_wp2
    clear hb
    go_loopw [13] (fun i wr => ∃ k : Nat, k ≤ xs.length ∧ i = .int .i64 k ∧ Below w.heap.size w wr ∧ Hid (xs.take k = ys.take k)) (fun i _ => xs.length - (intOf i).toNat)
    case atStart => exact ⟨0, by omega, rfl, Below.refl _ _, by simp [Hid]⟩
    case round =>
      obtain ⟨k, hk, rfl, hbel, HS⟩ := hrel
      by_cases hlt : k < xs.length
      · obtain ⟨x, hx⟩ := get_of_lt hlt
        obtain ⟨y, hy⟩ := get_of_lt (xs := ys) (k := k) (by have := HL.out; omega)
        have HX := Lib.hid hx
        have HY := Lib.hid hy
        obtain ⟨b, off, rfl, hb, hcell⟩ := (h.below hbel).at_ (ints_at hx)
        obtain ⟨b', off', rfl, hb', hcell'⟩ := (h'.below hbel).at_ (ints_at hy)
        have hi : (k : Int) < (xs.length : Int) := by omega
        have hi' : (k : Int) < (ys.length : Int) := by have := HL.out; omega
        clear hx hy h h'
        by_cases hxy : x = y
        · subst hxy
          go_wp2
          go_quiet (fail)
          go_wp2
          go_roundw
          case rel => exact ⟨k + 1, by omega, by go_num, below_drewN hbel _, by rw [Hid, take_snoc HX.out, take_snoc HY.out, HS.out]⟩
          case measure => simp [intOf]; omega
        · have hbx : (x != y) = true := by simpa using hxy
          go_wp2
          go_quiet (fail)
          go_wp2
          go_ret
          refine ⟨ret_bool ?_, below_drewN hbel _⟩
          have : ¬ xs = ys := fun e => hxy (by have h1 := HX.out; rw [e, HY.out] at h1; injection h1 with h1; exact h1.symm)
          simp [this]
      · go_wp2
        go_ret
        refine ⟨ret_bool ?_, hbel⟩
        have e : xs = ys := by have h1 := HS.out; rw [show k = xs.length from by omega, List.take_length, HL.out, List.take_length] at h1; exact h1
        simp [e]
  · have hb : ((xs.length : Int) != (ys.length : Int)) = true := by simp; omega
    go_enter Tryz.func35, Tryz.ntmps35
    go_wp2
    go_ret
    have : ¬ xs = ys := fun e => hl (by rw [e])
    exact ⟨ret_bool (by simp [this]), Below.refl _ _⟩
end Go.Proofs.YtplgbapbgcipdaaGreat

/-! A range over a function where the round also learns that its record is a record: for an iterator that yields a block of its own again and again. (Printed by gen/iterl.py out of XIter.) -/
namespace Go.Proofs.YtplgbapbgcipdaaGreat
open Go.RowKit Go.Shelf

/-- THE LAW: once for both kinds of loops. l: the record; S: the blocks that the entry has laid; W1: the world behind the entry. -/
theorem range_coreL {α : Type} {F : Fence} {n : Nat} {P : Program} (hF : ∀ f, F.fn f) (hd : F.depth = none) (hcall : ∀ f args w R, Calls P f args w R → CallsIn F (n - 1) P f args w R) (hrl : ∀ l m args W R, YieldAt F m P l args W R → YieldAt Fence.wide 0 P l args W R)
    {g : Operand} {ps : Array Tmp} {assign body : Code} {Q : Exit → Act → World → Prop} {a : Act} {w W1 : World} {l D : Nat} {S : Nat → Prop} {mark : List Deferred}
    (hent : ∀ fn, (Instr.enterLoop fn a.tmps ps assign body F.round).run P w = .ok (l, mark) (W1.putObj l (.loop (recOf fn a.tmps ps assign body D .ready none))))
    (hw1 : Below w.heap.size w W1) (hSl : S l) (hS : ∀ k, S k → w.heap.size ≤ k ∧ k < W1.heap.size)
    {gf : Nat} {lb : Array Value} (hg : a.eval g = .func (.func gf) #[] lb) (eg : ∀ args w, (callFunc gf args).run P w = .ok (.enter gf args) w)
    {Arg : α → Array Value → (Nat → Prop) → World → Prop} {K M : Nat → Prop} {xs : List α} (hit : Iter P gf lb Arg K M xs w)
    (hK : ∀ k, K k → k < w.heap.size)
    (C : Nat → Prop) (hC : ∀ k, C k → k < w.heap.size ∧ ¬ K k)
    (I : List α → (Nat → Prop) → World → Prop) (Ix : Code → List α → (Nat → Prop) → World → Prop)
    (hI : Bears w.heap.size M I) (hIx : ∀ c, Bears w.heap.size M (Ix c)) (h0 : I [] C w)
    (hps : ∀ x args O W, Arg x args O W → args.size = ps.size)
    (hround : ∀ (pre : List α) (x : α) (args : Array Value) (C O : Nat → Prop) (W : World), pre ++ [x] <+: xs → I pre C W → w.heap.size ≤ W.heap.size → (∀ k, C k → k < W.heap.size) → (∀ k, O k → ¬ C k ∧ k < W.heap.size ∧ w.heap.size ≤ k) → Arg x args O W → l < W.heap.size → ¬ C l → ¬ O l → (∃ r, W.heap[l]? = some (.loop r)) →
      ∀ T : Act → World → Prop, (∀ a₁ w₁, Only (fun k => C k ∨ O k) W w₁ → (∀ w₂, Only (fun k => k = l) w₁ w₂ → (∃ r, w₂.heap[l]? = some (.loop r) ∧ r.defers = D) → body.wpIn (F.inRound l) (n - 1 - 1) P (RoundEnd I Ix (pre ++ [x]) C O w₂) a₁ w₂) → T a₁ w₁) →
      assign.wpIn (F.inRound l) (n - 1 - 1) P (Exit.then T (fun _ _ _ => False)) { tmps := (ps.zip args).foldl (fun t (p, v) => t.setIfInBounds p v) a.tmps, defers := [] } W)
    (hdone : ∀ (C' : Nat → Prop) (W : World), I xs C' W → (∀ k, S k → ¬ C' k) → (∀ k, S k → k ≠ l → W.heap[k]? = W1.heap[k]?) → W1.heap.size ≤ W.heap.size → Q .normal { a with defers := mark ++ a.defers } W)
    (hstop : ∀ (c : Code) (pre : List α) (C' : Nat → Prop) (W : World), pre <+: xs → Ix c pre C' W → (∀ k, S k → ¬ C' k) → (∀ k, S k → k ≠ l → W.heap[k]? = W1.heap[k]?) → W1.heap.size ≤ W.heap.size → c.wpIn F n P Q { a with defers := mark ++ a.defers } W) :
    (Code.rangeFunc g ps assign body).wpIn F n P Q a w := by
  refine wpIn_rangeFunc ?_
  intro fn hfn
  obtain ⟨rec, hrec⟩ : ∃ rec : LoopState → Option Code → Loop, rec = recOf fn a.tmps ps assign body D := ⟨_, rfl⟩
  obtain ⟨W2, hW2⟩ : ∃ W2, W1.putObj l (.loop (rec .ready none)) = W2 := ⟨_, rfl⟩
  have hl1 : l < W1.heap.size := (hS l hSl).2
  have hwl : w.heap.size ≤ l := (hS l hSl).1
  have hL2 : W2.heap[l]? = some (.loop (rec .ready none)) := by rw [← hW2]; exact World.putObj_heap_same hl1
  have hs2 : W2.heap.size = W1.heap.size := by rw [← hW2]; simp
  have hS2 : ∀ k, S k → k ≠ l → W2.heap[k]? = W1.heap[k]? := fun k _ hk => by rw [← hW2]; exact World.putObj_heap_other hk
  have ho2 : Only (fun _ => False) w W2 := by rw [← hW2]; exact (Only.of_new hw1).putObj (.inr hwl) _
  have hI0 : I [] C W2 := hI _ _ _ _ h0 (Stays.of_only ho2 (fun _ _ h => h.elim))
  refine ⟨l, mark, W2, { target := .fn (.func gf) lb, args := #[.func (.yield l) #[] #[]] }, W2, gf, #[.func (.yield l) #[] #[]] ++ lb, W2, ?_, ?_, ?_, ?_, (fun h => by rw [hd] at h; cases h), ?_⟩
  · rw [hent fn, ← hW2, hrec]
  · simp only [resolve, hg]
    simp [go_sem]
  · intro f' _; exact hF f'
  · simp [invoke, go_sem, eg]
  · refine hcall _ _ _ _ ((hit l
      (fun pre C' W => ∃ C0, (∀ k, C' k ↔ (C0 k ∨ S k)) ∧ (∀ k, C0 k → k < W.heap.size) ∧ (∀ k, S k → ¬ C0 k) ∧ I pre C0 W ∧ W.heap[l]? = some (.loop (rec .ready none)) ∧ (∀ k, S k → k ≠ l → W.heap[k]? = W1.heap[k]?) ∧ W1.heap.size ≤ W.heap.size)
      (fun pre C' W => ∃ C0 c, (∀ k, C' k ↔ (C0 k ∨ S k)) ∧ (∀ k, C0 k → k < W.heap.size) ∧ (∀ k, S k → ¬ C0 k) ∧ Ix c pre C0 W ∧ W.heap[l]? = some (.loop (rec .done (some c))) ∧ (∀ k, S k → k ≠ l → W.heap[k]? = W1.heap[k]?) ∧ W1.heap.size ≤ W.heap.size)
      (fun k => C k ∨ S k) W2 (Later.of_only ho2 (fun _ _ h => h)) ?_ ?_ ?_ ?_ ?_).mono ?_)
    · rintro k (hk | hk)
      · have := hC k hk; have := hw1.size; exact ⟨by omega, (hC k hk).2⟩
      · have := hS k hk; exact ⟨by omega, fun h => by have := hK k h; omega⟩
    · rintro pre C' A B ⟨C0, hc, hlt, hn, hi, hl, hs, hsz⟩ hst
      have hcl : ∀ k, k < A.heap.size → C' k → B.heap[k]? = A.heap[k]? := fun k hk hck => hst.block k hk (.inl hck)
      refine ⟨C0, hc, fun k hk => Nat.lt_of_lt_of_le (hlt k hk) hst.size, hn, hI _ _ _ _ hi (hst.mono fun k _ hk => ?_), ?_, fun k hk hkl => ?_, Nat.le_trans hsz hst.size⟩
      · rcases hk with hk | ⟨h1, h2⟩
        · exact .inl ((hc k).2 (.inl hk))
        · exact .inr ⟨by have := hw1.size; omega, h2⟩
      · exact (hcl l (by omega) ((hc l).2 (.inr hSl))).trans hl
      · exact (hcl k (by have := (hS k hk).2; omega) ((hc k).2 (.inr hk))).trans (hs k hk hkl)
    · rintro pre C' A B ⟨C0, c, hc, hlt, hn, hi, hl, hs, hsz⟩ hst
      have hcl : ∀ k, k < A.heap.size → C' k → B.heap[k]? = A.heap[k]? := fun k hk hck => hst.block k hk (.inl hck)
      refine ⟨C0, c, hc, fun k hk => Nat.lt_of_lt_of_le (hlt k hk) hst.size, hn, hIx c _ _ _ _ hi (hst.mono fun k _ hk => ?_), ?_, fun k hk hkl => ?_, Nat.le_trans hsz hst.size⟩
      · rcases hk with hk | ⟨h1, h2⟩
        · exact .inl ((hc k).2 (.inl hk))
        · exact .inr ⟨by have := hw1.size; omega, h2⟩
      · exact (hcl l (by omega) ((hc l).2 (.inr hSl))).trans hl
      · exact (hcl k (by have := (hS k hk).2; omega) ((hc k).2 (.inr hk))).trans (hs k hk hkl)
    · -- one round
      rintro pre x C' W args O hpre ⟨C0, hc, hlt, hn, hi, hl, hs, hsz⟩ hWW hC' hO harg
      have hlW : l < W.heap.size := by omega
      have hy := run_yield (P := P) (args := args) hl (by rw [hrec]; exact hps x args O W harg)
      refine hrl l (n - 1 - 1) args W _ ⟨fn, _, assign, body, by rw [hrec] at hy; exact hy, roundIn_of_wpIn hfn ?_⟩
      have hOl : ¬ O l := fun h => (hO l h).1 ((hc l).2 (.inr hSl))
      refine hround pre x args C0 O W hpre hi (by have := hw1.size; omega) hlt (fun k hk => ⟨fun h => (hO k hk).1 ((hc k).2 (.inl h)), (hO k hk).2.1, by have := (hO k hk).2.2; have := hw1.size; omega⟩) harg hlW (hn l hSl) hOl ⟨_, hl⟩ _ ?_
      intro a₁ w₁ ho1 hbody
      have hl1' : w₁.heap[l]? = some (.loop (rec .ready none)) := (ho1.block l hlW (fun h => h.elim (hn l hSl) hOl)).trans hl
      have hb := run_beginRound (P := P) hl1' (by rw [hrec]; rfl)
      refine ⟨_, hb, ?_⟩
      obtain ⟨w₂, hw₂⟩ : ∃ w₂, w₁.putObj l (.loop { rec .ready none with state := .busy }) = w₂ := ⟨_, rfl⟩
      rw [hw₂]
      have hlw1 : l < w₁.heap.size := Nat.lt_of_lt_of_le hlW ho1.size
      have hl2 : w₂.heap[l]? = some (.loop { rec .ready none with state := .busy }) := by rw [← hw₂]; exact World.putObj_heap_same hlw1
      have ho12 : Only (fun k => k = l) w₁ w₂ := by rw [← hw₂]; exact Only.put_one _ _ _
      have hsw : w₂.heap.size = w₁.heap.size := by rw [← hw₂]; simp
      have hrd : (rec .ready none).defers = D := by rw [hrec]; rfl
      refine wpIn_mono (hbody w₂ ho12 ⟨_, hl2, hrd⟩) ?_
      have fin : ∀ (jump : Option Code) (W3 : World) (C3 : Nat → Prop), Only (fun k => C0 k ∨ O k) w₂ W3 → Grows C0 O C3 w₂ W3 →
          (Instr.endRound l jump).run P W3 = .ok (.bool jump.isNone) (W3.putObj l (.loop (rec (if jump.isNone then .ready else .done) jump))) ∧
          Only (fun k => C' k ∨ O k) W (W3.putObj l (.loop (rec (if jump.isNone then .ready else .done) jump))) ∧
          Grows C' O (fun k => C3 k ∨ S k) W (W3.putObj l (.loop (rec (if jump.isNone then .ready else .done) jump))) ∧
          (∀ k, S k → ¬ C3 k) ∧ (∀ k, C3 k → k < W3.heap.size) ∧
          (W3.putObj l (.loop (rec (if jump.isNone then .ready else .done) jump))).heap[l]? = some (.loop (rec (if jump.isNone then .ready else .done) jump)) ∧
          (∀ k, S k → k ≠ l → (W3.putObj l (.loop (rec (if jump.isNone then .ready else .done) jump))).heap[k]? = W1.heap[k]?) ∧
          Stays w.heap.size M C3 W3 (W3.putObj l (.loop (rec (if jump.isNone then .ready else .done) jump))) := fun jump W3 C3 ho3 hg3 => by
        have hSO : ∀ k, S k → ¬ O k := fun k hk h => (hO k h).1 ((hc k).2 (.inr hk))
        have hl3 : W3.heap[l]? = some (.loop { rec .ready none with state := .busy }) := (ho3.block l (by omega) (fun h => h.elim (hn l hSl) hOl)).trans hl2
        have hr3 := run_endRound (P := P) jump hl3
        have hsz3 := ho3.size
        have hsz1 := ho1.size
        have hoW3 : Only (fun k => C' k ∨ O k) W W3 := by
          have h1 : Only (fun k => C' k ∨ O k) W w₁ := ho1.mono fun k _ h => h.imp (fun h => (hc k).2 (.inl h)) id
          have h2 : Only (fun k => C' k ∨ O k) w₁ w₂ := ho12.mono fun k _ h => by subst h; exact .inl ((hc _).2 (.inr hSl))
          have h3 : Only (fun k => C' k ∨ O k) w₂ W3 := ho3.mono fun k _ h => h.imp (fun h => (hc k).2 (.inl h)) id
          exact (h1.trans h2).trans h3
        have hnS : ∀ k, S k → ¬ C3 k := fun k hk h => by
          rcases hg3 k h with h | h | h
          · exact hn k hk h
          · exact hSO k hk h
          · have := (hS k hk).2; omega
        refine ⟨?_, hoW3.putObj (.inl (.inl ((hc l).2 (.inr hSl)))) _, ?_, hnS, ?_, World.putObj_heap_same (by omega), ?_, ?_⟩
        · rw [hr3, hrec]; rfl
        · rintro k (hk | hk)
          · rcases hg3 k hk with h | h | h
            · exact .inl ((hc k).2 (.inl h))
            · exact .inr (.inl h)
            · exact .inr (.inr ⟨by omega, by simp; omega⟩)
          · exact .inl ((hc k).2 (.inr hk))
        · intro k hk
          rcases hg3 k hk with h | h | h
          · have := hlt k h; omega
          · have := (hO k h).2.1; omega
          · omega
        · intro k hk hkl
          refine (World.putObj_heap_other hkl).trans ((ho3.block k (by have := (hS k hk).2; omega) (fun h => h.elim (hn k hk) (hSO k hk))).trans ((ho12.block k (by have := (hS k hk).2; omega) hkl).trans
            ((ho1.block k (by have := (hS k hk).2; omega) (fun h => h.elim (hn k hk) (hSO k hk))).trans (hs k hk hkl))))
        · exact Stays.of_only (D := fun k => k = l) (Only.put_one _ _ _) fun k _ hk => by subst hk; exact ⟨hnS _ hSl, .inl hwl⟩
      rintro e a3 W3 hp
      have hw1s := hw1.size
      cases e with
      | normal =>
        obtain ⟨C3, ho3, hg3, hi3⟩ := hp
        obtain ⟨r1, r2, r3, r4, r5, r6, r7, r8⟩ := fin none W3 C3 ho3 hg3
        exact ⟨_, _, r1, _, true, r2, r3, rfl, fun _ => ⟨C3, fun _ => Iff.rfl, fun k hk => by simpa using r5 k hk, r4, hI _ _ _ _ hi3 r8, r6, r7, by simp; have := ho3.size; have := ho1.size; omega⟩, fun h => by cases h⟩
      | ret =>
        obtain ⟨C3, ho3, hg3, hi3⟩ := hp
        obtain ⟨r1, r2, r3, r4, r5, r6, r7, r8⟩ := fin (some .ret) W3 C3 ho3 hg3
        exact ⟨_, _, r1, _, false, r2, r3, rfl, (fun h => by cases h), fun _ => ⟨C3, .ret, fun _ => Iff.rfl, fun k hk => by simpa using r5 k hk, r4, hIx _ _ _ _ _ hi3 r8, r6, r7, by simp; have := ho3.size; have := ho1.size; omega⟩⟩
      | exit id =>
        obtain ⟨C3, ho3, hg3, hi3⟩ := hp
        obtain ⟨r1, r2, r3, r4, r5, r6, r7, r8⟩ := fin (some (.exit id)) W3 C3 ho3 hg3
        exact ⟨_, _, r1, _, false, r2, r3, rfl, (fun h => by cases h), fun _ => ⟨C3, .exit id, fun _ => Iff.rfl, fun k hk => by simpa using r5 k hk, r4, hIx _ _ _ _ _ hi3 r8, r6, r7, by simp; have := ho3.size; have := ho1.size; omega⟩⟩
      | goto t =>
        obtain ⟨C3, ho3, hg3, hi3⟩ := hp
        obtain ⟨r1, r2, r3, r4, r5, r6, r7, r8⟩ := fin (some (.goto t)) W3 C3 ho3 hg3
        exact ⟨_, _, r1, _, false, r2, r3, rfl, (fun h => by cases h), fun _ => ⟨C3, .goto t, fun _ => Iff.rfl, fun k hk => by simpa using r5 k hk, r4, hIx _ _ _ _ _ hi3 r8, r6, r7, by simp; have := ho3.size; have := ho1.size; omega⟩⟩
      | panic ch => exact hp.elim
      | outgrown => exact hp.elim
    · refine ⟨C, fun _ => Iff.rfl, fun k hk => by have := (hC k hk).1; have := hw1.size; omega, fun k hk h => by have := (hC k h).1; have := (hS k hk).1; omega, hI0, hL2, hS2, by omega⟩
    · -- behind the iterator
      rintro e W3 ⟨⟨v, rfl⟩, C', (⟨C0, hc, hlt, hn, hi, hl, hs, hsz⟩ | ⟨pre, hpre, C0, c, hc, hlt, hn, hi, hl, hs, hsz⟩)⟩
      · have hst : Stays w.heap.size M C0 W3 (W3.putObj l (.loop (rec .exhausted none))) := Stays.of_only (D := fun k => k = l) (Only.put_one _ _ _) fun k _ hk => by subst hk; exact ⟨hn _ hSl, .inl hwl⟩
        refine ⟨none, _, by have := run_endLoop (P := P) hl (by rw [hrec]; simp [recOf]); rw [hrec] at this; exact this, ?_⟩
        rw [hrec] at hst
        exact hdone C0 _ (hI _ _ _ _ hi hst) hn (fun k hk hkl => (World.putObj_heap_other hkl).trans (hs k hk hkl)) (by simpa using hsz)
      · have hst : Stays w.heap.size M C0 W3 (W3.putObj l (.loop (rec .exhausted (some c)))) := Stays.of_only (D := fun k => k = l) (Only.put_one _ _ _) fun k _ hk => by subst hk; exact ⟨hn _ hSl, .inl hwl⟩
        refine ⟨some c, _, by have := run_endLoop (P := P) hl (by rw [hrec]; simp [recOf]); rw [hrec] at this; exact this, ?_⟩
        rw [hrec] at hst
        exact hstop c pre C0 _ hpre (hIx c _ _ _ _ hi hst) hn (fun k hk hkl => (World.putObj_heap_other hkl).trans (hs k hk hkl)) (by simpa using hsz)

/-- A range over a function in a function's own frame. -/
theorem range_outerL {α : Type} {n : Nat} {P : Program} {g : Operand} {ps : Array Tmp} {assign body : Code} {Q : Exit → Act → World → Prop} {a : Act} {w : World}
    {gf : Nat} {lb : Array Value} (hg : a.eval g = .func (.func gf) #[] lb) (eg : ∀ args w, (callFunc gf args).run P w = .ok (.enter gf args) w)
    {Arg : α → Array Value → (Nat → Prop) → World → Prop} {K M : Nat → Prop} {xs : List α} (hit : Iter P gf lb Arg K M xs w)
    (hK : ∀ k, K k → k < w.heap.size)
    (C : Nat → Prop) (hC : ∀ k, C k → k < w.heap.size ∧ ¬ K k)
    (I : List α → (Nat → Prop) → World → Prop) (Ix : Code → List α → (Nat → Prop) → World → Prop)
    (hI : Bears w.heap.size M I) (hIx : ∀ c, Bears w.heap.size M (Ix c)) (h0 : I [] C w)
    (hps : ∀ x args O W, Arg x args O W → args.size = ps.size)
    (hround : ∀ (l : Nat) (pre : List α) (x : α) (args : Array Value) (C O : Nat → Prop) (W : World), pre ++ [x] <+: xs → I pre C W → w.heap.size < l → (∀ k, C k → k < W.heap.size) → (∀ k, O k → ¬ C k ∧ k < W.heap.size ∧ w.heap.size ≤ k) → Arg x args O W → l < W.heap.size → ¬ C l → ¬ O l → (∃ r, W.heap[l]? = some (.loop r)) →
      ∀ T : Act → World → Prop, (∀ a₁ w₁, Only (fun k => C k ∨ O k) W w₁ → (∀ w₂, Only (fun k => k = l) w₁ w₂ → (∃ r, w₂.heap[l]? = some (.loop r)) → body.wpIn (Fence.wide.inRound l) (n - 1 - 1) P (RoundEnd I Ix (pre ++ [x]) C O w₂) a₁ w₂) → T a₁ w₁) →
      assign.wpIn (Fence.wide.inRound l) (n - 1 - 1) P (Exit.then T (fun _ _ _ => False)) { tmps := (ps.zip args).foldl (fun t (p, v) => t.setIfInBounds p v) a.tmps, defers := [] } W)
    (hdone : ∀ (C' : Nat → Prop) (W : World), I xs C' W → ¬ C' w.heap.size → W.heap[w.heap.size]? = some (.deferred (some [])) → Q .normal { a with defers := { target := .collected w.heap.size, args := #[] } :: a.defers } W)
    (hstop : ∀ (c : Code) (pre : List α) (C' : Nat → Prop) (W : World), pre <+: xs → Ix c pre C' W → ¬ C' w.heap.size → W.heap[w.heap.size]? = some (.deferred (some [])) →
      c.wpIn Fence.wide n P Q { a with defers := { target := .collected w.heap.size, args := #[] } :: a.defers } W) :
    (Code.rangeFunc g ps assign body).wpIn Fence.wide n P Q a w := by
  have hD : ((w.alloc (.deferred (some []))).alloc (.loop (recOf 0 #[] #[] .skip .skip w.heap.size .ready none))).heap[w.heap.size]? = some (.deferred (some [])) :=
    (Below.heap_alloc _ _ _ (by simp)).trans (World.alloc_heap_new w _)
  refine range_coreL (F := Fence.wide) (W1 := (w.alloc (.deferred (some []))).alloc (.loop (recOf 0 #[] #[] .skip .skip w.heap.size .ready none))) (l := w.heap.size + 1) (D := w.heap.size) (S := fun k => k = w.heap.size ∨ k = w.heap.size + 1)
    (mark := [{ target := .collected w.heap.size, args := #[] }]) (fun _ => trivial) rfl (fun _ _ _ _ h => callsIn_wide.2 h) (fun _ _ _ _ _ h => yieldAt_wide h) ?_ ?_ (.inr rfl) ?_ hg eg hit hK C hC I Ix hI hIx h0 hps ?_ ?_ ?_
  · intro fn
    have e : w.heap.size + 1 = (w.alloc (.deferred (some []))).heap.size := by simp
    rw [show Fence.wide.round = none from rfl, run_enterLoop_outer]
    congr 1
    rw [e, putObj_alloc]
    rfl
  · exact ((Below.refl _ _).alloc (Nat.le_refl _) _).alloc (by simp) _
  · intro k hk
    have e : ((w.alloc (.deferred (some []))).alloc (.loop (recOf 0 #[] #[] .skip .skip w.heap.size .ready none))).heap.size = w.heap.size + 1 + 1 := by simp
    rw [e]
    rcases hk with rfl | rfl <;> omega
  · intro pre x args C O W h1 h2 h3 h4 h5 h6 h7 h8 h9 hr T hT
    exact hround (w.heap.size + 1) pre x args C O W h1 h2 (by omega) h4 h5 h6 h7 h8 h9 hr T fun a₁ w₁ ho hb => hT a₁ w₁ ho fun w₂ h2 hr => hb w₂ h2 (hr.imp fun _ h => h.1)
  · intro C' W hi hs hk _
    exact hdone C' W hi (hs _ (.inl rfl)) ((hk _ (.inl rfl) (by omega)).trans hD)
  · intro c pre C' W hp hi hs hk _
    exact hstop c pre C' W hp hi (hs _ (.inl rfl)) ((hk _ (.inl rfl) (by omega)).trans hD)

end Go.Proofs.YtplgbapbgcipdaaGreat

