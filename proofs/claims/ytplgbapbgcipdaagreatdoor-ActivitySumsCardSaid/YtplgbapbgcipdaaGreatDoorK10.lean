/-
  Texts of this claim, put together: FireT, LEqual, RLess, RBefore, Edge, IterX, Lit.
-/
import Derived.Test.YtplgbapbgcipdaaGreatDoorK07
import Derived.Test.YtplgbapbgcipdaaGreatDoorK04
import Derived.Deep.QuietTactic
import Derived.BigQuiet
import Derived.Test.YtplgbapbgcipdaaGreatDoorK03
import Derived.Test.YtplgbapbgcipdaaGreatDoorK08
import Derived.Test.YtplgbapbgcipdaaGreatDoorK05
/-! Burning single edges in order: what has burnt, step by step, as the reference says it; the program's waiting list comes to the same. No program is in sight. -/
namespace Go.Proofs.YtplgbapbgcipdaaGreatDoor

/-- What has burnt. -/
structure FireS where
  steps : List Nat
  order : List Nat
  tree : List Nat
  times : List Int
/-- A single edge with just one end burnt, that has not burnt itself. -/
def candB (E : List (Nat × Nat)) (s : FireS) (e : Nat) : Bool := !decide (e ∈ s.steps) && !(decide ((E.getD e (0, 0)).1 ∈ s.order) == decide ((E.getD e (0, 0)).2 ∈ s.order))
def nextF (E : List (Nat × Nat)) (s : FireS) : Option Nat := (List.range E.length).find? (candB E s)
/-- The end that is not burnt. -/
def leadV (E : List (Nat × Nat)) (s : FireS) (e : Nat) : Nat := if (E.getD e (0, 0)).1 ∈ s.order then (E.getD e (0, 0)).2 else (E.getD e (0, 0)).1
def burnOne (lit : Nat → Nat → Int → Bool) (s : FireS) (e v : Nat) : FireS :=
  if lit v e (s.times.getD v 0) = true then { steps := s.steps ++ [e], order := s.order ++ [v], tree := s.tree ++ [e], times := s.times }
  else { steps := s.steps ++ [e], order := s.order, tree := s.tree, times := s.times.set v (s.times.getD v 0 + 1) }
def stepF (E : List (Nat × Nat)) (lit : Nat → Nat → Int → Bool) (s : FireS) : FireS :=
  match nextF E s with
  | none => s
  | some e => burnOne lit s e (leadV E s e)
def runF (E : List (Nat × Nat)) (lit : Nat → Nat → Int → Bool) : Nat → FireS → FireS
  | 0, s => s
  | k + 1, s => runF E lit k (stepF E lit s)
section
variable {E : List (Nat × Nat)} {lit : Nat → Nat → Int → Bool} {s : FireS} {e v : Nat}
theorem runF_succ : ∀ (k : Nat) (s : FireS), runF E lit (k + 1) s = stepF E lit (runF E lit k s)
  | 0, s => rfl
  | k + 1, s => by rw [runF, runF_succ k, runF]
theorem cand_iff : candB E s e = true ↔ e ∉ s.steps ∧ ¬ ((E.getD e (0, 0)).1 ∈ s.order ↔ (E.getD e (0, 0)).2 ∈ s.order) := by
  unfold candB
  rw [Bool.and_eq_true, Bool.not_eq_true', decide_eq_false_iff_not, Bool.not_eq_true', beq_eq_false_iff_ne]
  refine and_congr Iff.rfl ⟨fun h hc => h ?_, fun h hc => h ?_⟩
  · rw [Bool.eq_iff_iff, decide_eq_true_eq, decide_eq_true_eq]; exact hc
  · rw [Bool.eq_iff_iff, decide_eq_true_eq, decide_eq_true_eq] at hc; exact hc
theorem lead_new (h : candB E s e = true) : leadV E s e ∉ s.order := by
  obtain ⟨_, h2⟩ := cand_iff.1 h
  unfold leadV
  by_cases h3 : (E.getD e (0, 0)).1 ∈ s.order
  · rw [if_pos h3]; exact fun h4 => h2 ⟨fun _ => h4, fun _ => h3⟩
  · rw [if_neg h3]; exact h3
theorem next_some (h : nextF E s = some e) : e < E.length ∧ candB E s e = true ∧ ∀ f, f < e → candB E s f = false := by
  unfold nextF at h
  have h1 := List.find?_some h
  have h2 := List.mem_of_find?_eq_some h
  refine ⟨List.mem_range.1 h2, h1, fun f hf => ?_⟩
  obtain ⟨_, l1, l2, h3, h4⟩ := List.find?_eq_some_iff_append.1 h
  have hfm : f ∈ l1 := by
    have hlen : l1.length = e := by
      have := congrArg (fun l => l[l1.length]?) h3
      simp only [List.getElem?_append_right (Nat.le_refl _), Nat.sub_self] at this
      rw [List.getElem?_cons_zero] at this
      have hlt : l1.length < E.length := by
        have := congrArg List.length h3
        simp at this; omega
      rw [List.getElem?_range hlt] at this
      injection this
    have h5 : (List.range E.length)[f]? = some f := by rw [List.getElem?_range]; have := List.mem_range.1 h2; omega
    rw [h3, List.getElem?_append_left (by omega)] at h5
    exact List.mem_of_getElem? h5
  have := h4 f hfm
  simpa using this
theorem next_none (h : nextF E s = none) : ∀ e, e < E.length → candB E s e = false := by
  intro e he
  unfold nextF at h
  rw [List.find?_eq_none] at h
  have := h e (List.mem_range.2 he)
  simpa using this
theorem next_least (he : e < E.length) (hc : candB E s e = true) (hm : ∀ f, f < e → candB E s f = false) : nextF E s = some e := by
  rcases hn : nextF E s with _ | f
  · rw [next_none hn e he] at hc; cases hc
  · obtain ⟨h1, h2, h3⟩ := next_some hn
    rcases Nat.lt_trichotomy e f with h | h | h
    · rw [h3 e h] at hc; cases hc
    · rw [h]
    · rw [hm f h] at h2; cases h2
/-- What holds of all that has burnt so far. -/
structure FireOk (E : List (Nat × Nat)) (s : FireS) : Prop where
  nodup : s.steps.Nodup
  lt : ∀ e ∈ s.steps, e < E.length
  ends : ∀ e ∈ s.steps, (E.getD e (0, 0)).1 ∈ s.order ∨ (E.getD e (0, 0)).2 ∈ s.order
theorem cand_end (h : candB E s e = true) : (E.getD e (0, 0)).1 ∈ s.order ∨ (E.getD e (0, 0)).2 ∈ s.order := by
  obtain ⟨_, h2⟩ := cand_iff.1 h
  by_cases h3 : (E.getD e (0, 0)).1 ∈ s.order
  · exact .inl h3
  · by_cases h4 : (E.getD e (0, 0)).2 ∈ s.order
    · exact .inr h4
    · exact absurd ⟨fun h => absurd h h3, fun h => absurd h h4⟩ h2
theorem FireOk.one (h : FireOk E s) (he : e < E.length) (hc : candB E s e = true) : FireOk E (burnOne lit s e v) := by
  have hn := (cand_iff.1 hc).1
  have hnd : (s.steps ++ [e]).Nodup := by
    rw [List.nodup_append]
    exact ⟨h.nodup, by simp, fun a ha b hb => by rw [List.mem_singleton] at hb; subst hb; exact fun h => hn (h ▸ ha)⟩
  have hlt : ∀ f ∈ s.steps ++ [e], f < E.length := fun f hf => by
    rcases List.mem_append.1 hf with hf | hf
    · exact h.lt f hf
    · rw [List.mem_singleton] at hf; exact hf ▸ he
  have hen : ∀ f ∈ s.steps ++ [e], (E.getD f (0, 0)).1 ∈ s.order ∨ (E.getD f (0, 0)).2 ∈ s.order := fun f hf => by
    rcases List.mem_append.1 hf with hf | hf
    · exact h.ends f hf
    · rw [List.mem_singleton] at hf; rw [hf]; exact cand_end hc
  unfold burnOne
  split
  · exact ⟨hnd, hlt, fun f hf => (hen f hf).imp (fun h => List.mem_append_left _ h) (fun h => List.mem_append_left _ h)⟩
  · exact ⟨hnd, hlt, hen⟩
/-- The waiting list of the program beside what has burnt. -/
structure Wait (E : List (Nat × Nat)) (s : FireS) (H : List Nat) : Prop where
  ok : FireOk E s
  nodup : H.Nodup
  lt : ∀ e ∈ H, e < E.length
  new : ∀ e ∈ H, e ∉ s.steps
  ends : ∀ e ∈ H, (E.getD e (0, 0)).1 ∈ s.order ∨ (E.getD e (0, 0)).2 ∈ s.order
  all : ∀ e, e < E.length → candB E s e = true → e ∈ H
/-- The least one that waits: burnt on both ends, or it is next. -/
theorem Wait.least {H : List Nat} (h : Wait E s H) (he : e ∈ H) (hm : ∀ f ∈ H, e ≤ f) :
    ((E.getD e (0, 0)).1 ∈ s.order ∧ (E.getD e (0, 0)).2 ∈ s.order ∧ candB E s e = false) ∨ (nextF E s = some e) := by
  by_cases hc : candB E s e = true
  · refine .inr (next_least (h.lt e he) hc fun f hf => ?_)
    cases hcf : candB E s f
    · rfl
    · have := hm f (h.all f (Nat.lt_trans hf (h.lt e he)) hcf)
      omega
  · have hc' : candB E s e = false := by simpa using hc
    have h2 : (E.getD e (0, 0)).1 ∈ s.order ↔ (E.getD e (0, 0)).2 ∈ s.order := Classical.byContradiction fun hx => hc (cand_iff.2 ⟨h.new e he, hx⟩)
    rcases h.ends e he with h3 | h3
    · exact .inl ⟨h3, h2.1 h3, hc'⟩
    · exact .inl ⟨h2.2 h3, h3, hc'⟩
/-- A step that lights nothing. -/
theorem Wait.dark {H H' : List Nat} (h : Wait E s H) (hp : (e :: H').Perm H) (hc : candB E s e = true) (hl : lit v e (s.times.getD v 0) = false) : Wait E (burnOne lit s e v) H' := by
  have hn := hp.nodup_iff.2 h.nodup
  rw [List.nodup_cons] at hn
  have hel := h.lt e (hp.mem_iff.1 (by simp))
  have hb : burnOne lit s e v = { steps := s.steps ++ [e], order := s.order, tree := s.tree, times := s.times.set v (s.times.getD v 0 + 1) } := by unfold burnOne; rw [hl, if_neg (by decide)]
  have hok := h.ok.one (lit := lit) (v := v) hel hc
  rw [hb] at hok ⊢
  refine ⟨hok, hn.2, fun f hf => h.lt f (hp.mem_iff.1 (by simp [hf])), fun f hf => ?_, fun f hf => h.ends f (hp.mem_iff.1 (by simp [hf])), fun f hf hcf => ?_⟩
  · intro h1
    rcases List.mem_append.1 h1 with h1 | h1
    · exact h.new f (hp.mem_iff.1 (by simp [hf])) h1
    · rw [List.mem_singleton] at h1; subst h1; exact hn.1 hf
  · obtain ⟨c1, c2⟩ := cand_iff.1 hcf
    have hcf' : candB E s f = true := cand_iff.2 ⟨fun h => c1 (List.mem_append_left _ h), c2⟩
    rcases List.mem_cons.1 (hp.mem_iff.2 (h.all f hf hcf')) with rfl | h1
    · exact absurd (by simp) c1
    · exact h1
/-- The single edges from a vertex to vertices that are not burnt. -/
def newL (E : List (Nat × Nat)) (order : List Nat) (v : Nat) (k : Nat) : List Nat := (List.range k).filter fun e => decide ((E.getD e (0, 0)).1 ≠ (E.getD e (0, 0)).2) && (decide ((E.getD e (0, 0)).1 = v) || decide ((E.getD e (0, 0)).2 = v)) && !decide ((E.getD e (0, 0)).1 + (E.getD e (0, 0)).2 - v ∈ order)
theorem mem_new {order : List Nat} {k : Nat} : e ∈ newL E order v k ↔ e < k ∧ (E.getD e (0, 0)).1 ≠ (E.getD e (0, 0)).2 ∧ ((E.getD e (0, 0)).1 = v ∨ (E.getD e (0, 0)).2 = v) ∧ (E.getD e (0, 0)).1 + (E.getD e (0, 0)).2 - v ∉ order := by
  unfold newL
  rw [List.mem_filter, List.mem_range, Bool.and_eq_true, Bool.and_eq_true, Bool.or_eq_true, decide_eq_true_eq, decide_eq_true_eq, decide_eq_true_eq, Bool.not_eq_true', decide_eq_false_iff_not]
  constructor
  · rintro ⟨h1, ⟨h2, h3⟩, h4⟩; exact ⟨h1, h2, h3, h4⟩
  · rintro ⟨h1, h2, h3, h4⟩; exact ⟨h1, ⟨h2, h3⟩, h4⟩
/-- Taking a vertex that is not burnt: what waits behind it. -/
theorem Wait.take {s2 : FireS} {H H' : List Nat} (hs : s2.steps = s.steps) (ho : s2.order = s.order ++ [v]) (hok : FireOk E s2) (hv : v ∉ s.order) (hn : H.Nodup) (hlt : ∀ e ∈ H, e < E.length) (hnew : ∀ e ∈ H, e ∉ s.steps) (hends : ∀ e ∈ H, (E.getD e (0, 0)).1 ∈ s.order ∨ (E.getD e (0, 0)).2 ∈ s.order)
    (hall : ∀ e, e < E.length → candB E s e = true → e ∈ H) (hso : ∀ e ∈ s.steps, (E.getD e (0, 0)).1 ∈ s.order ∨ (E.getD e (0, 0)).2 ∈ s.order)
    (hp : H'.Perm (H ++ newL E (s.order ++ [v]) v E.length)) : Wait E s2 H' := by
  have hout : ∀ e, e ∈ newL E (s.order ++ [v]) v E.length → ¬ ((E.getD e (0, 0)).1 ∈ s.order ∨ (E.getD e (0, 0)).2 ∈ s.order) := by
    intro e he
    obtain ⟨_, h2, h3, h4⟩ := mem_new.1 he
    rw [List.mem_append, List.mem_singleton] at h4
    rintro (h5 | h5)
    · rcases h3 with h3 | h3
      · exact hv (h3 ▸ h5)
      · refine h4 (.inl ?_)
        rw [h3, Nat.add_sub_cancel]; exact h5
    · rcases h3 with h3 | h3
      · refine h4 (.inl ?_)
        rw [h3, Nat.add_sub_cancel_left]; exact h5
      · exact hv (h3 ▸ h5)
  have hmem : ∀ e, e ∈ H' ↔ e ∈ H ∨ e ∈ newL E (s.order ++ [v]) v E.length := fun e => by rw [hp.mem_iff, List.mem_append]
  refine ⟨hok, hp.nodup_iff.2 ?_, fun e he => ?_, fun e he => ?_, fun e he => ?_, fun e he hc => ?_⟩
  · rw [List.nodup_append]
    exact ⟨hn, List.nodup_range.sublist List.filter_sublist, fun a ha b hb hab => by subst hab; exact hout a hb (hends a ha)⟩
  · rcases (hmem e).1 he with h1 | h1
    · exact hlt e h1
    · exact (mem_new.1 h1).1
  · rw [hs]
    rcases (hmem e).1 he with h1 | h1
    · exact hnew e h1
    · exact fun h2 => hout e h1 (hso e h2)
  · rw [ho]
    rcases (hmem e).1 he with h1 | h1
    · exact (hends e h1).imp (fun h => List.mem_append_left _ h) (fun h => List.mem_append_left _ h)
    · rcases (mem_new.1 h1).2.2.1 with h2 | h2
      · exact .inl (by rw [h2]; simp)
      · exact .inr (by rw [h2]; simp)
  · rw [hmem]
    obtain ⟨c1, c2⟩ := cand_iff.1 hc
    rw [hs] at c1
    rw [ho] at c2
    by_cases hcs : candB E s e = true
    · exact .inl (hall e he hcs)
    · have h2 : (E.getD e (0, 0)).1 ∈ s.order ↔ (E.getD e (0, 0)).2 ∈ s.order := Classical.byContradiction fun hx => hcs (cand_iff.2 ⟨c1, hx⟩)
      simp only [List.mem_append, List.mem_singleton] at c2
      refine .inr (mem_new.2 ⟨he, ?_, ?_, ?_⟩)
      · intro h3; rw [h3] at c2; exact c2 Iff.rfl
      · refine Classical.byContradiction fun h3 => c2 ?_
        rw [not_or] at h3
        exact ⟨fun h => h.elim (fun h => .inl (h2.1 h)) (fun h => absurd h h3.1), fun h => h.elim (fun h => .inl (h2.2 h)) (fun h => absurd h h3.2)⟩
      · intro h4
        rw [List.mem_append, List.mem_singleton] at h4
        refine c2 ?_
        obtain ⟨⟨a, b⟩, hab⟩ : ∃ z, E.getD e (0, 0) = z := ⟨_, rfl⟩
        rw [hab] at h2 h4 ⊢
        dsimp only at h2 h4 ⊢
        by_cases ha : a = v
        · subst ha
          rw [Nat.add_sub_cancel_left] at h4
          exact ⟨fun _ => h4, fun _ => .inr rfl⟩
        · by_cases hb : b = v
          · subst hb
            rw [Nat.add_sub_cancel] at h4
            exact ⟨fun _ => .inr rfl, fun _ => h4⟩
          · exact ⟨fun h => h.elim (fun h => .inl (h2.1 h)) (fun h => absurd h ha), fun h => h.elim (fun h => .inl (h2.2 h)) (fun h => absurd h hb)⟩
theorem one_steps : (burnOne lit s e v).steps = s.steps ++ [e] := by unfold burnOne; split <;> rfl
theorem run_next (h : nextF E s = some e) : stepF E lit s = burnOne lit s e (leadV E s e) := by unfold stepF; rw [h]
end
end Go.Proofs.YtplgbapbgcipdaaGreatDoor

/-! slices.Equal on lists and on scripts. -/
namespace Go.Proofs.YtplgbapbgcipdaaGreatDoor
open Go.RowKit

set_option maxHeartbeats 800000 in
theorem iequal_any (A : Option Addr) (c : Nat) (xs : List Int) (B : Option Addr) (d : Nat) (ys : List Int) (hn : xs.length ≤ 1048576) (w : World) (h : Reads w w.heap.size 1 A xs.length (ints xs)) (h' : Reads w w.heap.size 1 B ys.length (ints ys)) :
    Calls Tryz.prog 43 #[.slice A xs.length c, .slice B ys.length d] w fun e w' => e = .returned (.bool (decide (xs = ys))) ∧ Below w.heap.size w w' := by
  by_cases hl : xs.length = ys.length
  · have HL := Lib.hid hl
    have hb : ((xs.length : Int) != (ys.length : Int)) = false := by simp; omega
    clear hl
    go_enter Tryz.func43, Tryz.ntmps43
    go_wp2
    clear hb
    go_loopw [13] (fun i wr => ∃ k : Nat, k ≤ xs.length ∧ i = .int .i64 k ∧ Below w.heap.size w wr ∧ Hid (xs.take k = ys.take k)) (fun i _ => xs.length - (intOf i).toNat)
    case atStart => exact ⟨0, by omega, rfl, Below.refl _ _, by simp [Hid]⟩
    case round =>
      obtain ⟨k, hk, rfl, hbel, HS⟩ := hrel
      by_cases hlt : k < xs.length
      · obtain ⟨x, hx⟩ := get_of_lt hlt
        obtain ⟨y, hy⟩ := get_of_lt (xs := ys) (k := k) (by have := HL.out; omega)
        have HX := Lib.hid hx
        have HY := Lib.hid hy
        obtain ⟨b, off, rfl, hb, hcell⟩ := (h.below hbel).at_ (ints_at hx)
        obtain ⟨b', off', rfl, hb', hcell'⟩ := (h'.below hbel).at_ (ints_at hy)
        have hi : (k : Int) < (xs.length : Int) := by omega
        have hi' : (k : Int) < (ys.length : Int) := by have := HL.out; omega
        clear hx hy h h'
        by_cases hxy : x = y
        · subst hxy
          go_wp2
          go_quiet (fail)
          go_wp2
          go_roundw
          case rel => exact ⟨k + 1, by omega, by go_num, below_drewN hbel _, by rw [Hid, take_snoc HX.out, take_snoc HY.out, HS.out]⟩
          case measure => simp [intOf]; omega
        · have hbx : (x != y) = true := by simpa using hxy
          go_wp2
          go_quiet (fail)
          go_wp2
          go_ret
          refine ⟨ret_bool ?_, below_drewN hbel _⟩
          have : ¬ xs = ys := fun e => hxy (by have h1 := HX.out; rw [e, HY.out] at h1; injection h1 with h1; exact h1.symm)
          simp [this]
      · go_wp2
        go_ret
        refine ⟨ret_bool ?_, hbel⟩
        have e : xs = ys := by have h1 := HS.out; rw [show k = xs.length from by omega, List.take_length, HL.out, List.take_length] at h1; exact h1
        simp [e]
  · have hb : ((xs.length : Int) != (ys.length : Int)) = true := by simp; omega
    go_enter Tryz.func43, Tryz.ntmps43
    go_wp2
    go_ret
    have : ¬ xs = ys := fun e => hl (by rw [e])
    exact ⟨ret_bool (by simp [this]), Below.refl _ _⟩
end Go.Proofs.YtplgbapbgcipdaaGreatDoor

/-! ref10.Less: a list without a number. -/
namespace Go.Proofs.YtplgbapbgcipdaaGreatDoor
open Go.RowKit

set_option maxHeartbeats 1000000 in
theorem rless_any (A : Option Addr) (c : Nat) (xs : List Int) (hn : xs.length ≤ 1048000) (v : Int) (w : World) (h : Reads w w.heap.size 1 A xs.length (ints xs)) :
    Calls Tryz.prog 81 #[.slice A xs.length c, .int .i64 v] w fun en w' => ∃ A' c', en = .returned (.slice A' (xs.filter fun x => !decide (x = v)).length c') ∧ OwnI w' w.heap.size A' c' (xs.filter fun x => !decide (x = v)) ∧ Below w.heap.size w w' := by
  have hA0 : Hid (OwnI w w.heap.size none 0 ((xs.take 0).filter fun x => !decide (x = v))) := OwnI.nil_ _ _
  have HFL : Hid (∀ k, ((xs.take k).filter fun x => !decide (x = v)).length ≤ 1048000) := fun k => Nat.le_trans (List.length_filter_le _ _) (Nat.le_trans (by rw [List.length_take]; omega) hn)
  go_enter Tryz.func81, Tryz.ntmps81
  go_wp2_with fail
  go_loopw [5, 6] (fun o i wr => ∃ (k : Nat) (Ao : Option Addr) (co : Nat), k ≤ xs.length ∧ i = .int .i64 k ∧ o = .slice Ao ((xs.take k).filter fun x => !decide (x = v)).length co ∧ Hid (OwnI wr w.heap.size Ao co ((xs.take k).filter fun x => !decide (x = v))) ∧ Hid (Below w.heap.size w wr)) (fun _ i _ => xs.length - (intOf i).toNat)
  case atStart => exact ⟨0, none, 0, by omega, rfl, rfl, hA0, Below.refl _ _⟩
  case round =>
    obtain ⟨k, Ao, co, hk, rfl, rfl, HO, HW⟩ := hrel
    have hwz := HW.out.size
    by_cases hlt : k < xs.length
    · obtain ⟨x, hx⟩ := get_of_lt hlt
      obtain ⟨b, off, hA, hb, hcell⟩ := (h.below HW.out).at_ (ints_at hx)
      subst hA
      have hi : (k : Int) < (xs.length : Int) := by omega
      have ht := take_snoc hx
      have hf : (xs.take (k + 1)).filter (fun x => !decide (x = v)) = if x = v then (xs.take k).filter (fun x => !decide (x = v)) else (xs.take k).filter (fun x => !decide (x = v)) ++ [x] := by
        rw [ht, List.filter_append]
        by_cases hv : x = v
        · rw [if_pos hv, List.filter_cons]; simp [hv]
        · rw [if_neg hv, List.filter_cons]; simp [hv]
      have HFk := HFL.out k
      obtain ⟨L, hL⟩ : ∃ L, (xs.take k).filter (fun x => !decide (x = v)) = L := ⟨_, rfl⟩
      rw [hL] at HO hf HFk ⊢
      have HF := Lib.hid hf
      have HXL : Hid (xs.length ≤ 1048000) := hn
      clear hx ht hf hL
      by_cases hv : x = v
      · have hq : (x != v) = false := by simp [hv]
        have hF := Lib.hid (HF.out.trans (if_pos hv))
        clear hv
        go_wp2
        go_roundw
        case rel => exact ⟨k + 1, Ao, co, by omega, by have := HXL.out; go_num, by rw [hF.out], by rw [Hid, hF.out]; exact HO.out, HW.out⟩
        case measure => have := HXL.out; simp [intOf]; omega
      · have hq : (x != v) = true := by simpa using hv
        have hF := Lib.hid (HF.out.trans (if_neg hv))
        clear hv
        go_wp2_with (at_builtin; refine push_int rfl (.tmp 19) (.tmp 24) _ rfl Tryz.underlying25 w.heap.size Ao co L x rfl HO.out rfl rfl HFk hwz ?_; intro A5 c5 w5 hown5 _ hb5)
        go_roundw
        case rel => exact ⟨k + 1, A5, c5, by omega, by have := HXL.out; go_num, by rw [hF.out, List.length_append]; rfl, by rw [Hid, hF.out]; exact hown5, HW.out.trans hb5⟩
        case measure => have := HXL.out; simp [intOf]; omega
    · obtain rfl : k = xs.length := by omega
      rw [List.take_length] at HO ⊢
      go_wp2
      go_ret
      exact ⟨Ao, co, rfl, HO.out, HW.out⟩
end Go.Proofs.YtplgbapbgcipdaaGreatDoor

/-! ref10.Before: the order of lists of ints. -/
namespace Go.Proofs.YtplgbapbgcipdaaGreatDoor
open Go.RowKit

theorem bfI_drop {xs ys : List Int} {k : Nat} {x y : Int} (h : xs[k]? = some x) (h' : ys[k]? = some y) : bfI (xs.drop k) (ys.drop k) = if x = y then bfI (xs.drop (k + 1)) (ys.drop (k + 1)) else decide (x < y) := by
  obtain ⟨l1, e1⟩ := List.getElem?_eq_some_iff.1 h
  obtain ⟨l2, e2⟩ := List.getElem?_eq_some_iff.1 h'
  rw [List.drop_eq_getElem_cons l1, List.drop_eq_getElem_cons l2, e1, e2, bfI]

set_option maxHeartbeats 1000000 in
theorem rbefore_any (A : Option Addr) (c : Nat) (xs : List Int) (B : Option Addr) (d : Nat) (ys : List Int) (hn : xs.length ≤ 1048576) (w : World) (h : Reads w w.heap.size 1 A xs.length (ints xs)) (h' : Reads w w.heap.size 1 B ys.length (ints ys)) :
    Calls Tryz.prog 178 #[.slice A xs.length c, .slice B ys.length d] w fun e w' => e = .returned (.bool (bfI xs ys)) ∧ Below w.heap.size w w' := by
  go_enter Tryz.func178, Tryz.ntmps178
  go_wp2_with fail
  go_loopw [5] (fun i wr => ∃ k : Nat, k ≤ xs.length ∧ k ≤ ys.length ∧ i = .int .i64 k ∧ Hid (Below w.heap.size w wr) ∧ Hid (bfI xs ys = bfI (xs.drop k) (ys.drop k))) (fun i _ => xs.length - (intOf i).toNat)
  case atStart => exact ⟨0, by omega, by omega, rfl, Below.refl _ _, by simp [Hid]⟩
  case round =>
    obtain ⟨k, hk, hk', rfl, HW, HS⟩ := hrel
    by_cases hlt : k < xs.length
    · by_cases hlt' : k < ys.length
      · obtain ⟨x, hx⟩ := get_of_lt hlt
        obtain ⟨y, hy⟩ := get_of_lt hlt'
        have hd := bfI_drop hx hy
        obtain ⟨b, off, rfl, hb, hcell⟩ := (h.below HW.out).at_ (ints_at hx)
        obtain ⟨b', off', rfl, hb', hcell'⟩ := (h'.below HW.out).at_ (ints_at hy)
        have hi : (k : Int) < (xs.length : Int) := by omega
        have hi' : (k : Int) < (ys.length : Int) := by omega
        have HD := Lib.hid hd
        clear hx hy hd h h'
        by_cases hxy : x = y
        · have hq : (x != y) = false := by simp [hxy]
          have HN := Lib.hid (HS.out.trans (HD.out.trans (if_pos hxy)))
          clear hxy
          go_wp2
          go_quiet (fail)
          go_wp2
          go_roundw
          case rel => exact ⟨k + 1, by omega, by omega, by go_num, below_drewN HW.out _, HN⟩
          case measure => simp [intOf]; omega
        · have hq : (x != y) = true := by simpa using hxy
          have HN := Lib.hid (HS.out.trans (HD.out.trans (if_neg hxy)))
          clear hxy
          go_wp2
          go_quiet (fail)
          go_wp2
          go_quiet (fail)
          go_wp2
          go_ret
          exact ⟨ret_bool HN.out.symm, by exact below_drewN (below_drewN HW.out _) _⟩
      · obtain rfl : k = ys.length := by omega
        have HN : Hid (bfI xs ys = false) := by
          rw [Hid, HS.out, List.drop_length]
          cases xs.drop ys.length <;> rfl
        have hi : ((ys.length : Nat) : Int) < (xs.length : Int) := by omega
        have hq : ¬ (xs.length : Int) < (ys.length : Int) := by omega
        go_wp2
        go_ret
        exact ⟨ret_bool (by rw [HN.out]), HW.out⟩
    · obtain rfl : k = xs.length := by omega
      have HN : Hid (bfI xs ys = decide ((xs.length : Int) < (ys.length : Int))) := by
        rw [Hid, HS.out, List.drop_length]
        cases hd : ys.drop xs.length with
        | nil =>
          have := congrArg List.length hd
          rw [List.length_drop] at this
          simp at this
          simp [bfI]; omega
        | cons y l =>
          have := congrArg List.length hd
          rw [List.length_drop] at this
          simp at this
          simp [bfI]; omega
      go_wp2
      go_ret
      exact ⟨ret_bool (by rw [HN.out, decide_eq_decide]; omega), HW.out⟩
end Go.Proofs.YtplgbapbgcipdaaGreatDoor

/-! Graphs: slices of edges (three cells each) and of pairs (two cells each); the reference's equality of graphs. -/
namespace Go.Proofs.YtplgbapbgcipdaaGreatDoor
open Go.RowKit

/-- An edge: its ends, and how often. -/
abbrev E3 := Int × Int × Int
def edgeCells : List E3 → List Value
  | [] => []
  | e :: es => .int .i64 e.1 :: .int .i64 e.2.1 :: .int .i64 e.2.2 :: edgeCells es
theorem edgeCells_length (es : List E3) : (edgeCells es).length = es.length * 3 := by
  induction es with
  | nil => rfl
  | cons e es ih => simp [edgeCells, ih]; omega
theorem edgeCells_append (es fs : List E3) : edgeCells (es ++ fs) = edgeCells es ++ edgeCells fs := by
  induction es with
  | nil => rfl
  | cons e es ih => simp [edgeCells, ih]
theorem edgeCells_at {es : List E3} {k : Nat} {e : E3} (h : es[k]? = some e) :
    (edgeCells es)[k * 3]? = some (.int .i64 e.1) ∧ (edgeCells es)[k * 3 + 1]? = some (.int .i64 e.2.1) ∧ (edgeCells es)[k * 3 + 2]? = some (.int .i64 e.2.2) := by
  induction es generalizing k with
  | nil => simp at h
  | cons f es ih =>
    rcases k with _ | k
    · simp at h; subst h; simp [edgeCells]
    · have := ih (k := k) (by simpa using h)
      rw [show (k + 1) * 3 = k * 3 + 1 + 1 + 1 from by omega, show k * 3 + 1 + 1 + 1 + 1 = (k * 3 + 1) + 1 + 1 + 1 from by omega, show k * 3 + 1 + 1 + 1 + 2 = (k * 3 + 2) + 1 + 1 + 1 from by omega]
      simpa [edgeCells] using this
theorem edgeCells_one {es : List E3} : ∀ u ∈ edgeCells es, u.oneCell' = true := by
  induction es with
  | nil => simp [edgeCells]
  | cons e es ih =>
    intro u hu
    simp only [edgeCells, List.mem_cons] at hu
    rcases hu with rfl | rfl | rfl | hu
    · rfl
    · rfl
    · rfl
    · exact ih u hu
theorem Reads.edge {w : World} {B n : Nat} {A : Option Addr} {es : List E3} {k : Nat} {e : E3} (h : Reads w B 3 A n (edgeCells es)) (he : es[k]? = some e) :
    ∃ b off, A = some ⟨b, off, none⟩ ∧ b < B ∧ w.cell? ⟨b, off + k * 3, none⟩ = some (.int .i64 e.1) ∧ w.cell? ⟨b, off + k * 3 + 1, none⟩ = some (.int .i64 e.2.1) ∧ w.cell? ⟨b, off + k * 3 + 1 + 1, none⟩ = some (.int .i64 e.2.2) := by
  have hk : k < es.length := (List.getElem?_eq_some_iff.1 he).1
  have hl := h.1
  rw [edgeCells_length] at hl
  obtain ⟨b, off, hA, hb, hc⟩ := h.2 (by omega)
  obtain ⟨h1, h2, h3⟩ := edgeCells_at he
  exact ⟨b, off, hA, hb, hc _ _ h1, by have := hc _ _ h2; rwa [show off + (k * 3 + 1) = off + k * 3 + 1 from by omega] at this, by have := hc _ _ h3; rwa [show off + (k * 3 + 2) = off + k * 3 + 1 + 1 from by omega] at this⟩

theorem info_edge : (Tryz.prog.info? 106).map (fun i => (i.zero, i.size, i.bytes)) = some (some (.agg #[.int .i64 0, .int .i64 0, .int .i64 0]), 3, 24) := by kernel_rfl

/-- The slice value is the call's own row of edges. -/
def OwnE (w : World) (base : Nat) (A : Option Addr) (c : Nat) (es : List E3) : Prop := w.ownsRow base 106 3 (.slice A es.length c) es.length (edgeCells es)
section
variable {w w' : World} {base : Nat} {A : Option Addr} {c : Nat} {es : List E3}
theorem OwnE.nil_ (w : World) (base : Nat) : OwnE w base none 0 [] := World.ownsRow_nil _ _ _ _
theorem OwnE.reads (h : OwnE w base A c es) : Reads w w.heap.size 3 A es.length (edgeCells es) := Reads.of_own h
theorem OwnE.alloc (h : OwnE w base A c es) (o : Obj) : OwnE (w.alloc o) base A c es := World.ownsRow.alloc h o
theorem OwnE.drewN (h : OwnE w base A c es) (n : Nat) : OwnE (w.drewN n) base A c es := h
theorem OwnE.lt (h : OwnE w base A c es) : ∀ k, blockOf A k → base ≤ k ∧ k < w.heap.size := fun k hk => World.ownsRow.lt h k (blockOf_own.2 hk)
theorem OwnE.kept (h : OwnE w base A c es) (hk : ∀ k, blockOf A k → w'.heap[k]? = w.heap[k]?) : OwnE w' base A c es := by
  obtain ⟨h1, h2⟩ := h
  refine ⟨h1, ?_⟩
  rcases h2 with h2 | ⟨g, cap, cur, hv, hg, hh, r⟩
  · exact .inl h2
  · have hgb : (Value.slice A es.length c).ownBlock = some g := by rw [hv]; rfl
    exact .inr ⟨g, cap, cur, hv, hg, (hk g (blockOf_own.1 hgb)).trans hh, r⟩
theorem OwnE.next (h : OwnE w base A c es) (hb : Below w.heap.size w w') : OwnE w' base A c es := h.kept fun k hk => hb.block k (h.lt k hk).2
theorem OwnE.mono {base' : Nat} (h : OwnE w base A c es) (hb : base' ≤ base) : OwnE w base' A c es := by
  obtain ⟨h1, h2⟩ := h
  refine ⟨h1, ?_⟩
  rcases h2 with h2 | ⟨g, cap, cur, hv, hg, r⟩
  · exact .inl h2
  · exact .inr ⟨g, cap, cur, hv, by omega, r⟩
theorem OwnE.set_blk {g : Nat} {t : TypeId} {cs : Array Value} (h : OwnE w base A c es) (hg : Blk w g t cs) (ht : 106 ≠ t) (o : Nat) (u : Value) : OwnE (w.setCell ⟨g, o, none⟩ u) base A c es := by
  have hne := own_blk_ne h hg ht
  refine h.kept fun k hk => Below.heap_setCell w ⟨g, o, none⟩ u k ?_
  rintro rfl
  exact hne (blockOf_own.2 hk).symm
end
end Go.Proofs.YtplgbapbgcipdaaGreatDoor

/-! What stays of slices through the steps of an iterator; the ends of functions that hold ranges over functions. -/
namespace Go.Proofs.YtplgbapbgcipdaaGreatDoor
open Go.RowKit Go.Shelf

/-- The marks of the loops that a function has gone through. -/
def MarksAt : List Deferred → World → Prop
  | [], _ => True
  | d :: ds, w => ∃ D, d = { target := .collected D, args := #[] } ∧ w.heap[D]? = some (.deferred (some [])) ∧ (∀ d' ∈ ds, d' ≠ d) ∧ MarksAt ds w
theorem MarksAt.keep {ds : List Deferred} {w w' : World} (h : MarksAt ds w) (hk : ∀ D, ({ target := .collected D, args := #[] } : Deferred) ∈ ds → w'.heap[D]? = w.heap[D]?) : MarksAt ds w' := by
  induction ds with
  | nil => trivial
  | cons d ds ih =>
    obtain ⟨D, hd, hD, hne, hr⟩ := h
    refine ⟨D, hd, (hk D (by rw [hd]; simp)).trans hD, hne, ih hr fun D' h' => hk D' (by simp [h'])⟩
theorem end_marks {P : Program} {n : Nat} {fn : Func} {R : Ending → World → Prop} {tmps : Array Value} : ∀ (ds : List Deferred) (w : World), MarksAt ds w →
    (∀ w', Only (fun k => ({ target := .collected k, args := #[] } : Deferred) ∈ ds) w w' → ∃ v, (results fn tmps).run P w' = .ok v w' ∧ R (.returned v) w') → LeavesInM Fence.wide n P fn tmps R ds .returning w := by
  intro ds
  induction ds with
  | nil => intro w _ h; exact h w (Only.refl _ _)
  | cons d ds ih =>
    rintro w ⟨D, hd, hD, hne, hr⟩ h
    refine ⟨by simp, .inl ⟨D, _, by rw [hd], run_takeDeferred hD, ih _ (hr.keep fun D' h' => World.putObj_heap_other fun e => hne _ h' (by rw [hd, e])) ?_⟩⟩
    intro w' ho
    refine h w' (Only.trans ((Only.put_one w D _).mono fun k _ hk => by subst hk; rw [hd]; simp) (ho.mono fun k _ hk => by simp [hk]))

theorem end_none {P : Program} {F : Fence} {n : Nat} {fn : Func} {R : Ending → World → Prop} {tmps : Array Value} {w : World} {v : Value} (hv : (results fn tmps).run P w = .ok v w) (hR : R (.returned v) w) :
    bodyPostM F n P fn R .ret { tmps := tmps, defers := [] } w := ⟨v, hv, hR⟩

theorem OwnI.stays {B : Nat} {M C : Nat → Prop} {w w' : World} {base c : Nat} {A : Option Addr} {xs : List Int} (h : OwnI w base A c xs) (hst : Stays B M C w w') (hC : ∀ k, blockOf A k → C k ∨ (k < B ∧ ¬ M k)) : OwnI w' base A c xs := by
  have hlt := h.lt
  obtain ⟨h1, h2⟩ := h
  refine ⟨h1, ?_⟩
  rcases h2 with h2 | ⟨g, cap, cur, hv, hg, hh, r⟩
  · exact .inl h2
  · have hgb : (Value.slice A xs.length c).ownBlock = some g := by rw [hv]; rfl
    exact .inr ⟨g, cap, cur, hv, hg, (hst.block g (hlt g hgb).2 (hC g (blockOf_own.1 hgb))).trans hh, r⟩
theorem OwnI.only {C : Nat → Prop} {w w' : World} {base c : Nat} {A : Option Addr} {xs : List Int} (h : OwnI w base A c xs) (ho : Only C w w') (hC : ∀ k, blockOf A k → ¬ C k) : OwnI w' base A c xs := by
  have hlt := h.lt
  obtain ⟨h1, h2⟩ := h
  refine ⟨h1, ?_⟩
  rcases h2 with h2 | ⟨g, cap, cur, hv, hg, hh, r⟩
  · exact .inl h2
  · have hgb : (Value.slice A xs.length c).ownBlock = some g := by rw [hv]; rfl
    exact .inr ⟨g, cap, cur, hv, hg, (ho.block g (hlt g hgb).2 (hC g (blockOf_own.1 hgb))).trans hh, r⟩
end Go.Proofs.YtplgbapbgcipdaaGreatDoor

/-! Slices of ints that are known whole. -/
namespace Go.Proofs.YtplgbapbgcipdaaGreatDoor
open Go.RowKit

def intCells (l : List Int) : Array Value := (ints l).toArray
theorem intCells_get {l : List Int} {k : Nat} {x : Int} (h : l[k]? = some x) : (intCells l)[k]? = some (.int .i64 x) := by simp [intCells, ints, h]
theorem intCells_set (l : List Int) (k : Nat) (x : Int) : (intCells l).setIfInBounds k (.int .i64 x) = intCells (l.set k x) := by simp [intCells, ints, List.map_set]
theorem OwnI.of_blk {w : World} {base g : Nat} {l : List Int} (h : Blk w g 3 (intCells l)) (hb : base ≤ g) (hl : l.length ≤ maxLen) : OwnI w base (some ⟨g, 0, none⟩) l.length l :=
  ⟨by simp [ints], .inr ⟨g, l.length, intCells l, rfl, hb, h, Nat.le_refl _, hl, by simp [intCells, ints], by rw [Nat.mul_one]; show (ints l).take l.length = ints l; rw [← ints_length, List.take_length]⟩⟩
end Go.Proofs.YtplgbapbgcipdaaGreatDoor

