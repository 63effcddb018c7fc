/-
 Texts of this claim, put together: FireT, LEqual, ValP.
-/
import Derived.Test.YtnbikkcalcpedaaGreatDoorK04
import Derived.Test.YtnbikkcalcpedaaGreatDoorK03
import Derived.Test.YtnbikkcalcpedaaGreatDoorK02
import Derived.Deep.QuietTactic
import Derived.BigQuiet
set_option maxHeartbeats 800000
namespace Go.Proofs.YtnbikkcalcpedaaGreatDoor
structure FireS where
 steps : List Nat
 order : List Nat
 tree : List Nat
 times : List Int
def candB (E : List (Nat × Nat)) (s : FireS) (e : Nat) : Bool := !decide (e ∈ s.steps) && !(decide ((E.getD e (0, 0)).1 ∈ s.order) == decide ((E.getD e (0, 0)).2 ∈ s.order))
def nextF (E : List (Nat × Nat)) (s : FireS) : Option Nat := (List.range E.length).find? (candB E s)
def leadV (E : List (Nat × Nat)) (s : FireS) (e : Nat) : Nat := if (E.getD e (0, 0)).1 ∈ s.order then (E.getD e (0, 0)).2 else (E.getD e (0, 0)).1
def burnOne (lit : Nat → Nat → Int → Bool) (s : FireS) (e v : Nat) : FireS :=
 if lit v e (s.times.getD v 0) = true then { steps := s.steps ++ [e], order := s.order ++ [v], tree := s.tree ++ [e], times := s.times }
 else { steps := s.steps ++ [e], order := s.order, tree := s.tree, times := s.times.set v (s.times.getD v 0 + 1) }
def stepF (E : List (Nat × Nat)) (lit : Nat → Nat → Int → Bool) (s : FireS) : FireS :=
 match nextF E s with
 | none => s
 | some e => burnOne lit s e (leadV E s e)
def runF (E : List (Nat × Nat)) (lit : Nat → Nat → Int → Bool) : Nat → FireS → FireS
 | 0, s => s
 | k + 1, s => runF E lit k (stepF E lit s)
section
variable {E : List (Nat × Nat)} {lit : Nat → Nat → Int → Bool} {s : FireS} {e v : Nat}
theorem runF_none (h : nextF E s = none) : ∀ k, runF E lit k s = s
 | 0 => rfl
 | k + 1 => by rw [runF, stepF, h]; exact runF_none h k
theorem runF_succ : ∀ (k : Nat) (s : FireS), runF E lit (k + 1) s = stepF E lit (runF E lit k s)
 | 0, s => rfl
 | k + 1, s => by rw [runF, runF_succ k, runF]
theorem cand_iff : candB E s e = true ↔ e ∉ s.steps ∧ ¬ ((E.getD e (0, 0)).1 ∈ s.order ↔ (E.getD e (0, 0)).2 ∈ s.order) := by
 unfold candB
 rw [Bool.and_eq_true, Bool.not_eq_true', decide_eq_false_iff_not, Bool.not_eq_true', beq_eq_false_iff_ne]
 refine and_congr Iff.rfl ⟨fun h hc => h ?_, fun h hc => h ?_⟩
 ·rw [Bool.eq_iff_iff, decide_eq_true_eq, decide_eq_true_eq]; exact hc
 ·rw [Bool.eq_iff_iff, decide_eq_true_eq, decide_eq_true_eq] at hc; exact hc
theorem lead_new (h : candB E s e = true) : leadV E s e ∉ s.order := by
 obtain ⟨_, h2⟩ := cand_iff.1 h
 unfold leadV
 by_cases h3 : (E.getD e (0, 0)).1 ∈ s.order
 ·rw [if_pos h3]; exact fun h4 => h2 ⟨fun _ => h4, fun _ => h3⟩
 ·rw [if_neg h3]; exact h3
theorem next_some (h : nextF E s = some e) : e < E.length ∧ candB E s e = true ∧ ∀ f, f < e → candB E s f = false := by
 unfold nextF at h
 have h1 := List.find?_some h
 have h2 := List.mem_of_find?_eq_some h
 refine ⟨List.mem_range.1 h2, h1, fun f hf => ?_⟩
 obtain ⟨_, l1, l2, h3, h4⟩ := List.find?_eq_some_iff_append.1 h
 have hfm : f ∈ l1 := by
  have hlen : l1.length = e := by
   have := congrArg (fun l => l[l1.length]?) h3
   simp only [List.getElem?_append_right (Nat.le_refl _), Nat.sub_self] at this
   rw [List.getElem?_cons_zero] at this
   have hlt : l1.length < E.length := by
    have := congrArg List.length h3
    simp at this; omega
   rw [List.getElem?_range hlt] at this
   injection this
  have h5 : (List.range E.length)[f]? = some f := by rw [List.getElem?_range]; have := List.mem_range.1 h2; omega
  rw [h3, List.getElem?_append_left (by omega)] at h5
  exact List.mem_of_getElem? h5
 have := h4 f hfm
 simpa using this
theorem next_none (h : nextF E s = none) : ∀ e, e < E.length → candB E s e = false := by
 intro e he
 unfold nextF at h
 rw [List.find?_eq_none] at h
 have := h e (List.mem_range.2 he)
 simpa using this
theorem next_least (he : e < E.length) (hc : candB E s e = true) (hm : ∀ f, f < e → candB E s f = false) : nextF E s = some e := by
 rcases hn : nextF E s with _ | f
 ·rw [next_none hn e he] at hc; cases hc
 ·obtain ⟨h1, h2, h3⟩ := next_some hn
  rcases Nat.lt_trichotomy e f with h | h | h
  ·rw [h3 e h] at hc; cases hc
  ·rw [h]
  ·rw [hm f h] at h2; cases h2
structure FireOk (E : List (Nat × Nat)) (s : FireS) : Prop where
 nodup : s.steps.Nodup
 lt : ∀ e ∈ s.steps, e < E.length
 ends : ∀ e ∈ s.steps, (E.getD e (0, 0)).1 ∈ s.order ∨ (E.getD e (0, 0)).2 ∈ s.order
theorem cand_end (h : candB E s e = true) : (E.getD e (0, 0)).1 ∈ s.order ∨ (E.getD e (0, 0)).2 ∈ s.order := by
 obtain ⟨_, h2⟩ := cand_iff.1 h
 by_cases h3 : (E.getD e (0, 0)).1 ∈ s.order
 ·exact .inl h3
 ·by_cases h4 : (E.getD e (0, 0)).2 ∈ s.order
  ·exact .inr h4
  ·exact absurd ⟨fun h => absurd h h3, fun h => absurd h h4⟩ h2
theorem FireOk.one (h : FireOk E s) (he : e < E.length) (hc : candB E s e = true) : FireOk E (burnOne lit s e v) := by
 have hn := (cand_iff.1 hc).1
 have hnd : (s.steps ++ [e]).Nodup := by
  rw [List.nodup_append]
  exact ⟨h.nodup, by simp, fun a ha b hb => by rw [List.mem_singleton] at hb; subst hb; exact fun h => hn (h ▸ ha)⟩
 have hlt : ∀ f ∈ s.steps ++ [e], f < E.length := fun f hf => by
  rcases List.mem_append.1 hf with hf | hf
  ·exact h.lt f hf
  ·rw [List.mem_singleton] at hf; exact hf ▸ he
 have hen : ∀ f ∈ s.steps ++ [e], (E.getD f (0, 0)).1 ∈ s.order ∨ (E.getD f (0, 0)).2 ∈ s.order := fun f hf => by
  rcases List.mem_append.1 hf with hf | hf
  ·exact h.ends f hf
  ·rw [List.mem_singleton] at hf; rw [hf]; exact cand_end hc
 unfold burnOne
 split
 ·exact ⟨hnd, hlt, fun f hf => (hen f hf).imp (fun h => List.mem_append_left _ h) (fun h => List.mem_append_left _ h)⟩
 ·exact ⟨hnd, hlt, hen⟩
theorem steps_len (h : FireOk E s) : s.steps.length ≤ E.length := by
 have := nodup_sub_le h.nodup (m := List.range E.length) (fun x hx => List.mem_range.2 (h.lt x hx))
 simpa using this
structure Wait (E : List (Nat × Nat)) (s : FireS) (H : List Nat) : Prop where
 ok : FireOk E s
 nodup : H.Nodup
 lt : ∀ e ∈ H, e < E.length
 new : ∀ e ∈ H, e ∉ s.steps
 ends : ∀ e ∈ H, (E.getD e (0, 0)).1 ∈ s.order ∨ (E.getD e (0, 0)).2 ∈ s.order
 all : ∀ e, e < E.length → candB E s e = true → e ∈ H
theorem Wait.least {H : List Nat} (h : Wait E s H) (he : e ∈ H) (hm : ∀ f ∈ H, e ≤ f) :
  ((E.getD e (0, 0)).1 ∈ s.order ∧ (E.getD e (0, 0)).2 ∈ s.order ∧ candB E s e = false) ∨ (nextF E s = some e) := by
 by_cases hc : candB E s e = true
 ·refine .inr (next_least (h.lt e he) hc fun f hf => ?_)
  cases hcf : candB E s f
  ·rfl
  ·have := hm f (h.all f (Nat.lt_trans hf (h.lt e he)) hcf)
   omega
 ·have hc' : candB E s e = false := by simpa using hc
  have h2 : (E.getD e (0, 0)).1 ∈ s.order ↔ (E.getD e (0, 0)).2 ∈ s.order := Classical.byContradiction fun hx => hc (cand_iff.2 ⟨h.new e he, hx⟩)
  rcases h.ends e he with h3 | h3
  ·exact .inl ⟨h3, h2.1 h3, hc'⟩
  ·exact .inl ⟨h2.2 h3, h3, hc'⟩
theorem Wait.stale {H H' : List Nat} (h : Wait E s H) (hp : (e :: H').Perm H) (hc : candB E s e = false) : Wait E s H' := by
 have hn := hp.nodup_iff.2 h.nodup
 rw [List.nodup_cons] at hn
 refine ⟨h.ok, hn.2, fun f hf => h.lt f (hp.mem_iff.1 (by simp [hf])), fun f hf => h.new f (hp.mem_iff.1 (by simp [hf])), fun f hf => h.ends f (hp.mem_iff.1 (by simp [hf])), fun f hf hcf => ?_⟩
 rcases List.mem_cons.1 (hp.mem_iff.2 (h.all f hf hcf)) with rfl | h1
 ·rw [hc] at hcf; cases hcf
 ·exact h1
theorem Wait.dark {H H' : List Nat} (h : Wait E s H) (hp : (e :: H').Perm H) (hc : candB E s e = true) (hl : lit v e (s.times.getD v 0) = false) : Wait E (burnOne lit s e v) H' := by
 have hn := hp.nodup_iff.2 h.nodup
 rw [List.nodup_cons] at hn
 have hel := h.lt e (hp.mem_iff.1 (by simp))
 have hb : burnOne lit s e v = { steps := s.steps ++ [e], order := s.order, tree := s.tree, times := s.times.set v (s.times.getD v 0 + 1) } := by unfold burnOne; rw [hl, if_neg (by decide)]
 have hok := h.ok.one (lit := lit) (v := v) hel hc
 rw [hb] at hok ⊢
 refine ⟨hok, hn.2, fun f hf => h.lt f (hp.mem_iff.1 (by simp [hf])), fun f hf => ?_, fun f hf => h.ends f (hp.mem_iff.1 (by simp [hf])), fun f hf hcf => ?_⟩
 ·intro h1
  rcases List.mem_append.1 h1 with h1 | h1
  ·exact h.new f (hp.mem_iff.1 (by simp [hf])) h1
  ·rw [List.mem_singleton] at h1; subst h1; exact hn.1 hf
 ·obtain ⟨c1, c2⟩ := cand_iff.1 hcf
  have hcf' : candB E s f = true := cand_iff.2 ⟨fun h => c1 (List.mem_append_left _ h), c2⟩
  rcases List.mem_cons.1 (hp.mem_iff.2 (h.all f hf hcf')) with rfl | h1
  ·exact absurd (by simp) c1
  ·exact h1
def newL (E : List (Nat × Nat)) (order : List Nat) (v : Nat) (k : Nat) : List Nat := (List.range k).filter fun e => decide ((E.getD e (0, 0)).1 ≠ (E.getD e (0, 0)).2) && (decide ((E.getD e (0, 0)).1 = v) || decide ((E.getD e (0, 0)).2 = v)) && !decide ((E.getD e (0, 0)).1 + (E.getD e (0, 0)).2 - v ∈ order)
theorem mem_new {order : List Nat} {k : Nat} : e ∈ newL E order v k ↔ e < k ∧ (E.getD e (0, 0)).1 ≠ (E.getD e (0, 0)).2 ∧ ((E.getD e (0, 0)).1 = v ∨ (E.getD e (0, 0)).2 = v) ∧ (E.getD e (0, 0)).1 + (E.getD e (0, 0)).2 - v ∉ order := by
 unfold newL
 rw [List.mem_filter, List.mem_range, Bool.and_eq_true, Bool.and_eq_true, Bool.or_eq_true, decide_eq_true_eq, decide_eq_true_eq, decide_eq_true_eq, Bool.not_eq_true', decide_eq_false_iff_not]
 constructor
 ·rintro ⟨h1, ⟨h2, h3⟩, h4⟩; exact ⟨h1, h2, h3, h4⟩
 ·rintro ⟨h1, h2, h3, h4⟩; exact ⟨h1, ⟨h2, h3⟩, h4⟩
theorem Wait.take {s2 : FireS} {H H' : List Nat} (hs : s2.steps = s.steps) (ho : s2.order = s.order ++ [v]) (hok : FireOk E s2) (hv : v ∉ s.order) (hn : H.Nodup) (hlt : ∀ e ∈ H, e < E.length) (hnew : ∀ e ∈ H, e ∉ s.steps) (hends : ∀ e ∈ H, (E.getD e (0, 0)).1 ∈ s.order ∨ (E.getD e (0, 0)).2 ∈ s.order)
  (hall : ∀ e, e < E.length → candB E s e = true → e ∈ H) (hso : ∀ e ∈ s.steps, (E.getD e (0, 0)).1 ∈ s.order ∨ (E.getD e (0, 0)).2 ∈ s.order)
  (hp : H'.Perm (H ++ newL E (s.order ++ [v]) v E.length)) : Wait E s2 H' := by
 have hout : ∀ e, e ∈ newL E (s.order ++ [v]) v E.length → ¬ ((E.getD e (0, 0)).1 ∈ s.order ∨ (E.getD e (0, 0)).2 ∈ s.order) := by
  intro e he
  obtain ⟨_, h2, h3, h4⟩ := mem_new.1 he
  rw [List.mem_append, List.mem_singleton] at h4
  rintro (h5 | h5)
  ·rcases h3 with h3 | h3
   ·exact hv (h3 ▸ h5)
   ·refine h4 (.inl ?_)
    rw [h3, Nat.add_sub_cancel]; exact h5
  ·rcases h3 with h3 | h3
   ·refine h4 (.inl ?_)
    rw [h3, Nat.add_sub_cancel_left]; exact h5
   ·exact hv (h3 ▸ h5)
 have hmem : ∀ e, e ∈ H' ↔ e ∈ H ∨ e ∈ newL E (s.order ++ [v]) v E.length := fun e => by rw [hp.mem_iff, List.mem_append]
 refine ⟨hok, hp.nodup_iff.2 ?_, fun e he => ?_, fun e he => ?_, fun e he => ?_, fun e he hc => ?_⟩
 ·rw [List.nodup_append]
  exact ⟨hn, List.nodup_range.sublist List.filter_sublist, fun a ha b hb hab => by subst hab; exact hout a hb (hends a ha)⟩
 ·rcases (hmem e).1 he with h1 | h1
  ·exact hlt e h1
  ·exact (mem_new.1 h1).1
 ·rw [hs]
  rcases (hmem e).1 he with h1 | h1
  ·exact hnew e h1
  ·exact fun h2 => hout e h1 (hso e h2)
 ·rw [ho]
  rcases (hmem e).1 he with h1 | h1
  ·exact (hends e h1).imp (fun h => List.mem_append_left _ h) (fun h => List.mem_append_left _ h)
  ·rcases (mem_new.1 h1).2.2.1 with h2 | h2
   ·exact .inl (by rw [h2]; simp)
   ·exact .inr (by rw [h2]; simp)
 ·rw [hmem]
  obtain ⟨c1, c2⟩ := cand_iff.1 hc
  rw [hs] at c1
  rw [ho] at c2
  by_cases hcs : candB E s e = true
  ·exact .inl (hall e he hcs)
  ·have h2 : (E.getD e (0, 0)).1 ∈ s.order ↔ (E.getD e (0, 0)).2 ∈ s.order := Classical.byContradiction fun hx => hcs (cand_iff.2 ⟨c1, hx⟩)
   simp only [List.mem_append, List.mem_singleton] at c2
   refine .inr (mem_new.2 ⟨he, ?_, ?_, ?_⟩)
   ·intro h3; rw [h3] at c2; exact c2 Iff.rfl
   ·refine Classical.byContradiction fun h3 => c2 ?_
    rw [not_or] at h3
    exact ⟨fun h => h.elim (fun h => .inl (h2.1 h)) (fun h => absurd h h3.1), fun h => h.elim (fun h => .inl (h2.2 h)) (fun h => absurd h h3.2)⟩
   ·intro h4
    rw [List.mem_append, List.mem_singleton] at h4
    refine c2 ?_
    obtain ⟨⟨a, b⟩, hab⟩ : ∃ z, E.getD e (0, 0) = z := ⟨_, rfl⟩
    rw [hab] at h2 h4 ⊢
    dsimp only at h2 h4 ⊢
    by_cases ha : a = v
    ·subst ha
     rw [Nat.add_sub_cancel_left] at h4
     exact ⟨fun _ => h4, fun _ => .inr rfl⟩
    ·by_cases hb : b = v
     ·subst hb
      rw [Nat.add_sub_cancel] at h4
      exact ⟨fun _ => .inr rfl, fun _ => h4⟩
     ·exact ⟨fun h => h.elim (fun h => .inl (h2.1 h)) (fun h => absurd h ha), fun h => h.elim (fun h => .inl (h2.2 h)) (fun h => absurd h hb)⟩
theorem Wait.end_ (h : Wait E s []) : nextF E s = none := by
 rcases hn : nextF E s with _ | e
 ·rfl
 ·obtain ⟨h1, h2, _⟩ := next_some hn
  exact absurd (h.all e h1 h2) (by simp)
theorem runF_add : ∀ (a b : Nat) (s : FireS), runF E lit (a + b) s = runF E lit b (runF E lit a s)
 | 0, b, s => by rw [Nat.zero_add]; rfl
 | a + 1, b, s => by rw [show a + 1 + b = (a + b) + 1 from by omega, runF, runF_add a b, runF]
theorem one_steps : (burnOne lit s e v).steps = s.steps ++ [e] := by unfold burnOne; split <;> rfl
theorem run_next (h : nextF E s = some e) : stepF E lit s = burnOne lit s e (leadV E s e) := by unfold stepF; rw [h]
theorem run_all {s1 : FireS} {k n : Nat} (h : s = runF E lit k s1) (hk : k ≤ n) (hn : nextF E s = none) : runF E lit n s1 = s := by
 rw [show n = k + (n - k) from by omega, runF_add, ← h]
 exact runF_none hn _
theorem run_congr {lit' : Nat → Nat → Int → Bool} {I : FireS → Prop} (hI : ∀ s e, I s → nextF E s = some e → lit (leadV E s e) e (s.times.getD (leadV E s e) 0) = lit' (leadV E s e) e (s.times.getD (leadV E s e) 0) ∧ I (burnOne lit s e (leadV E s e))) :
  ∀ (k : Nat) (s : FireS), I s → runF E lit k s = runF E lit' k s ∧ I (runF E lit k s)
 | 0, s, h => ⟨rfl, h⟩
 | k + 1, s, h => by
   rw [runF, runF]
   rcases hn : nextF E s with _ | e
   ·have e1 : stepF E lit s = s := by unfold stepF; rw [hn]
    have e2 : stepF E lit' s = s := by unfold stepF; rw [hn]
    rw [e1, e2]
    exact run_congr hI k s h
   ·obtain ⟨h1, h2⟩ := hI s e h hn
    have e1 : stepF E lit' s = stepF E lit s := by
     rw [run_next hn, run_next hn]
     unfold burnOne
     rw [h1]
    rw [e1, run_next hn]
    exact run_congr hI k _ h2
end
end Go.Proofs.YtnbikkcalcpedaaGreatDoor
namespace Go.Proofs.YtnbikkcalcpedaaGreatDoor
open Go.RowKit
theorem iequal_any (A : Option Addr) (c : Nat) (xs : List Int) (B : Option Addr) (d : Nat) (ys : List Int) (hn : xs.length ≤ 1048576) (w : World) (h : Reads w w.heap.size 1 A xs.length (ints xs)) (h' : Reads w w.heap.size 1 B ys.length (ints ys)) :
  Calls Tryz.prog 40 #[.slice A xs.length c, .slice B ys.length d] w fun e w' => e = .returned (.bool (decide (xs = ys))) ∧ Below w.heap.size w w' := by
 by_cases hl : xs.length = ys.length
 ·have HL := Lib.hid hl
  have hb : ((xs.length : Int) != (ys.length : Int)) = false := by simp; omega
  clear hl
  go_enter Tryz.func40, Tryz.ntmps40
  go_wp2
  clear hb
  go_loopw [13] (fun i wr => ∃ k : Nat, k ≤ xs.length ∧ i = .int .i64 k ∧ Below w.heap.size w wr ∧ Hid (xs.take k = ys.take k)) (fun i _ => xs.length - (intOf i).toNat)
  case atStart => exact ⟨0, by omega, rfl, Below.refl _ _, by simp [Hid]⟩
  case round =>
   obtain ⟨k, hk, rfl, hbel, HS⟩ := hrel
   by_cases hlt : k < xs.length
   ·obtain ⟨x, hx⟩ := get_of_lt hlt
    obtain ⟨y, hy⟩ := get_of_lt (xs := ys) (k := k) (by have := HL.out; omega)
    have HX := Lib.hid hx
    have HY := Lib.hid hy
    obtain ⟨b, off, rfl, hb, hcell⟩ := (h.below hbel).at_ (ints_at hx)
    obtain ⟨b', off', rfl, hb', hcell'⟩ := (h'.below hbel).at_ (ints_at hy)
    have hi : (k : Int) < (xs.length : Int) := by omega
    have hi' : (k : Int) < (ys.length : Int) := by have := HL.out; omega
    clear hx hy h h'
    by_cases hxy : x = y
    ·subst hxy
     go_wp2
     go_quiet (fail)
     go_wp2
     go_roundw
     case rel => exact ⟨k + 1, by omega, by go_num, below_drewN hbel _, by rw [Hid, take_snoc HX.out, take_snoc HY.out, HS.out]⟩
     case measure => simp [intOf]; omega
    ·have hbx : (x != y) = true := by simpa using hxy
     go_wp2
     go_quiet (fail)
     go_wp2
     go_ret
     refine ⟨ret_bool ?_, below_drewN hbel _⟩
     have : ¬ xs = ys := fun e => hxy (by have h1 := HX.out; rw [e, HY.out] at h1; injection h1 with h1; exact h1.symm)
     simp [this]
   ·go_wp2
    go_ret
    refine ⟨ret_bool ?_, hbel⟩
    have e : xs = ys := by have h1 := HS.out; rw [show k = xs.length from by omega, List.take_length, HL.out, List.take_length] at h1; exact h1
    simp [e]
 ·have hb : ((xs.length : Int) != (ys.length : Int)) = true := by simp; omega
  go_enter Tryz.func40, Tryz.ntmps40
  go_wp2
  go_ret
  have : ¬ xs = ys := fun e => hl (by rw [e])
  exact ⟨ret_bool (by simp [this]), Below.refl _ _⟩
end Go.Proofs.YtnbikkcalcpedaaGreatDoor
namespace Go.Proofs.YtnbikkcalcpedaaGreatDoor
def valT (v : Int) (e : Int × Int × Int) : Int := if e.1 ≠ e.2.1 ∧ (e.1 = v ∨ e.2.1 = v) then e.2.2 else 0
def valE (es : List (Int × Int × Int)) (v : Int) : Int := (es.map (valT v)).sum
def jnT (l : List Nat) (v : Int) (e : Int × Int × Int) : Int := if e.1 ≠ e.2.1 ∧ ((e.1 = v ∧ e.2.1.toNat ∈ l) ∨ (e.2.1 = v ∧ e.1.toNat ∈ l)) then e.2.2 else 0
def jnE (es : List (Int × Int × Int)) (l : List Nat) (v : Int) : Int := (es.map (jnT l v)).sum
theorem valE_snoc {es : List (Int × Int × Int)} {k : Nat} {e : Int × Int × Int} (h : es[k]? = some e) (v : Int) : valE (es.take (k + 1)) v = valE (es.take k) v + valT v e := by
 rw [List.take_add_one, h]; simp [valE]
theorem jnE_snoc {es : List (Int × Int × Int)} {k : Nat} {e : Int × Int × Int} (h : es[k]? = some e) (l : List Nat) (v : Int) : jnE (es.take (k + 1)) l v = jnE (es.take k) l v + jnT l v e := by
 rw [List.take_add_one, h]; simp [jnE]
theorem valT_bd {n : Int} {e : Int × Int × Int} (h : okE n e) (v : Int) : 0 ≤ valT v e ∧ valT v e ≤ 50 := by
 unfold okE at h; unfold valT; split <;> omega
theorem jnT_bd {n : Int} {e : Int × Int × Int} (h : okE n e) (l : List Nat) (v : Int) : 0 ≤ jnT l v e ∧ jnT l v e ≤ 50 := by
 unfold okE at h; unfold jnT; split <;> omega
theorem valE_bd {n : Int} {es : List (Int × Int × Int)} (h : ∀ e ∈ es, okE n e) (v : Int) : 0 ≤ valE es v ∧ valE es v ≤ 50 * es.length := by
 induction es with
 | nil => simp [valE]
 | cons e es ih =>
   have h1 := ih fun x hx => h x (by simp [hx])
   have h2 := valT_bd (h e (by simp)) v
   simp only [valE, List.map_cons, List.sum_cons, List.length_cons] at *
   omega
theorem jnE_bd {n : Int} {es : List (Int × Int × Int)} (h : ∀ e ∈ es, okE n e) (l : List Nat) (v : Int) : 0 ≤ jnE es l v ∧ jnE es l v ≤ 50 * es.length := by
 induction es with
 | nil => simp [jnE]
 | cons e es ih =>
   have h1 := ih fun x hx => h x (by simp [hx])
   have h2 := jnT_bd (h e (by simp)) l v
   simp only [jnE, List.map_cons, List.sum_cons, List.length_cons] at *
   omega
theorem flmTo_append {n : Int} {es fs : List (Int × Int × Int)} (h : (es ++ fs).Pairwise ltE) (hok : ∀ e ∈ es, okE n e) (l : List Nat) (v k : Nat) : flmTo (es ++ fs) l v k = flmTo es l v k + flmTo fs l v k := by
 induction k with
 | zero => rfl
 | succ k ih =>
   simp only [flmTo]
   rw [ih, tt_append h hok]
   split <;> omega
theorem flmTo_one {n : Nat} {e : Int × Int × Int} (hok : okE n e) (l : List Nat) (v k : Nat) : flmTo [e] l v k = if e.1 ≠ e.2.1 ∧ ((e.1 = v ∧ e.2.1.toNat ∈ l ∧ e.2.1.toNat < k) ∨ (e.2.1 = v ∧ e.1.toNat ∈ l ∧ e.1.toNat < k)) then e.2.2 else 0 := by
 unfold okE at hok
 induction k with
 | zero => simp [flmTo]
 | succ k ih =>
   simp only [flmTo]
   rw [ih]
   have ht : tt [e] v k = if e.1 ≠ e.2.1 ∧ ((e.1 = v ∧ e.2.1.toNat = k) ∨ (e.2.1 = v ∧ e.1.toNat = k)) then e.2.2 else 0 := by
    unfold tt
    rw [btw_cons, btw_nil]
    by_cases hvk : v = k
    ·subst hvk
     rw [if_pos rfl, if_neg (by omega)]
    ·rw [if_neg hvk]
     by_cases h2 : e.1 = min (v : Int) (k : Int) ∧ e.2.1 = max (v : Int) (k : Int)
     ·rw [if_pos h2, if_pos (by omega)]
     ·rw [if_neg h2, if_neg (by omega)]
   rw [ht]
   by_cases hk : k ∈ l
   ·rw [if_pos hk]
    by_cases h1 : e.1 ≠ e.2.1 ∧ ((e.1 = v ∧ e.2.1.toNat ∈ l ∧ e.2.1.toNat < k) ∨ (e.2.1 = v ∧ e.1.toNat ∈ l ∧ e.1.toNat < k))
    ·rw [if_pos h1, if_neg (by omega), if_pos (match h1 with | ⟨h0, .inl ⟨h2, h3, h4⟩⟩ => ⟨h0, .inl ⟨h2, h3, by omega⟩⟩ | ⟨h0, .inr ⟨h2, h3, h4⟩⟩ => ⟨h0, .inr ⟨h2, h3, by omega⟩⟩)]
     omega
    ·rw [if_neg h1]
     by_cases h5 : e.1 ≠ e.2.1 ∧ ((e.1 = v ∧ e.2.1.toNat = k) ∨ (e.2.1 = v ∧ e.1.toNat = k))
     ·rw [if_pos h5, if_pos (match h5 with | ⟨h0, .inl ⟨h2, h3⟩⟩ => ⟨h0, .inl ⟨h2, by rw [h3]; exact hk, by omega⟩⟩ | ⟨h0, .inr ⟨h2, h3⟩⟩ => ⟨h0, .inr ⟨h2, by rw [h3]; exact hk, by omega⟩⟩)]
      omega
     ·rw [if_neg h5, if_neg (fun ⟨h0, h6⟩ => by
       rcases h6 with ⟨h2, h3, h4⟩ | ⟨h2, h3, h4⟩
       ·rcases Nat.lt_or_ge e.2.1.toNat k with h7 | h7
        ·exact h1 ⟨h0, .inl ⟨h2, h3, h7⟩⟩
        ·exact h5 ⟨h0, .inl ⟨h2, by omega⟩⟩
       ·rcases Nat.lt_or_ge e.1.toNat k with h7 | h7
        ·exact h1 ⟨h0, .inr ⟨h2, h3, h7⟩⟩
        ·exact h5 ⟨h0, .inr ⟨h2, by omega⟩⟩)]
      omega
   ·rw [if_neg hk]
    have : (e.1 ≠ e.2.1 ∧ ((e.1 = v ∧ e.2.1.toNat ∈ l ∧ e.2.1.toNat < k + 1) ∨ (e.2.1 = v ∧ e.1.toNat ∈ l ∧ e.1.toNat < k + 1))) ↔ (e.1 ≠ e.2.1 ∧ ((e.1 = v ∧ e.2.1.toNat ∈ l ∧ e.2.1.toNat < k) ∨ (e.2.1 = v ∧ e.1.toNat ∈ l ∧ e.1.toNat < k))) := by
     constructor
     ·rintro ⟨h0, ⟨h2, h3, h4⟩ | ⟨h2, h3, h4⟩⟩
      ·refine ⟨h0, .inl ⟨h2, h3, ?_⟩⟩
       rcases Nat.lt_or_ge e.2.1.toNat k with h7 | h7
       ·exact h7
       ·rw [show e.2.1.toNat = k by omega] at h3; exact absurd h3 hk
      ·refine ⟨h0, .inr ⟨h2, h3, ?_⟩⟩
       rcases Nat.lt_or_ge e.1.toNat k with h7 | h7
       ·exact h7
       ·rw [show e.1.toNat = k by omega] at h3; exact absurd h3 hk
     ·rintro ⟨h0, ⟨h2, h3, h4⟩ | ⟨h2, h3, h4⟩⟩
      ·exact ⟨h0, .inl ⟨h2, h3, by omega⟩⟩
      ·exact ⟨h0, .inr ⟨h2, h3, by omega⟩⟩
    simp only [this]
    omega
theorem jnE_flm {n : Nat} {es : List (Int × Int × Int)} (h : RightG n es) (l : List Nat) (v : Nat) : jnE es l v = flmTo es l v n := by
 have hs := h.sorted
 have hok := h.ok
 clear h
 induction es using snocRec with
 | h0 =>
   have : ∀ k, flmTo [] l v k = 0 := fun k => by
    induction k with
    | zero => rfl
    | succ k ih => simp only [flmTo]; rw [ih]; simp [tt, btw]
   rw [this]; rfl
 | h1 es e ih =>
   have hs1 : es.Pairwise ltE := (List.pairwise_append.1 hs).1
   have ho1 : ∀ x ∈ es, okE n x := fun x hx => hok x (by simp [hx])
   have hoe := hok e (by simp)
   rw [flmTo_append hs ho1, ← ih hs1 ho1, flmTo_one hoe]
   unfold jnE
   rw [List.map_append, List.sum_append]
   simp only [List.map_cons, List.map_nil, List.sum_cons, List.sum_nil, Int.add_zero]
   congr 1
   unfold jnT
   unfold okE at hoe
   have : (e.1 ≠ e.2.1 ∧ ((e.1 = (v : Int) ∧ e.2.1.toNat ∈ l) ∨ (e.2.1 = (v : Int) ∧ e.1.toNat ∈ l))) ↔ (e.1 ≠ e.2.1 ∧ ((e.1 = (v : Int) ∧ e.2.1.toNat ∈ l ∧ e.2.1.toNat < n) ∨ (e.2.1 = (v : Int) ∧ e.1.toNat ∈ l ∧ e.1.toNat < n))) := by
    constructor
    ·rintro ⟨h0, ⟨h2, h3⟩ | ⟨h2, h3⟩⟩
     ·exact ⟨h0, .inl ⟨h2, h3, by omega⟩⟩
     ·exact ⟨h0, .inr ⟨h2, h3, by omega⟩⟩
    ·rintro ⟨h0, ⟨h2, h3, _⟩ | ⟨h2, h3, _⟩⟩
     ·exact ⟨h0, .inl ⟨h2, h3⟩⟩
     ·exact ⟨h0, .inr ⟨h2, h3⟩⟩
   simp only [this]
theorem valE_jn {n : Nat} {es : List (Int × Int × Int)} (hok : ∀ e ∈ es, okE n e) (v : Int) : valE es v = jnE es (List.range n) v := by
 induction es with
 | nil => rfl
 | cons e es ih =>
   have h1 := ih fun x hx => hok x (by simp [hx])
   have h2 := hok e (by simp)
   unfold okE at h2
   unfold valE jnE at *
   simp only [List.map_cons, List.sum_cons]
   rw [h1]
   congr 1
   unfold valT jnT
   have : (e.1 ≠ e.2.1 ∧ (e.1 = v ∨ e.2.1 = v)) ↔ (e.1 ≠ e.2.1 ∧ ((e.1 = v ∧ e.2.1.toNat ∈ List.range n) ∨ (e.2.1 = v ∧ e.1.toNat ∈ List.range n))) := by
    simp only [List.mem_range]
    constructor
    ·rintro ⟨h0, h | h⟩
     ·exact ⟨h0, .inl ⟨h, by omega⟩⟩
     ·exact ⟨h0, .inr ⟨h, by omega⟩⟩
    ·rintro ⟨h0, ⟨h, _⟩ | ⟨h, _⟩⟩
     ·exact ⟨h0, .inl h⟩
     ·exact ⟨h0, .inr h⟩
   simp only [this]
end Go.Proofs.YtnbikkcalcpedaaGreatDoor
