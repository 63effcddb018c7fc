/-
  Texts of this claim, put together: FireT, For.
-/
import Derived.Test.YtghigdcpinengaaGreatK05
import Derived.Test.YtghigdcpinengaaGreatRows
import Derived.Test.YtghigdcpinengaaGreatK04
import Derived.Laws.ResultCell
import Derived.Deep.RegionHeld3
/-! Burning single edges in order: what has burnt, step by step, as the reference says it; the program's waiting list comes to the same. No program is in sight. -/
namespace Go.Proofs.YtghigdcpinengaaGreat

/-- What has burnt. -/
structure FireS where
  steps : List Nat
  order : List Nat
  tree : List Nat
  times : List Int
/-- A single edge with just one end burnt, that has not burnt itself. -/
def candB (E : List (Nat × Nat)) (s : FireS) (e : Nat) : Bool := !decide (e ∈ s.steps) && !(decide ((E.getD e (0, 0)).1 ∈ s.order) == decide ((E.getD e (0, 0)).2 ∈ s.order))
def nextF (E : List (Nat × Nat)) (s : FireS) : Option Nat := (List.range E.length).find? (candB E s)
/-- The end that is not burnt. -/
def leadV (E : List (Nat × Nat)) (s : FireS) (e : Nat) : Nat := if (E.getD e (0, 0)).1 ∈ s.order then (E.getD e (0, 0)).2 else (E.getD e (0, 0)).1
def burnOne (lit : Nat → Nat → Int → Bool) (s : FireS) (e v : Nat) : FireS :=
  if lit v e (s.times.getD v 0) = true then { steps := s.steps ++ [e], order := s.order ++ [v], tree := s.tree ++ [e], times := s.times }
  else { steps := s.steps ++ [e], order := s.order, tree := s.tree, times := s.times.set v (s.times.getD v 0 + 1) }
def stepF (E : List (Nat × Nat)) (lit : Nat → Nat → Int → Bool) (s : FireS) : FireS :=
  match nextF E s with
  | none => s
  | some e => burnOne lit s e (leadV E s e)
def runF (E : List (Nat × Nat)) (lit : Nat → Nat → Int → Bool) : Nat → FireS → FireS
  | 0, s => s
  | k + 1, s => runF E lit k (stepF E lit s)
section
variable {E : List (Nat × Nat)} {lit : Nat → Nat → Int → Bool} {s : FireS} {e v : Nat}
theorem runF_none (h : nextF E s = none) : ∀ k, runF E lit k s = s
  | 0 => rfl
  | k + 1 => by rw [runF, stepF, h]; exact runF_none h k
theorem runF_succ : ∀ (k : Nat) (s : FireS), runF E lit (k + 1) s = stepF E lit (runF E lit k s)
  | 0, s => rfl
  | k + 1, s => by rw [runF, runF_succ k, runF]
theorem cand_iff : candB E s e = true ↔ e ∉ s.steps ∧ ¬ ((E.getD e (0, 0)).1 ∈ s.order ↔ (E.getD e (0, 0)).2 ∈ s.order) := by
  unfold candB
  rw [Bool.and_eq_true, Bool.not_eq_true', decide_eq_false_iff_not, Bool.not_eq_true', beq_eq_false_iff_ne]
  refine and_congr Iff.rfl ⟨fun h hc => h ?_, fun h hc => h ?_⟩
  · rw [Bool.eq_iff_iff, decide_eq_true_eq, decide_eq_true_eq]; exact hc
  · rw [Bool.eq_iff_iff, decide_eq_true_eq, decide_eq_true_eq] at hc; exact hc
theorem lead_new (h : candB E s e = true) : leadV E s e ∉ s.order := by
  obtain ⟨_, h2⟩ := cand_iff.1 h
  unfold leadV
  by_cases h3 : (E.getD e (0, 0)).1 ∈ s.order
  · rw [if_pos h3]; exact fun h4 => h2 ⟨fun _ => h4, fun _ => h3⟩
  · rw [if_neg h3]; exact h3
theorem next_some (h : nextF E s = some e) : e < E.length ∧ candB E s e = true ∧ ∀ f, f < e → candB E s f = false := by
  unfold nextF at h
  have h1 := List.find?_some h
  have h2 := List.mem_of_find?_eq_some h
  refine ⟨List.mem_range.1 h2, h1, fun f hf => ?_⟩
  obtain ⟨_, l1, l2, h3, h4⟩ := List.find?_eq_some_iff_append.1 h
  have hfm : f ∈ l1 := by
    have hlen : l1.length = e := by
      have := congrArg (fun l => l[l1.length]?) h3
      simp only [List.getElem?_append_right (Nat.le_refl _), Nat.sub_self] at this
      rw [List.getElem?_cons_zero] at this
      have hlt : l1.length < E.length := by
        have := congrArg List.length h3
        simp at this; omega
      rw [List.getElem?_range hlt] at this
      injection this
    have h5 : (List.range E.length)[f]? = some f := by rw [List.getElem?_range]; have := List.mem_range.1 h2; omega
    rw [h3, List.getElem?_append_left (by omega)] at h5
    exact List.mem_of_getElem? h5
  have := h4 f hfm
  simpa using this
theorem next_none (h : nextF E s = none) : ∀ e, e < E.length → candB E s e = false := by
  intro e he
  unfold nextF at h
  rw [List.find?_eq_none] at h
  have := h e (List.mem_range.2 he)
  simpa using this
theorem next_least (he : e < E.length) (hc : candB E s e = true) (hm : ∀ f, f < e → candB E s f = false) : nextF E s = some e := by
  rcases hn : nextF E s with _ | f
  · rw [next_none hn e he] at hc; cases hc
  · obtain ⟨h1, h2, h3⟩ := next_some hn
    rcases Nat.lt_trichotomy e f with h | h | h
    · rw [h3 e h] at hc; cases hc
    · rw [h]
    · rw [hm f h] at h2; cases h2
/-- What holds of all that has burnt so far. -/
structure FireOk (E : List (Nat × Nat)) (s : FireS) : Prop where
  nodup : s.steps.Nodup
  lt : ∀ e ∈ s.steps, e < E.length
  ends : ∀ e ∈ s.steps, (E.getD e (0, 0)).1 ∈ s.order ∨ (E.getD e (0, 0)).2 ∈ s.order
theorem cand_end (h : candB E s e = true) : (E.getD e (0, 0)).1 ∈ s.order ∨ (E.getD e (0, 0)).2 ∈ s.order := by
  obtain ⟨_, h2⟩ := cand_iff.1 h
  by_cases h3 : (E.getD e (0, 0)).1 ∈ s.order
  · exact .inl h3
  · by_cases h4 : (E.getD e (0, 0)).2 ∈ s.order
    · exact .inr h4
    · exact absurd ⟨fun h => absurd h h3, fun h => absurd h h4⟩ h2
theorem FireOk.one (h : FireOk E s) (he : e < E.length) (hc : candB E s e = true) : FireOk E (burnOne lit s e v) := by
  have hn := (cand_iff.1 hc).1
  have hnd : (s.steps ++ [e]).Nodup := by
    rw [List.nodup_append]
    exact ⟨h.nodup, by simp, fun a ha b hb => by rw [List.mem_singleton] at hb; subst hb; exact fun h => hn (h ▸ ha)⟩
  have hlt : ∀ f ∈ s.steps ++ [e], f < E.length := fun f hf => by
    rcases List.mem_append.1 hf with hf | hf
    · exact h.lt f hf
    · rw [List.mem_singleton] at hf; exact hf ▸ he
  have hen : ∀ f ∈ s.steps ++ [e], (E.getD f (0, 0)).1 ∈ s.order ∨ (E.getD f (0, 0)).2 ∈ s.order := fun f hf => by
    rcases List.mem_append.1 hf with hf | hf
    · exact h.ends f hf
    · rw [List.mem_singleton] at hf; rw [hf]; exact cand_end hc
  unfold burnOne
  split
  · exact ⟨hnd, hlt, fun f hf => (hen f hf).imp (fun h => List.mem_append_left _ h) (fun h => List.mem_append_left _ h)⟩
  · exact ⟨hnd, hlt, hen⟩
theorem steps_len (h : FireOk E s) : s.steps.length ≤ E.length := by
  have := nodup_sub_le h.nodup (m := List.range E.length) (fun x hx => List.mem_range.2 (h.lt x hx))
  simpa using this
/-- The waiting list of the program beside what has burnt. -/
structure Wait (E : List (Nat × Nat)) (s : FireS) (H : List Nat) : Prop where
  ok : FireOk E s
  nodup : H.Nodup
  lt : ∀ e ∈ H, e < E.length
  new : ∀ e ∈ H, e ∉ s.steps
  ends : ∀ e ∈ H, (E.getD e (0, 0)).1 ∈ s.order ∨ (E.getD e (0, 0)).2 ∈ s.order
  all : ∀ e, e < E.length → candB E s e = true → e ∈ H
/-- The least one that waits: burnt on both ends, or it is next. -/
theorem Wait.least {H : List Nat} (h : Wait E s H) (he : e ∈ H) (hm : ∀ f ∈ H, e ≤ f) :
    ((E.getD e (0, 0)).1 ∈ s.order ∧ (E.getD e (0, 0)).2 ∈ s.order ∧ candB E s e = false) ∨ (nextF E s = some e) := by
  by_cases hc : candB E s e = true
  · refine .inr (next_least (h.lt e he) hc fun f hf => ?_)
    cases hcf : candB E s f
    · rfl
    · have := hm f (h.all f (Nat.lt_trans hf (h.lt e he)) hcf)
      omega
  · have hc' : candB E s e = false := by simpa using hc
    have h2 : (E.getD e (0, 0)).1 ∈ s.order ↔ (E.getD e (0, 0)).2 ∈ s.order := Classical.byContradiction fun hx => hc (cand_iff.2 ⟨h.new e he, hx⟩)
    rcases h.ends e he with h3 | h3
    · exact .inl ⟨h3, h2.1 h3, hc'⟩
    · exact .inl ⟨h2.2 h3, h3, hc'⟩
theorem Wait.stale {H H' : List Nat} (h : Wait E s H) (hp : (e :: H').Perm H) (hc : candB E s e = false) : Wait E s H' := by
  have hn := hp.nodup_iff.2 h.nodup
  rw [List.nodup_cons] at hn
  refine ⟨h.ok, hn.2, fun f hf => h.lt f (hp.mem_iff.1 (by simp [hf])), fun f hf => h.new f (hp.mem_iff.1 (by simp [hf])), fun f hf => h.ends f (hp.mem_iff.1 (by simp [hf])), fun f hf hcf => ?_⟩
  rcases List.mem_cons.1 (hp.mem_iff.2 (h.all f hf hcf)) with rfl | h1
  · rw [hc] at hcf; cases hcf
  · exact h1
/-- A step that lights nothing. -/
theorem Wait.dark {H H' : List Nat} (h : Wait E s H) (hp : (e :: H').Perm H) (hc : candB E s e = true) (hl : lit v e (s.times.getD v 0) = false) : Wait E (burnOne lit s e v) H' := by
  have hn := hp.nodup_iff.2 h.nodup
  rw [List.nodup_cons] at hn
  have hel := h.lt e (hp.mem_iff.1 (by simp))
  have hb : burnOne lit s e v = { steps := s.steps ++ [e], order := s.order, tree := s.tree, times := s.times.set v (s.times.getD v 0 + 1) } := by unfold burnOne; rw [hl, if_neg (by decide)]
  have hok := h.ok.one (lit := lit) (v := v) hel hc
  rw [hb] at hok ⊢
  refine ⟨hok, hn.2, fun f hf => h.lt f (hp.mem_iff.1 (by simp [hf])), fun f hf => ?_, fun f hf => h.ends f (hp.mem_iff.1 (by simp [hf])), fun f hf hcf => ?_⟩
  · intro h1
    rcases List.mem_append.1 h1 with h1 | h1
    · exact h.new f (hp.mem_iff.1 (by simp [hf])) h1
    · rw [List.mem_singleton] at h1; subst h1; exact hn.1 hf
  · obtain ⟨c1, c2⟩ := cand_iff.1 hcf
    have hcf' : candB E s f = true := cand_iff.2 ⟨fun h => c1 (List.mem_append_left _ h), c2⟩
    rcases List.mem_cons.1 (hp.mem_iff.2 (h.all f hf hcf')) with rfl | h1
    · exact absurd (by simp) c1
    · exact h1
/-- The single edges from a vertex to vertices that are not burnt. -/
def newL (E : List (Nat × Nat)) (order : List Nat) (v : Nat) (k : Nat) : List Nat := (List.range k).filter fun e => decide ((E.getD e (0, 0)).1 ≠ (E.getD e (0, 0)).2) && (decide ((E.getD e (0, 0)).1 = v) || decide ((E.getD e (0, 0)).2 = v)) && !decide ((E.getD e (0, 0)).1 + (E.getD e (0, 0)).2 - v ∈ order)
theorem mem_new {order : List Nat} {k : Nat} : e ∈ newL E order v k ↔ e < k ∧ (E.getD e (0, 0)).1 ≠ (E.getD e (0, 0)).2 ∧ ((E.getD e (0, 0)).1 = v ∨ (E.getD e (0, 0)).2 = v) ∧ (E.getD e (0, 0)).1 + (E.getD e (0, 0)).2 - v ∉ order := by
  unfold newL
  rw [List.mem_filter, List.mem_range, Bool.and_eq_true, Bool.and_eq_true, Bool.or_eq_true, decide_eq_true_eq, decide_eq_true_eq, decide_eq_true_eq, Bool.not_eq_true', decide_eq_false_iff_not]
  constructor
  · rintro ⟨h1, ⟨h2, h3⟩, h4⟩; exact ⟨h1, h2, h3, h4⟩
  · rintro ⟨h1, h2, h3, h4⟩; exact ⟨h1, ⟨h2, h3⟩, h4⟩
/-- Taking a vertex that is not burnt: what waits behind it. -/
theorem Wait.take {s2 : FireS} {H H' : List Nat} (hs : s2.steps = s.steps) (ho : s2.order = s.order ++ [v]) (hok : FireOk E s2) (hv : v ∉ s.order) (hn : H.Nodup) (hlt : ∀ e ∈ H, e < E.length) (hnew : ∀ e ∈ H, e ∉ s.steps) (hends : ∀ e ∈ H, (E.getD e (0, 0)).1 ∈ s.order ∨ (E.getD e (0, 0)).2 ∈ s.order)
    (hall : ∀ e, e < E.length → candB E s e = true → e ∈ H) (hso : ∀ e ∈ s.steps, (E.getD e (0, 0)).1 ∈ s.order ∨ (E.getD e (0, 0)).2 ∈ s.order)
    (hp : H'.Perm (H ++ newL E (s.order ++ [v]) v E.length)) : Wait E s2 H' := by
  have hout : ∀ e, e ∈ newL E (s.order ++ [v]) v E.length → ¬ ((E.getD e (0, 0)).1 ∈ s.order ∨ (E.getD e (0, 0)).2 ∈ s.order) := by
    intro e he
    obtain ⟨_, h2, h3, h4⟩ := mem_new.1 he
    rw [List.mem_append, List.mem_singleton] at h4
    rintro (h5 | h5)
    · rcases h3 with h3 | h3
      · exact hv (h3 ▸ h5)
      · refine h4 (.inl ?_)
        rw [h3, Nat.add_sub_cancel]; exact h5
    · rcases h3 with h3 | h3
      · refine h4 (.inl ?_)
        rw [h3, Nat.add_sub_cancel_left]; exact h5
      · exact hv (h3 ▸ h5)
  have hmem : ∀ e, e ∈ H' ↔ e ∈ H ∨ e ∈ newL E (s.order ++ [v]) v E.length := fun e => by rw [hp.mem_iff, List.mem_append]
  refine ⟨hok, hp.nodup_iff.2 ?_, fun e he => ?_, fun e he => ?_, fun e he => ?_, fun e he hc => ?_⟩
  · rw [List.nodup_append]
    exact ⟨hn, List.nodup_range.sublist List.filter_sublist, fun a ha b hb hab => by subst hab; exact hout a hb (hends a ha)⟩
  · rcases (hmem e).1 he with h1 | h1
    · exact hlt e h1
    · exact (mem_new.1 h1).1
  · rw [hs]
    rcases (hmem e).1 he with h1 | h1
    · exact hnew e h1
    · exact fun h2 => hout e h1 (hso e h2)
  · rw [ho]
    rcases (hmem e).1 he with h1 | h1
    · exact (hends e h1).imp (fun h => List.mem_append_left _ h) (fun h => List.mem_append_left _ h)
    · rcases (mem_new.1 h1).2.2.1 with h2 | h2
      · exact .inl (by rw [h2]; simp)
      · exact .inr (by rw [h2]; simp)
  · rw [hmem]
    obtain ⟨c1, c2⟩ := cand_iff.1 hc
    rw [hs] at c1
    rw [ho] at c2
    by_cases hcs : candB E s e = true
    · exact .inl (hall e he hcs)
    · have h2 : (E.getD e (0, 0)).1 ∈ s.order ↔ (E.getD e (0, 0)).2 ∈ s.order := Classical.byContradiction fun hx => hcs (cand_iff.2 ⟨c1, hx⟩)
      simp only [List.mem_append, List.mem_singleton] at c2
      refine .inr (mem_new.2 ⟨he, ?_, ?_, ?_⟩)
      · intro h3; rw [h3] at c2; exact c2 Iff.rfl
      · refine Classical.byContradiction fun h3 => c2 ?_
        rw [not_or] at h3
        exact ⟨fun h => h.elim (fun h => .inl (h2.1 h)) (fun h => absurd h h3.1), fun h => h.elim (fun h => .inl (h2.2 h)) (fun h => absurd h h3.2)⟩
      · intro h4
        rw [List.mem_append, List.mem_singleton] at h4
        refine c2 ?_
        obtain ⟨⟨a, b⟩, hab⟩ : ∃ z, E.getD e (0, 0) = z := ⟨_, rfl⟩
        rw [hab] at h2 h4 ⊢
        dsimp only at h2 h4 ⊢
        by_cases ha : a = v
        · subst ha
          rw [Nat.add_sub_cancel_left] at h4
          exact ⟨fun _ => h4, fun _ => .inr rfl⟩
        · by_cases hb : b = v
          · subst hb
            rw [Nat.add_sub_cancel] at h4
            exact ⟨fun _ => .inr rfl, fun _ => h4⟩
          · exact ⟨fun h => h.elim (fun h => .inl (h2.1 h)) (fun h => absurd h ha), fun h => h.elim (fun h => .inl (h2.2 h)) (fun h => absurd h hb)⟩
theorem Wait.end_ (h : Wait E s []) : nextF E s = none := by
  rcases hn : nextF E s with _ | e
  · rfl
  · obtain ⟨h1, h2, _⟩ := next_some hn
    exact absurd (h.all e h1 h2) (by simp)
theorem runF_add : ∀ (a b : Nat) (s : FireS), runF E lit (a + b) s = runF E lit b (runF E lit a s)
  | 0, b, s => by rw [Nat.zero_add]; rfl
  | a + 1, b, s => by rw [show a + 1 + b = (a + b) + 1 from by omega, runF, runF_add a b, runF]
theorem one_steps : (burnOne lit s e v).steps = s.steps ++ [e] := by unfold burnOne; split <;> rfl
theorem run_next (h : nextF E s = some e) : stepF E lit s = burnOne lit s e (leadV E s e) := by unfold stepF; rw [h]
/-- Where nothing burns any more, all rounds have been. -/
theorem run_all {s1 : FireS} {k n : Nat} (h : s = runF E lit k s1) (hk : k ≤ n) (hn : nextF E s = none) : runF E lit n s1 = s := by
  rw [show n = k + (n - k) from by omega, runF_add, ← h]
  exact runF_none hn _
/-- Two ways to say what lights come to the same, if they agree in all that comes up. -/
theorem run_congr {lit' : Nat → Nat → Int → Bool} {I : FireS → Prop} (hI : ∀ s e, I s → nextF E s = some e → lit (leadV E s e) e (s.times.getD (leadV E s e) 0) = lit' (leadV E s e) e (s.times.getD (leadV E s e) 0) ∧ I (burnOne lit s e (leadV E s e))) :
    ∀ (k : Nat) (s : FireS), I s → runF E lit k s = runF E lit' k s ∧ I (runF E lit k s)
  | 0, s, h => ⟨rfl, h⟩
  | k + 1, s, h => by
    rw [runF, runF]
    rcases hn : nextF E s with _ | e
    · have e1 : stepF E lit s = s := by unfold stepF; rw [hn]
      have e2 : stepF E lit' s = s := by unfold stepF; rw [hn]
      rw [e1, e2]
      exact run_congr hI k s h
    · obtain ⟨h1, h2⟩ := hI s e h hn
      have e1 : stepF E lit' s = stepF E lit s := by
        rw [run_next hn, run_next hn]
        unfold burnOne
        rw [h1]
      rw [e1, run_next hn]
      exact run_congr hI k _ h2
end
end Go.Proofs.YtghigdcpinengaaGreat

/-! Package tree: the forest of joined vertices. -/
namespace Go.Proofs.YtghigdcpinengaaGreat
open Go.RowKit

set_option maxHeartbeats 1000000 in
theorem troot_any (g : Nat) (ps : List (Nat × Nat)) (f : List Nat) (r h : Nat → Nat) (k : Rp ps f r h) (v : Nat) (hv : v < 12) (w : World) (hb : Blk w g 138 (fcells f)) :
    Calls Tryz.prog 130 #[.pointer (some ⟨g, 0, none⟩), .int .i64 v] w fun e w' => e = .returned (.int .i64 (r v : Nat)) ∧ w = w' := by
  have HK := Lib.hid k
  obtain ⟨x, hx⟩ : ∃ x, r v = x := ⟨_, rfl⟩
  rw [hx]
  have HX := Lib.hid hx
  clear hx k
  go_enter Tryz.func130, Tryz.ntmps130
  go_wp2
  go_loop [1] (fun i => ∃ u : Nat, u < 12 ∧ i = .int .i64 u ∧ Hid (r u = x)) (fun i => h (intOf i).toNat)
  case atStart => exact ⟨v, hv, rfl, HX⟩
  case round =>
    obtain ⟨u, hu, rfl, HU⟩ := hrel
    have hc := hb.cell u
    rw [fcells_get (by rw [HK.out.len]; omega)] at hc
    have hl := HK.out.lt u hu
    have hf := HK.out.fix u hu
    have hs := HK.out.step u hu
    obtain ⟨y, hy⟩ : ∃ y, f.getD u 0 = y := ⟨_, rfl⟩
    rw [hy] at hc hl hf hs
    have hu' : (u : Int) < 12 := by omega
    clear hy
    by_cases hyu : y = u
    · have HE := Lib.hid ((hf hyu).symm.trans HU.out)
      have hbq : ((y : Int) != (u : Int)) = false := by simp; omega
      clear hf hs hyu
      go_wp2
      go_ret
      exact ⟨ret_int (by rw [HE.out]), rfl⟩
    · obtain ⟨s1, s2⟩ := hs hyu
      have HE := Lib.hid (s2.trans HU.out)
      have HM := Lib.hid s1
      have hbq : ((y : Int) != (u : Int)) = true := by simp; omega
      clear hf s1 s2 hyu hs
      go_wp2
      go_round
      case rel => exact ⟨y, hl, rfl, HE⟩
      case measure => simp only [intOf, Int.toNat_natCast]; exact HM.out

theorem h_set_fcells {w : World} {g : Nat} {t : TypeId} {f : List Nat} (h : Blk w g t (fcells f)) (x y : Nat) : Blk (w.setCell ⟨g, x, none⟩ (.int .i64 (y : Nat))) g t (fcells (f.set x y)) := by
  rw [← fcells_set]; exact h.set_ x _
set_option maxRecDepth 100000 in
set_option maxHeartbeats 2000000 in
theorem tjoin_any (g : Nat) (ps : List (Nat × Nat)) (f : List Nat) (hf : FR ps f) (a b : Nat) (ha : a < 12) (hb : b < 12) (w : World) (h : Blk w g 138 (fcells f)) :
    Calls Tryz.prog 105 #[.pointer (some ⟨g, 0, none⟩), .agg #[.int .i64 a, .int .i64 b]] w fun e w' => e = .returned (.bool (!decide (Cn ps a b))) ∧ ∃ f', Hid (FR (ps ++ [(a, b)]) f') ∧ Blk w' g 138 (fcells f') ∧ Only (fun k => k = g) w w' := by
  obtain ⟨r, hh, k⟩ := hf
  have HK := Lib.hid k
  have l1 := (k.root a ha).1
  have l2 := (k.root b hb).1
  have HS := Lib.hid (k.same a b ha hb)
  have HF := Lib.hid (k.snoc ha hb)
  have hb0 := h.alloc (.cells #[.int .i64 a, .int .i64 b] 63)
  have hne : g ≠ w.heap.size := by have := h.lt; omega
  have q0 := Blk.new w 63 #[.int .i64 a, .int .i64 b]
  have R1 := Lib.hid (fun W hW => troot_any g ps f r hh k a ha W hW)
  have R2 := Lib.hid (fun W hW => troot_any g ps f r hh k b hb W hW)
  obtain ⟨x, hx⟩ : ∃ x, r a = x := ⟨_, rfl⟩
  obtain ⟨y, hy⟩ : ∃ y, r b = y := ⟨_, rfl⟩
  rw [hx] at R1 l1 HS HF
  rw [hy] at R2 l2 HS HF
  have k1 : (x : Int) < 12 := by omega
  have F1 := hb0.frozen x
  have C1 := hb0.cell x
  rw [fcells_get (by rw [HK.out.len]; omega)] at C1
  have c0 := q0.cell 0
  have c1 := q0.cell 1
  have ho : Only (fun k => k = g) w (w.alloc (.cells #[.int .i64 a, .int .i64 b] 63)) := (Only.refl _ w).alloc _
  obtain ⟨W0, hW0⟩ : ∃ W0, w.alloc (.cells #[.int .i64 a, .int .i64 b] 63) = W0 := ⟨_, rfl⟩
  rw [hW0] at hb0 F1 C1 c0 c1 ho
  have HW0 := Lib.hid hW0
  clear hx hy k h q0 hW0
  go_enter Tryz.func105, Tryz.ntmps105
  go_wp2_with fail
  rw [HW0.out]
  have hD := hb0.drew
  go_region_held3 (fun W => W.cell? ⟨w.heap.size, 0, none⟩ = some (.int .i64 a) ∧ W.cell? ⟨w.heap.size, 1, none⟩ = some (.int .i64 b)) (go_keep) (first
    | (go_at_call 130; (with_reducible refine (R1.out _ (by exact hD)).mono ?_); rintro e w5 ⟨rfl, rfl⟩)
    | (go_at_call 130; (with_reducible refine (R2.out _ (by exact hD)).mono ?_); rintro e w5 ⟨rfl, rfl⟩))
  have hS := h_set_fcells hD x y
  have hO : Only (fun k => k = g) w (W0.drew.setCell ⟨g, x, none⟩ (.int .i64 (y : Nat))) := (ho.drew).setCell (.inl rfl) _
  have hbq : ((x : Int) != (y : Int)) = !decide (Cn ps a b) := by
    by_cases hxy : x = y
    · rw [decide_eq_true (HS.out.1 hxy), hxy]; simp
    · rw [decide_eq_false (fun hc => hxy (HS.out.2 hc)), bne_iff_ne.2 (by omega)]; rfl
  have HB := Lib.hid hbq
  have HSS := Lib.hid hS
  have HOO := Lib.hid hO
  clear hbq hS hO
  go_wp2
  go_ret
  exact ⟨ret_bool HB.out, _, HF, HSS.out, HOO.out⟩
def looseTo (k : Nat) : List Nat := (List.range 12).map fun i => if i < k then i else 0
theorem looseTo_succ {k : Nat} (h : k < 12) : (looseTo k).set k k = looseTo (k + 1) := by
  have : ∀ k, k < 12 → (looseTo k).set k k = looseTo (k + 1) := by decide
  exact this k h
theorem looseTo_length (k : Nat) : (looseTo k).length = 12 := by simp [looseTo]
set_option maxRecDepth 100000 in
set_option maxHeartbeats 1000000 in
theorem loose_any (w : World) :
    Calls Tryz.prog 104 #[] w fun e w' => e = .returned (.agg #[.int .i64 0, .int .i64 1, .int .i64 2, .int .i64 3, .int .i64 4, .int .i64 5, .int .i64 6, .int .i64 7, .int .i64 8, .int .i64 9, .int .i64 10, .int .i64 11]) ∧ Below w.heap.size w w' := by
  go_enter Tryz.func104, Tryz.ntmps104
  go_wp2
  go_loopw [2, 3] (fun _ i wr => ∃ k : Nat, k ≤ 12 ∧ i = .int .i64 k ∧ Below w.heap.size w wr ∧ Blk wr (w.heap.size + 1) 138 (fcells (looseTo k)) ∧ Blk wr w.heap.size 138 (fcells (looseTo 0))) (fun _ i _ => 12 - (intOf i).toNat)
  case atStart =>
    refine ⟨0, by omega, rfl, ((Below.refl _ _).alloc (Nat.le_refl _) _).alloc (by simp) _, ?_, (Blk.new w 138 (fcells (looseTo 0))).alloc _⟩
    have := Blk.new (w.alloc (.cells (fcells (looseTo 0)) 138)) 138 (fcells (looseTo 0))
    rw [show (w.alloc (.cells (fcells (looseTo 0)) 138)).heap.size = w.heap.size + 1 from by simp] at this
    exact this
  case round =>
    obtain ⟨k, hk, rfl, hbel, g1, g0⟩ := hrel
    by_cases hlt : k < 12
    · have hi : (k : Int) < 12 := by omega
      have f1 := g1.frozen k
      have c1 := g1.cell k
      rw [fcells_get (by rw [looseTo_length]; omega)] at c1
      go_wp2
      go_roundw
      case rel =>
        refine ⟨k + 1, by omega, by go_num, hbel.setCell (by simp) _, ?_, g0.far (by simp) _⟩
        have := g1.set_ k (.int .i64 (k : Nat))
        rwa [fcells_set, looseTo_succ hlt] at this
      case measure => simp [intOf]; omega
    · obtain rfl : k = 12 := by omega
      have e : fcells (looseTo 12) = #[.int .i64 0, .int .i64 1, .int .i64 2, .int .i64 3, .int .i64 4, .int .i64 5, .int .i64 6, .int .i64 7, .int .i64 8, .int .i64 9, .int .i64 10, .int .i64 11] := rfl
      have e0 : fcells (looseTo 0) = #[.int .i64 0, .int .i64 0, .int .i64 0, .int .i64 0, .int .i64 0, .int .i64 0, .int .i64 0, .int .i64 0, .int .i64 0, .int .i64 0, .int .i64 0, .int .i64 0] := rfl
      rw [e] at g1
      rw [e0] at g0
      clear e e0
      have c0 := g1.cell 0
      have z0 := g0.frozen 0
      have y0 := g0.cell 0
      have c1 := g1.cell 1
      have z1 := g0.frozen 1
      have y1 := g0.cell 1
      have c2 := g1.cell 2
      have z2 := g0.frozen 2
      have y2 := g0.cell 2
      have c3 := g1.cell 3
      have z3 := g0.frozen 3
      have y3 := g0.cell 3
      have c4 := g1.cell 4
      have z4 := g0.frozen 4
      have y4 := g0.cell 4
      have c5 := g1.cell 5
      have z5 := g0.frozen 5
      have y5 := g0.cell 5
      have c6 := g1.cell 6
      have z6 := g0.frozen 6
      have y6 := g0.cell 6
      have c7 := g1.cell 7
      have z7 := g0.frozen 7
      have y7 := g0.cell 7
      have c8 := g1.cell 8
      have z8 := g0.frozen 8
      have y8 := g0.cell 8
      have c9 := g1.cell 9
      have z9 := g0.frozen 9
      have y9 := g0.cell 9
      have c10 := g1.cell 10
      have z10 := g0.frozen 10
      have y10 := g0.cell 10
      have c11 := g1.cell 11
      have z11 := g0.frozen 11
      have y11 := g0.cell 11
      go_wp2
      have G := ((((((((((((g0.set_ 0 (.int .i64 0)).set_ 1 (.int .i64 1)).set_ 2 (.int .i64 2)).set_ 3 (.int .i64 3)).set_ 4 (.int .i64 4)).set_ 5 (.int .i64 5)).set_ 6 (.int .i64 6)).set_ 7 (.int .i64 7)).set_ 8 (.int .i64 8)).set_ 9 (.int .i64 9)).set_ 10 (.int .i64 10)).set_ 11 (.int .i64 11))
      simp only [List.setIfInBounds_toArray, List.set_cons_zero, List.set_cons_succ] at G
      exact bodyPost_ret (results_cell_row rfl _ _ w.heap.size _ (fcells (List.range 12)) _ _ rfl G Tryz.underlying138 rfl (by kernel_rfl)) rfl ⟨rfl, ((((((((((((hbel.setCell (p := ⟨w.heap.size, 0, none⟩) (Nat.le_refl _) _).setCell (p := ⟨w.heap.size, 1, none⟩) (Nat.le_refl _) _).setCell (p := ⟨w.heap.size, 2, none⟩) (Nat.le_refl _) _).setCell (p := ⟨w.heap.size, 3, none⟩) (Nat.le_refl _) _).setCell (p := ⟨w.heap.size, 4, none⟩) (Nat.le_refl _) _).setCell (p := ⟨w.heap.size, 5, none⟩) (Nat.le_refl _) _).setCell (p := ⟨w.heap.size, 6, none⟩) (Nat.le_refl _) _).setCell (p := ⟨w.heap.size, 7, none⟩) (Nat.le_refl _) _).setCell (p := ⟨w.heap.size, 8, none⟩) (Nat.le_refl _) _).setCell (p := ⟨w.heap.size, 9, none⟩) (Nat.le_refl _) _).setCell (p := ⟨w.heap.size, 10, none⟩) (Nat.le_refl _) _).setCell (p := ⟨w.heap.size, 11, none⟩) (Nat.le_refl _) _)⟩
end Go.Proofs.YtghigdcpinengaaGreat

