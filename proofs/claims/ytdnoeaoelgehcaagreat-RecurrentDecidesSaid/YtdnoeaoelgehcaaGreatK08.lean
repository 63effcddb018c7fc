/-
  Texts of this claim, put together: IterF, Val, RJoins.
-/
import Derived.Test.YtdnoeaoelgehcaaGreatK03
import Derived.Test.YtdnoeaoelgehcaaGreatK07
import Derived.Test.YtdnoeaoelgehcaaGreatK06
import Derived.BigQuiet
/-! A range over a function whose iterator turns a block that its caller may look at behind the loop: the protocol of XIter, with a word on the end. -/
namespace Go.Proofs.YtdnoeaoelgehcaaGreat
open Go.RowKit Go.Shelf

/-- AN ITERATOR that ends in a world that fulfils Fin, if no round breaks off. -/
def IterF {α : Type} (P : Program) (g : Nat) (lb : Array Value) (Arg : α → Array Value → (Nat → Prop) → World → Prop) (K M : Nat → Prop) (xs : List α) (Fin : World → Prop) (W0 : World) : Prop :=
  ∀ (l : Nat) (J Jx : List α → (Nat → Prop) → World → Prop) (C : Nat → Prop) (W : World), Later K W0 W → (∀ k, C k → k < W.heap.size ∧ ¬ K k) → Bears W.heap.size M J → Bears W.heap.size M Jx →
    (∀ pre x C W1 args O, pre ++ [x] <+: xs → J pre C W1 → W.heap.size ≤ W1.heap.size → (∀ k, C k → k < W1.heap.size) → (∀ k, O k → ¬ C k ∧ k < W1.heap.size ∧ W.heap.size ≤ k) → Arg x args O W1 → Round P l J Jx pre x C O W1 args) →
    J [] C W →
    Calls P g (#[.func (.yield l) #[] #[]] ++ lb) W fun e W' => (∃ v, e = .returned v) ∧ ∃ C', ((J xs C' W' ∧ Fin W') ∨ ∃ pre, pre <+: xs ∧ Jx pre C' W')

/-- THE LAW: once for both kinds of loops. l: the record; S: the blocks that the entry has laid; W1: the world behind the entry. -/
theorem rangeF_core {α : Type} {F : Fence} {n : Nat} {P : Program} (hF : ∀ f, F.fn f) (hd : F.depth = none) (hcall : ∀ f args w R, Calls P f args w R → CallsIn F (n - 1) P f args w R) (hrl : ∀ l m args W R, YieldAt F m P l args W R → YieldAt Fence.wide 0 P l args W R)
    {g : Operand} {ps : Array Tmp} {assign body : Code} {Q : Exit → Act → World → Prop} {a : Act} {w W1 : World} {l D : Nat} {S : Nat → Prop} {mark : List Deferred}
    (hent : ∀ fn, (Instr.enterLoop fn a.tmps ps assign body F.round).run P w = .ok (l, mark) (W1.putObj l (.loop (recOf fn a.tmps ps assign body D .ready none))))
    (hw1 : Below w.heap.size w W1) (hSl : S l) (hS : ∀ k, S k → w.heap.size ≤ k ∧ k < W1.heap.size)
    {gf : Nat} {lb : Array Value} (hg : a.eval g = .func (.func gf) #[] lb) (eg : ∀ args w, (callFunc gf args).run P w = .ok (.enter gf args) w)
    {Arg : α → Array Value → (Nat → Prop) → World → Prop} {K M : Nat → Prop} {xs : List α} {Fin : World → Prop} (hit : IterF P gf lb Arg K M xs Fin w) (hF0 : ∀ a b, Fin a → Only (fun k => w.heap.size ≤ k) a b → Fin b)
    (hK : ∀ k, K k → k < w.heap.size)
    (C : Nat → Prop) (hC : ∀ k, C k → k < w.heap.size ∧ ¬ K k)
    (I : List α → (Nat → Prop) → World → Prop) (Ix : Code → List α → (Nat → Prop) → World → Prop)
    (hI : Bears w.heap.size M I) (hIx : ∀ c, Bears w.heap.size M (Ix c)) (h0 : I [] C w)
    (hps : ∀ x args O W, Arg x args O W → args.size = ps.size)
    (hround : ∀ (pre : List α) (x : α) (args : Array Value) (C O : Nat → Prop) (W : World), pre ++ [x] <+: xs → I pre C W → w.heap.size ≤ W.heap.size → (∀ k, C k → k < W.heap.size) → (∀ k, O k → ¬ C k ∧ k < W.heap.size ∧ w.heap.size ≤ k) → Arg x args O W → l < W.heap.size → ¬ C l → ¬ O l →
      ∀ T : Act → World → Prop, (∀ a₁ w₁, Only (fun k => C k ∨ O k) W w₁ → (∀ w₂, Only (fun k => k = l) w₁ w₂ → (∃ r, w₂.heap[l]? = some (.loop r) ∧ r.defers = D) → body.wpIn (F.inRound l) (n - 1 - 1) P (RoundEnd I Ix (pre ++ [x]) C O w₂) a₁ w₂) → T a₁ w₁) →
      assign.wpIn (F.inRound l) (n - 1 - 1) P (Exit.then T (fun _ _ _ => False)) { tmps := (ps.zip args).foldl (fun t (p, v) => t.setIfInBounds p v) a.tmps, defers := [] } W)
    (hdone : ∀ (C' : Nat → Prop) (W : World), I xs C' W → Fin W → (∀ k, S k → ¬ C' k) → (∀ k, S k → k ≠ l → W.heap[k]? = W1.heap[k]?) → W1.heap.size ≤ W.heap.size → Q .normal { a with defers := mark ++ a.defers } W)
    (hstop : ∀ (c : Code) (pre : List α) (C' : Nat → Prop) (W : World), pre <+: xs → Ix c pre C' W → (∀ k, S k → ¬ C' k) → (∀ k, S k → k ≠ l → W.heap[k]? = W1.heap[k]?) → W1.heap.size ≤ W.heap.size → c.wpIn F n P Q { a with defers := mark ++ a.defers } W) :
    (Code.rangeFunc g ps assign body).wpIn F n P Q a w := by
  refine wpIn_rangeFunc ?_
  intro fn hfn
  obtain ⟨rec, hrec⟩ : ∃ rec : LoopState → Option Code → Loop, rec = recOf fn a.tmps ps assign body D := ⟨_, rfl⟩
  obtain ⟨W2, hW2⟩ : ∃ W2, W1.putObj l (.loop (rec .ready none)) = W2 := ⟨_, rfl⟩
  have hl1 : l < W1.heap.size := (hS l hSl).2
  have hwl : w.heap.size ≤ l := (hS l hSl).1
  have hL2 : W2.heap[l]? = some (.loop (rec .ready none)) := by rw [← hW2]; exact World.putObj_heap_same hl1
  have hs2 : W2.heap.size = W1.heap.size := by rw [← hW2]; simp
  have hS2 : ∀ k, S k → k ≠ l → W2.heap[k]? = W1.heap[k]? := fun k _ hk => by rw [← hW2]; exact World.putObj_heap_other hk
  have ho2 : Only (fun _ => False) w W2 := by rw [← hW2]; exact (Only.of_new hw1).putObj (.inr hwl) _
  have hI0 : I [] C W2 := hI _ _ _ _ h0 (Stays.of_only ho2 (fun _ _ h => h.elim))
  refine ⟨l, mark, W2, { target := .fn (.func gf) lb, args := #[.func (.yield l) #[] #[]] }, W2, gf, #[.func (.yield l) #[] #[]] ++ lb, W2, ?_, ?_, ?_, ?_, (fun h => by rw [hd] at h; cases h), ?_⟩
  · rw [hent fn, ← hW2, hrec]
  · simp only [resolve, hg]
    simp [go_sem]
  · intro f' _; exact hF f'
  · simp [invoke, go_sem, eg]
  · refine hcall _ _ _ _ ((hit l
      (fun pre C' W => ∃ C0, (∀ k, C' k ↔ (C0 k ∨ S k)) ∧ (∀ k, C0 k → k < W.heap.size) ∧ (∀ k, S k → ¬ C0 k) ∧ I pre C0 W ∧ W.heap[l]? = some (.loop (rec .ready none)) ∧ (∀ k, S k → k ≠ l → W.heap[k]? = W1.heap[k]?) ∧ W1.heap.size ≤ W.heap.size)
      (fun pre C' W => ∃ C0 c, (∀ k, C' k ↔ (C0 k ∨ S k)) ∧ (∀ k, C0 k → k < W.heap.size) ∧ (∀ k, S k → ¬ C0 k) ∧ Ix c pre C0 W ∧ W.heap[l]? = some (.loop (rec .done (some c))) ∧ (∀ k, S k → k ≠ l → W.heap[k]? = W1.heap[k]?) ∧ W1.heap.size ≤ W.heap.size)
      (fun k => C k ∨ S k) W2 (Later.of_only ho2 (fun _ _ h => h)) ?_ ?_ ?_ ?_ ?_).mono ?_)
    · rintro k (hk | hk)
      · have := hC k hk; have := hw1.size; exact ⟨by omega, (hC k hk).2⟩
      · have := hS k hk; exact ⟨by omega, fun h => by have := hK k h; omega⟩
    · rintro pre C' A B ⟨C0, hc, hlt, hn, hi, hl, hs, hsz⟩ hst
      have hcl : ∀ k, k < A.heap.size → C' k → B.heap[k]? = A.heap[k]? := fun k hk hck => hst.block k hk (.inl hck)
      refine ⟨C0, hc, fun k hk => Nat.lt_of_lt_of_le (hlt k hk) hst.size, hn, hI _ _ _ _ hi (hst.mono fun k _ hk => ?_), ?_, fun k hk hkl => ?_, Nat.le_trans hsz hst.size⟩
      · rcases hk with hk | ⟨h1, h2⟩
        · exact .inl ((hc k).2 (.inl hk))
        · exact .inr ⟨by have := hw1.size; omega, h2⟩
      · exact (hcl l (by omega) ((hc l).2 (.inr hSl))).trans hl
      · exact (hcl k (by have := (hS k hk).2; omega) ((hc k).2 (.inr hk))).trans (hs k hk hkl)
    · rintro pre C' A B ⟨C0, c, hc, hlt, hn, hi, hl, hs, hsz⟩ hst
      have hcl : ∀ k, k < A.heap.size → C' k → B.heap[k]? = A.heap[k]? := fun k hk hck => hst.block k hk (.inl hck)
      refine ⟨C0, c, hc, fun k hk => Nat.lt_of_lt_of_le (hlt k hk) hst.size, hn, hIx c _ _ _ _ hi (hst.mono fun k _ hk => ?_), ?_, fun k hk hkl => ?_, Nat.le_trans hsz hst.size⟩
      · rcases hk with hk | ⟨h1, h2⟩
        · exact .inl ((hc k).2 (.inl hk))
        · exact .inr ⟨by have := hw1.size; omega, h2⟩
      · exact (hcl l (by omega) ((hc l).2 (.inr hSl))).trans hl
      · exact (hcl k (by have := (hS k hk).2; omega) ((hc k).2 (.inr hk))).trans (hs k hk hkl)
    · -- one round
      rintro pre x C' W args O hpre ⟨C0, hc, hlt, hn, hi, hl, hs, hsz⟩ hWW hC' hO harg
      have hlW : l < W.heap.size := by omega
      have hy := run_yield (P := P) (args := args) hl (by rw [hrec]; exact hps x args O W harg)
      refine hrl l (n - 1 - 1) args W _ ⟨fn, _, assign, body, by rw [hrec] at hy; exact hy, roundIn_of_wpIn hfn ?_⟩
      have hOl : ¬ O l := fun h => (hO l h).1 ((hc l).2 (.inr hSl))
      refine hround pre x args C0 O W hpre hi (by have := hw1.size; omega) hlt (fun k hk => ⟨fun h => (hO k hk).1 ((hc k).2 (.inl h)), (hO k hk).2.1, by have := (hO k hk).2.2; have := hw1.size; omega⟩) harg hlW (hn l hSl) hOl _ ?_
      intro a₁ w₁ ho1 hbody
      have hl1' : w₁.heap[l]? = some (.loop (rec .ready none)) := (ho1.block l hlW (fun h => h.elim (hn l hSl) hOl)).trans hl
      have hb := run_beginRound (P := P) hl1' (by rw [hrec]; rfl)
      refine ⟨_, hb, ?_⟩
      obtain ⟨w₂, hw₂⟩ : ∃ w₂, w₁.putObj l (.loop { rec .ready none with state := .busy }) = w₂ := ⟨_, rfl⟩
      rw [hw₂]
      have hlw1 : l < w₁.heap.size := Nat.lt_of_lt_of_le hlW ho1.size
      have hl2 : w₂.heap[l]? = some (.loop { rec .ready none with state := .busy }) := by rw [← hw₂]; exact World.putObj_heap_same hlw1
      have ho12 : Only (fun k => k = l) w₁ w₂ := by rw [← hw₂]; exact Only.put_one _ _ _
      have hsw : w₂.heap.size = w₁.heap.size := by rw [← hw₂]; simp
      have hrd : (rec .ready none).defers = D := by rw [hrec]; rfl
      refine wpIn_mono (hbody w₂ ho12 ⟨_, hl2, hrd⟩) ?_
      have fin : ∀ (jump : Option Code) (W3 : World) (C3 : Nat → Prop), Only (fun k => C0 k ∨ O k) w₂ W3 → Grows C0 O C3 w₂ W3 →
          (Instr.endRound l jump).run P W3 = .ok (.bool jump.isNone) (W3.putObj l (.loop (rec (if jump.isNone then .ready else .done) jump))) ∧
          Only (fun k => C' k ∨ O k) W (W3.putObj l (.loop (rec (if jump.isNone then .ready else .done) jump))) ∧
          Grows C' O (fun k => C3 k ∨ S k) W (W3.putObj l (.loop (rec (if jump.isNone then .ready else .done) jump))) ∧
          (∀ k, S k → ¬ C3 k) ∧ (∀ k, C3 k → k < W3.heap.size) ∧
          (W3.putObj l (.loop (rec (if jump.isNone then .ready else .done) jump))).heap[l]? = some (.loop (rec (if jump.isNone then .ready else .done) jump)) ∧
          (∀ k, S k → k ≠ l → (W3.putObj l (.loop (rec (if jump.isNone then .ready else .done) jump))).heap[k]? = W1.heap[k]?) ∧
          Stays w.heap.size M C3 W3 (W3.putObj l (.loop (rec (if jump.isNone then .ready else .done) jump))) := fun jump W3 C3 ho3 hg3 => by
        have hSO : ∀ k, S k → ¬ O k := fun k hk h => (hO k h).1 ((hc k).2 (.inr hk))
        have hl3 : W3.heap[l]? = some (.loop { rec .ready none with state := .busy }) := (ho3.block l (by omega) (fun h => h.elim (hn l hSl) hOl)).trans hl2
        have hr3 := run_endRound (P := P) jump hl3
        have hsz3 := ho3.size
        have hsz1 := ho1.size
        have hoW3 : Only (fun k => C' k ∨ O k) W W3 := by
          have h1 : Only (fun k => C' k ∨ O k) W w₁ := ho1.mono fun k _ h => h.imp (fun h => (hc k).2 (.inl h)) id
          have h2 : Only (fun k => C' k ∨ O k) w₁ w₂ := ho12.mono fun k _ h => by subst h; exact .inl ((hc _).2 (.inr hSl))
          have h3 : Only (fun k => C' k ∨ O k) w₂ W3 := ho3.mono fun k _ h => h.imp (fun h => (hc k).2 (.inl h)) id
          exact (h1.trans h2).trans h3
        have hnS : ∀ k, S k → ¬ C3 k := fun k hk h => by
          rcases hg3 k h with h | h | h
          · exact hn k hk h
          · exact hSO k hk h
          · have := (hS k hk).2; omega
        refine ⟨?_, hoW3.putObj (.inl (.inl ((hc l).2 (.inr hSl)))) _, ?_, hnS, ?_, World.putObj_heap_same (by omega), ?_, ?_⟩
        · rw [hr3, hrec]; rfl
        · rintro k (hk | hk)
          · rcases hg3 k hk with h | h | h
            · exact .inl ((hc k).2 (.inl h))
            · exact .inr (.inl h)
            · exact .inr (.inr ⟨by omega, by simp; omega⟩)
          · exact .inl ((hc k).2 (.inr hk))
        · intro k hk
          rcases hg3 k hk with h | h | h
          · have := hlt k h; omega
          · have := (hO k h).2.1; omega
          · omega
        · intro k hk hkl
          refine (World.putObj_heap_other hkl).trans ((ho3.block k (by have := (hS k hk).2; omega) (fun h => h.elim (hn k hk) (hSO k hk))).trans ((ho12.block k (by have := (hS k hk).2; omega) hkl).trans
            ((ho1.block k (by have := (hS k hk).2; omega) (fun h => h.elim (hn k hk) (hSO k hk))).trans (hs k hk hkl))))
        · exact Stays.of_only (D := fun k => k = l) (Only.put_one _ _ _) fun k _ hk => by subst hk; exact ⟨hnS _ hSl, .inl hwl⟩
      rintro e a3 W3 hp
      have hw1s := hw1.size
      cases e with
      | normal =>
        obtain ⟨C3, ho3, hg3, hi3⟩ := hp
        obtain ⟨r1, r2, r3, r4, r5, r6, r7, r8⟩ := fin none W3 C3 ho3 hg3
        exact ⟨_, _, r1, _, true, r2, r3, rfl, fun _ => ⟨C3, fun _ => Iff.rfl, fun k hk => by simpa using r5 k hk, r4, hI _ _ _ _ hi3 r8, r6, r7, by simp; have := ho3.size; have := ho1.size; omega⟩, fun h => by cases h⟩
      | ret =>
        obtain ⟨C3, ho3, hg3, hi3⟩ := hp
        obtain ⟨r1, r2, r3, r4, r5, r6, r7, r8⟩ := fin (some .ret) W3 C3 ho3 hg3
        exact ⟨_, _, r1, _, false, r2, r3, rfl, (fun h => by cases h), fun _ => ⟨C3, .ret, fun _ => Iff.rfl, fun k hk => by simpa using r5 k hk, r4, hIx _ _ _ _ _ hi3 r8, r6, r7, by simp; have := ho3.size; have := ho1.size; omega⟩⟩
      | exit id =>
        obtain ⟨C3, ho3, hg3, hi3⟩ := hp
        obtain ⟨r1, r2, r3, r4, r5, r6, r7, r8⟩ := fin (some (.exit id)) W3 C3 ho3 hg3
        exact ⟨_, _, r1, _, false, r2, r3, rfl, (fun h => by cases h), fun _ => ⟨C3, .exit id, fun _ => Iff.rfl, fun k hk => by simpa using r5 k hk, r4, hIx _ _ _ _ _ hi3 r8, r6, r7, by simp; have := ho3.size; have := ho1.size; omega⟩⟩
      | goto t =>
        obtain ⟨C3, ho3, hg3, hi3⟩ := hp
        obtain ⟨r1, r2, r3, r4, r5, r6, r7, r8⟩ := fin (some (.goto t)) W3 C3 ho3 hg3
        exact ⟨_, _, r1, _, false, r2, r3, rfl, (fun h => by cases h), fun _ => ⟨C3, .goto t, fun _ => Iff.rfl, fun k hk => by simpa using r5 k hk, r4, hIx _ _ _ _ _ hi3 r8, r6, r7, by simp; have := ho3.size; have := ho1.size; omega⟩⟩
      | panic ch => exact hp.elim
      | outgrown => exact hp.elim
    · refine ⟨C, fun _ => Iff.rfl, fun k hk => by have := (hC k hk).1; have := hw1.size; omega, fun k hk h => by have := (hC k h).1; have := (hS k hk).1; omega, hI0, hL2, hS2, by omega⟩
    · -- behind the iterator
      rintro e W3 ⟨⟨v, rfl⟩, C', (⟨⟨C0, hc, hlt, hn, hi, hl, hs, hsz⟩, hfin⟩ | ⟨pre, hpre, C0, c, hc, hlt, hn, hi, hl, hs, hsz⟩)⟩
      · have hst : Stays w.heap.size M C0 W3 (W3.putObj l (.loop (rec .exhausted none))) := Stays.of_only (D := fun k => k = l) (Only.put_one _ _ _) fun k _ hk => by subst hk; exact ⟨hn _ hSl, .inl hwl⟩
        refine ⟨none, _, by have := run_endLoop (P := P) hl (by rw [hrec]; simp [recOf]); rw [hrec] at this; exact this, ?_⟩
        rw [hrec] at hst
        exact hdone C0 _ (hI _ _ _ _ hi hst) (hF0 _ _ hfin ((Only.put_one _ _ _).mono fun k _ hk => by subst hk; exact hwl)) hn (fun k hk hkl => (World.putObj_heap_other hkl).trans (hs k hk hkl)) (by simpa using hsz)
      · have hst : Stays w.heap.size M C0 W3 (W3.putObj l (.loop (rec .exhausted (some c)))) := Stays.of_only (D := fun k => k = l) (Only.put_one _ _ _) fun k _ hk => by subst hk; exact ⟨hn _ hSl, .inl hwl⟩
        refine ⟨some c, _, by have := run_endLoop (P := P) hl (by rw [hrec]; simp [recOf]); rw [hrec] at this; exact this, ?_⟩
        rw [hrec] at hst
        exact hstop c pre C0 _ hpre (hIx c _ _ _ _ hi hst) hn (fun k hk hkl => (World.putObj_heap_other hkl).trans (hs k hk hkl)) (by simpa using hsz)

/-- A range over a function in a function's own frame. -/
theorem rangeF_outer {α : Type} {n : Nat} {P : Program} {g : Operand} {ps : Array Tmp} {assign body : Code} {Q : Exit → Act → World → Prop} {a : Act} {w : World}
    {gf : Nat} {lb : Array Value} (hg : a.eval g = .func (.func gf) #[] lb) (eg : ∀ args w, (callFunc gf args).run P w = .ok (.enter gf args) w)
    {Arg : α → Array Value → (Nat → Prop) → World → Prop} {K M : Nat → Prop} {xs : List α} {Fin : World → Prop} (hit : IterF P gf lb Arg K M xs Fin w) (hF0 : ∀ a b, Fin a → Only (fun k => w.heap.size ≤ k) a b → Fin b)
    (hK : ∀ k, K k → k < w.heap.size)
    (C : Nat → Prop) (hC : ∀ k, C k → k < w.heap.size ∧ ¬ K k)
    (I : List α → (Nat → Prop) → World → Prop) (Ix : Code → List α → (Nat → Prop) → World → Prop)
    (hI : Bears w.heap.size M I) (hIx : ∀ c, Bears w.heap.size M (Ix c)) (h0 : I [] C w)
    (hps : ∀ x args O W, Arg x args O W → args.size = ps.size)
    (hround : ∀ (l : Nat) (pre : List α) (x : α) (args : Array Value) (C O : Nat → Prop) (W : World), pre ++ [x] <+: xs → I pre C W → w.heap.size < l → (∀ k, C k → k < W.heap.size) → (∀ k, O k → ¬ C k ∧ k < W.heap.size ∧ w.heap.size ≤ k) → Arg x args O W → l < W.heap.size → ¬ C l → ¬ O l →
      ∀ T : Act → World → Prop, (∀ a₁ w₁, Only (fun k => C k ∨ O k) W w₁ → (∀ w₂, Only (fun k => k = l) w₁ w₂ → (∃ r, w₂.heap[l]? = some (.loop r)) → body.wpIn (Fence.wide.inRound l) (n - 1 - 1) P (RoundEnd I Ix (pre ++ [x]) C O w₂) a₁ w₂) → T a₁ w₁) →
      assign.wpIn (Fence.wide.inRound l) (n - 1 - 1) P (Exit.then T (fun _ _ _ => False)) { tmps := (ps.zip args).foldl (fun t (p, v) => t.setIfInBounds p v) a.tmps, defers := [] } W)
    (hdone : ∀ (C' : Nat → Prop) (W : World), I xs C' W → Fin W → ¬ C' w.heap.size → W.heap[w.heap.size]? = some (.deferred (some [])) → Q .normal { a with defers := { target := .collected w.heap.size, args := #[] } :: a.defers } W)
    (hstop : ∀ (c : Code) (pre : List α) (C' : Nat → Prop) (W : World), pre <+: xs → Ix c pre C' W → ¬ C' w.heap.size → W.heap[w.heap.size]? = some (.deferred (some [])) →
      c.wpIn Fence.wide n P Q { a with defers := { target := .collected w.heap.size, args := #[] } :: a.defers } W) :
    (Code.rangeFunc g ps assign body).wpIn Fence.wide n P Q a w := by
  have hD : ((w.alloc (.deferred (some []))).alloc (.loop (recOf 0 #[] #[] .skip .skip w.heap.size .ready none))).heap[w.heap.size]? = some (.deferred (some [])) :=
    (Below.heap_alloc _ _ _ (by simp)).trans (World.alloc_heap_new w _)
  refine rangeF_core (F := Fence.wide) (W1 := (w.alloc (.deferred (some []))).alloc (.loop (recOf 0 #[] #[] .skip .skip w.heap.size .ready none))) (l := w.heap.size + 1) (D := w.heap.size) (S := fun k => k = w.heap.size ∨ k = w.heap.size + 1)
    (mark := [{ target := .collected w.heap.size, args := #[] }]) (fun _ => trivial) rfl (fun _ _ _ _ h => callsIn_wide.2 h) (fun _ _ _ _ _ h => yieldAt_wide h) ?_ ?_ (.inr rfl) ?_ hg eg hit hF0 hK C hC I Ix hI hIx h0 hps ?_ ?_ ?_
  · intro fn
    have e : w.heap.size + 1 = (w.alloc (.deferred (some []))).heap.size := by simp
    rw [show Fence.wide.round = none from rfl, run_enterLoop_outer]
    congr 1
    rw [e, putObj_alloc]
    rfl
  · exact ((Below.refl _ _).alloc (Nat.le_refl _) _).alloc (by simp) _
  · intro k hk
    have e : ((w.alloc (.deferred (some []))).alloc (.loop (recOf 0 #[] #[] .skip .skip w.heap.size .ready none))).heap.size = w.heap.size + 1 + 1 := by simp
    rw [e]
    rcases hk with rfl | rfl <;> omega
  · intro pre x args C O W h1 h2 h3 h4 h5 h6 h7 h8 h9 T hT
    exact hround (w.heap.size + 1) pre x args C O W h1 h2 (by omega) h4 h5 h6 h7 h8 h9 T fun a₁ w₁ ho hb => hT a₁ w₁ ho fun w₂ h2 hr => hb w₂ h2 (hr.imp fun _ h => h.1)
  · intro C' W hi hf hs hk _
    exact hdone C' W hi hf (hs _ (.inl rfl)) ((hk _ (.inl rfl) (by omega)).trans hD)
  · intro c pre C' W hp hi hs hk _
    exact hstop c pre C' W hp hi (hs _ (.inl rfl)) ((hk _ (.inl rfl) (by omega)).trans hD)

end Go.Proofs.YtdnoeaoelgehcaaGreat

/-! graph.Valence; package recurrent: joins, valence, stable, catches. -/
namespace Go.Proofs.YtdnoeaoelgehcaaGreat
open Go.RowKit

set_option maxHeartbeats 2000000 in
theorem gat_ok (n : Int) (A : Option Addr) (c : Nat) (es : List E3) (hn : es.length ≤ 1048576) (hz : checkG n es = 0) (v : Int) (hv : vertB n v = true) (g : Nat) (w : World) (hg : Blk w g 3 #[.int .i64 v]) (h : Reads w w.heap.size 3 A es.length (edgeCells es)) :
    Calls Tryz.prog 147 #[.agg #[.int .i64 n, .slice A es.length c], .slice (some ⟨g, 0, none⟩) 1 1] w fun e w' => e = .returned (.int .i64 0) ∧ Below w.heap.size w w' := by
  have GC := gcheck_any n A c es hn
  rw [hz] at GC
  have GC := Lib.hid GC
  have HV := Lib.hid hv
  have g0 := Blk.new w 24 #[.int .i64 n, .slice A es.length c]
  have c0 := g0.cell 0
  have c1 := g0.cell 1
  clear hz hv
  go_enter Tryz.func147, Tryz.ntmps147
  go_wp2_with fail
  refine (GC.out _ ((h.alloc (Nat.le_refl _) _).more (by simp))).mono ?_
  rintro e w1 ⟨rfl, hb1⟩
  have hB1 : Below w.heap.size w w1 := ((Below.refl _ _).alloc (Nat.le_refl _) _).trans (hb1.mono (by simp))
  have g1 := g0.next hb1
  have d0 := g1.cell 0
  have hgc := (hg.below hB1 hg.lt).cell 0
  clear g0 c0 c1
  go_wp2_with fail
  go_loop [7, 15] (fun _ i => i = .int .i64 0 ∨ i = .int .i64 1) (fun _ i => 1 - (intOf i).toNat)
  case atStart => exact .inl rfl
  case round =>
    rcases hrel with rfl | rfl
    · have VC := Lib.hid (vertex_any n v)
      rw [HV.out] at VC
      go_wp2_with (go_at_call 130; refine (VC.out _).mono ?_; rintro e w2 ⟨rfl, rfl⟩)
      go_round
      case rel => exact .inr (by go_num)
      case measure => simp [intOf]
    · go_wp2
      go_ret
      exact ⟨rfl, hB1⟩

set_option maxRecDepth 100000 in
set_option maxHeartbeats 4000000 in
theorem gvalence_ok (n : Nat) (A : Option Addr) (c : Nat) (es : List E3) (hn : es.length ≤ 10000) (hz : checkG n es = 0) (v : Nat) (hv : v < n) (w : World) (h : Reads w w.heap.size 3 A es.length (edgeCells es)) :
    Calls Tryz.prog 104 #[.agg #[.int .i64 n, .slice A es.length c], .int .i64 v] w fun e w' => e = .returned (.tuple #[.int .i64 (valE es v), .int .i64 0]) ∧ Below w.heap.size w w' := by
  have hok := (right_of hz).ok
  have GA := Lib.hid (gat_ok n A c es (by omega) hz v (vertB_true.2 (by omega)))
  have HOK := Lib.hid hok
  have hvb := valE_bd hok
  have HVB := Lib.hid (fun k => valE_bd (es := es.take k) (fun e he => hok e (List.mem_of_mem_take he)) v)
  have g0 := Blk.new w 24 #[.int .i64 n, .slice A es.length c]
  have c0 := g0.cell 0
  have c1 := g0.cell 1
  have c0' := (g0.alloc (.cells #[.int .i64 v] 3)).cell 0
  have c1' := (g0.alloc (.cells #[.int .i64 v] 3)).cell 1
  clear hz hok hvb
  go_enter Tryz.func104, Tryz.ntmps104
  go_wp2_with fail
  refine (GA.out (w.heap.size + 1) _ ((by have := Blk.new (w.alloc (.cells #[.int .i64 n, .slice A es.length c] 24)) 3 #[.int .i64 v]; simpa using this)) ((((h.alloc (Nat.le_refl _) _).more (by simp)).alloc (Nat.le_refl _) _).more (by simp))).mono ?_
  rintro e w1 ⟨rfl, hb1⟩
  have hB1 : Below w.heap.size w w1 := (((Below.refl _ _).alloc (Nat.le_refl _) _).alloc (by simp) _).trans (hb1.mono (by simp; omega))
  have g1 := (g0.alloc (.cells #[.int .i64 v] 3)).next hb1
  have d1 := g1.cell 1
  clear g0 c0 c1 c0' c1' hb1
  go_wp2_with fail
  go_loopw [7, 20] (fun s i wl => ∃ (k : Nat), i = .int .i64 k ∧ s = .int .i64 (valE (es.take k) v) ∧ k ≤ es.length ∧ Below w.heap.size w wl) (fun _ i _ => es.length - (intOf i).toNat)
  case atStart => exact ⟨0, rfl, rfl, by omega, hB1⟩
  case round =>
    obtain ⟨k, rfl, rfl, hk, hbel⟩ := hrel
    clear hB1 g1 d1
    by_cases hlt : k < es.length
    · obtain ⟨⟨x, y, m⟩, hx⟩ := get_of_lt hlt
      have hok := HOK.out _ (List.mem_of_getElem? hx)
      unfold okE at hok
      dsimp only at hok
      have hi : (k : Int) < (es.length : Int) := by omega
      obtain ⟨b, off, hA, hbb, q1, q2, q3⟩ := (h.below hbel).edge hx
      subst hA
      dsimp only at q1 q2 q3
      have e3 := Blk.new wr 83 #[.int .i64 x, .int .i64 y, .int .i64 m]
      have p0 := e3.cell 0
      have p1 := e3.cell 1
      have p2 := e3.cell 2
      have hs := valE_snoc hx v
      unfold valT at hs
      dsimp only at hs
      have hb0 := HVB.out k
      have hb2 := hbel.alloc hbel.size (.cells #[.int .i64 x, .int .i64 y, .int .i64 m] 83)
      have htl : (es.take k).length ≤ 10000 := by rw [List.length_take]; omega
      obtain ⟨S, hS⟩ : ∃ S, valE (es.take k) v = S := ⟨_, rfl⟩
      rw [hS] at hb0 hs ⊢
      clear hS hx
      have hw : IntKind.i64.wrap (S + m) = S + m := IntWalk.i64_in _ (by omega)
      by_cases hxy : x = y
      · have n1 : (x != y) = false := by simp [hxy]
        rw [if_neg (fun h => h.1 hxy)] at hs
        have HS := Lib.hid hs
        clear hs hxy
        go_wp2
        go_roundw
        case rel => exact ⟨k + 1, by go_num, by rw [HS.out, Int.add_zero], by omega, hb2⟩
        case measure => simp [intOf]; omega
      · have n1 : (x != y) = true := by simpa using hxy
        by_cases hxv : x = (v : Int)
        · have n2 : (x == (v : Int)) = true := by simpa using hxv
          rw [if_pos ⟨hxy, .inl hxv⟩] at hs
          have HS := Lib.hid hs
          clear hs hxy hxv
          go_wp2
          go_roundw
          case rel => exact ⟨k + 1, by go_num, by rw [HS.out], by omega, hb2⟩
          case measure => simp [intOf]; omega
        · have n2 : (x == (v : Int)) = false := by simpa using hxv
          by_cases hyv : y = (v : Int)
          · have n3 : (y == (v : Int)) = true := by simpa using hyv
            rw [if_pos ⟨hxy, .inr hyv⟩] at hs
            have HS := Lib.hid hs
            clear hs hxy hxv hyv
            go_wp2
            go_roundw
            case rel => exact ⟨k + 1, by go_num, by rw [HS.out], by omega, hb2⟩
            case measure => simp [intOf]; omega
          · have n3 : (y == (v : Int)) = false := by simpa using hyv
            rw [if_neg (fun h => h.2.elim hxv hyv)] at hs
            have HS := Lib.hid hs
            clear hs hxy hxv hyv
            go_wp2
            go_roundw
            case rel => exact ⟨k + 1, by go_num, by rw [HS.out, Int.add_zero], by omega, hb2⟩
            case measure => simp [intOf]; omega
    · obtain rfl : k = es.length := by omega
      rw [List.take_length]
      go_wp2
      go_ret2
      exact ⟨rfl, hbel⟩
end Go.Proofs.YtdnoeaoelgehcaaGreat

/-! Package recurrent: joins, valence, catches, stable. -/
namespace Go.Proofs.YtdnoeaoelgehcaaGreat
open Go.RowKit

/-- The marks of a list of vertices. -/
def marks (n : Nat) (l : List Nat) : List Bool := (List.range n).map fun u => decide (u ∈ l)
theorem marks_length (n : Nat) (l : List Nat) : (marks n l).length = n := by simp [marks]
theorem marks_get {n u : Nat} (h : u < n) (l : List Nat) : (marks n l)[u]? = some (decide (u ∈ l)) := by simp [marks, h]
theorem marks_set {n u : Nat} (h : u < n) (l : List Nat) : (marks n l).set u true = marks n (l ++ [u]) := by
  apply List.ext_getElem?
  intro i
  by_cases hi : i < n
  · by_cases e : i = u
    · subst e
      rw [List.getElem?_set_self (by rw [marks_length]; exact hi), marks_get hi]; simp
    · rw [List.getElem?_set_ne (fun e' => e e'.symm), marks_get hi, marks_get hi]; simp [e]
  · rw [List.getElem?_eq_none (by simp [marks_length]; omega), List.getElem?_eq_none (by simp [marks_length]; omega)]
/-- The configuration as the program hands it on. -/
def pileV (n : Nat) (A : Option Addr) (m c : Nat) (q : Int) (B : Option Addr) (k d : Nat) : Value := .agg #[.int .i64 n, .slice A m c, .int .i64 q, .slice B k d]
def pileC (n : Nat) (A : Option Addr) (m c : Nat) (q : Int) (B : Option Addr) (k d : Nat) : Array Value := #[.int .i64 n, .slice A m c, .int .i64 q, .slice B k d]

set_option maxRecDepth 100000 in
set_option maxHeartbeats 8000000 in
theorem rjoins_any (n : Nat) (A : Option Addr) (c : Nat) (es : List E3) (hn : es.length ≤ 10000) (hok : ∀ e ∈ es, okE n e) (q : Int) (B : Option Addr) (kB dB : Nat) (v : Nat) (g : Nat) (l : List Nat) (w : World)
    (h : Reads w w.heap.size 3 A es.length (edgeCells es)) (hm : Blk w g 4 (bools (marks n l))) :
    Calls Tryz.prog 60 #[pileV n A es.length c q B kB dB, .int .i64 v, .slice (some ⟨g, 0, none⟩) n n] w fun e w' => e = .returned (.int .i64 (jnE es l v)) ∧ Below w.heap.size w w' := by
  have HOK := Lib.hid hok
  have HVB := Lib.hid (fun k => jnE_bd (es := es.take k) (fun e he => hok e (List.mem_of_mem_take he)) l v)
  have g0 := Blk.new w 86 (pileC n A es.length c q B kB dB)
  have c1 := g0.cell 1
  have hgl := hm.lt
  simp only [pileC] at c1 g0
  clear hok
  unfold pileV
  go_enter Tryz.func60, Tryz.ntmps60
  go_wp2_with fail
  go_loopw [7, 14] (fun s i wl => ∃ (k : Nat), i = .int .i64 k ∧ s = .int .i64 (jnE (es.take k) l v) ∧ k ≤ es.length ∧ Below w.heap.size w wl) (fun _ i _ => es.length - (intOf i).toNat)
  case atStart => exact ⟨0, rfl, rfl, by omega, (Below.refl _ _).alloc (Nat.le_refl _) _⟩
  case round =>
    obtain ⟨k, rfl, rfl, hk, hbel⟩ := hrel
    clear g0 c1
    by_cases hlt : k < es.length
    · obtain ⟨⟨x, y, m⟩, hx⟩ := get_of_lt hlt
      have hok := HOK.out _ (List.mem_of_getElem? hx)
      unfold okE at hok
      dsimp only at hok
      obtain ⟨a, rfl⟩ := Int.eq_ofNat_of_zero_le (show 0 ≤ x by omega)
      obtain ⟨b, rfl⟩ := Int.eq_ofNat_of_zero_le (show 0 ≤ y by omega)
      have hi : (k : Int) < (es.length : Int) := by omega
      obtain ⟨bE, off, hA, hbb, q1, q2, q3⟩ := (h.below hbel).edge hx
      subst hA
      dsimp only at q1 q2 q3
      have e3 := Blk.new wr 83 #[.int .i64 a, .int .i64 b, .int .i64 m]
      have p0 := e3.cell 0
      have p1 := e3.cell 1
      have p2 := e3.cell 2
      have hm2 := (hm.below hbel hgl).alloc (.cells #[.int .i64 a, .int .i64 b, .int .i64 m] 83)
      have ma := (hm2.cell a).trans (bools_get (marks_get (by omega) l))
      have mb := (hm2.cell b).trans (bools_get (marks_get (by omega) l))
      have ia : (a : Int) < (n : Int) := by omega
      have ib : (b : Int) < (n : Int) := by omega
      have hs := jnE_snoc hx l v
      unfold jnT at hs
      simp only [Int.toNat_natCast] at hs
      have hb0 := HVB.out k
      have hb2 := hbel.alloc hbel.size (.cells #[.int .i64 a, .int .i64 b, .int .i64 m] 83)
      have htl : (es.take k).length ≤ 10000 := by rw [List.length_take]; omega
      obtain ⟨S, hS⟩ : ∃ S, jnE (es.take k) l v = S := ⟨_, rfl⟩
      rw [hS] at hb0 hs ⊢
      clear hS hx
      have hw : IntKind.i64.wrap (S + m) = S + m := IntWalk.i64_in _ (by omega)
      by_cases hxy : (a : Int) = (b : Int)
      · have n1 : ((a : Int) != (b : Int)) = false := by simp [hxy]
        rw [if_neg (fun h => h.1 hxy)] at hs
        have HS := Lib.hid hs
        clear hs hxy ma mb
        go_wp2
        go_roundw
        case rel => exact ⟨k + 1, by go_num, by rw [HS.out, Int.add_zero], by omega, hb2⟩
        case measure => simp [intOf]; omega
      · have n1 : ((a : Int) != (b : Int)) = true := by simp at hxy ⊢; omega
        by_cases hxv : (a : Int) = (v : Int)
        · have n2 : ((a : Int) == (v : Int)) = true := by simpa using hxv
          have n3 : ((b : Int) == (v : Int)) = false := by simp; omega
          by_cases hbl : b ∈ l
          · rw [if_pos ⟨hxy, .inl ⟨hxv, hbl⟩⟩] at hs
            rw [decide_eq_true hbl] at mb
            have HS := Lib.hid hs
            clear hs hxy hxv hbl ma
            go_wp2
            go_roundw
            case rel => exact ⟨k + 1, by go_num, by rw [HS.out], by omega, hb2⟩
            case measure => simp [intOf]; omega
          · rw [if_neg (fun h => h.2.elim (fun h => hbl h.2) (fun h => by omega))] at hs
            rw [decide_eq_false hbl] at mb
            have HS := Lib.hid hs
            clear hs hxy hxv hbl ma
            go_wp2
            go_roundw
            case rel => exact ⟨k + 1, by go_num, by rw [HS.out, Int.add_zero], by omega, hb2⟩
            case measure => simp [intOf]; omega
        · have n2 : ((a : Int) == (v : Int)) = false := by simpa using hxv
          by_cases hyv : (b : Int) = (v : Int)
          · have n3 : ((b : Int) == (v : Int)) = true := by simpa using hyv
            by_cases hal : a ∈ l
            · rw [if_pos ⟨hxy, .inr ⟨hyv, hal⟩⟩] at hs
              rw [decide_eq_true hal] at ma
              have HS := Lib.hid hs
              clear hs hxy hxv hyv hal mb
              go_wp2
              go_roundw
              case rel => exact ⟨k + 1, by go_num, by rw [HS.out], by omega, hb2⟩
              case measure => simp [intOf]; omega
            · rw [if_neg (fun h => h.2.elim (fun h => hxv h.1) (fun h => hal h.2))] at hs
              rw [decide_eq_false hal] at ma
              have HS := Lib.hid hs
              clear hs hxy hxv hyv hal mb
              go_wp2
              go_roundw
              case rel => exact ⟨k + 1, by go_num, by rw [HS.out, Int.add_zero], by omega, hb2⟩
              case measure => simp [intOf]; omega
          · have n3 : ((b : Int) == (v : Int)) = false := by simpa using hyv
            rw [if_neg (fun h => h.2.elim (fun h => hxv h.1) (fun h => hyv h.1))] at hs
            have HS := Lib.hid hs
            clear hs hxy hxv hyv ma mb
            go_wp2
            go_roundw
            case rel => exact ⟨k + 1, by go_num, by rw [HS.out, Int.add_zero], by omega, hb2⟩
            case measure => simp [intOf]; omega
    · obtain rfl : k = es.length := by omega
      rw [List.take_length]
      go_wp2
      go_ret
      exact ⟨rfl, hbel⟩
set_option maxRecDepth 100000 in
set_option maxHeartbeats 2000000 in
theorem rvalence_any (n : Nat) (A : Option Addr) (c : Nat) (es : List E3) (hn : es.length ≤ 10000) (hz : checkG n es = 0) (q : Int) (B : Option Addr) (kB dB : Nat) (v : Nat) (hv : v < n) (w : World) (h : Reads w w.heap.size 3 A es.length (edgeCells es)) :
    Calls Tryz.prog 63 #[pileV n A es.length c q B kB dB, .int .i64 v] w fun e w' => e = .returned (.int .i64 (valE es v)) ∧ Below w.heap.size w w' := by
  have GV := Lib.hid (gvalence_ok n A c es hn hz v hv)
  have g0 := Blk.new w 86 (pileC n A es.length c q B kB dB)
  have c0 := g0.cell 0
  have c1 := g0.cell 1
  simp only [pileC] at c0 c1
  have hB : Below w.heap.size w (w.alloc (.cells (pileC n A es.length c q B kB dB) 86)) := (Below.refl _ _).alloc (Nat.le_refl _) _
  clear hz g0
  unfold pileV
  simp only [pileC] at hB
  go_enter Tryz.func63, Tryz.ntmps63
  go_wp2_with fail
  refine (GV.out _ ((h.alloc (Nat.le_refl _) _).more (by simp))).mono ?_
  rintro e w1 ⟨rfl, hb1⟩
  go_wp2
  go_ret
  exact ⟨rfl, hB.trans (hb1.mono (by simp))⟩
end Go.Proofs.YtdnoeaoelgehcaaGreat

