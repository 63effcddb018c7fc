/-
  Texts of this claim, put together: IterF, TreeR, ValP.
-/
import Derived.Test.YtplgbapbgcipdaaGreatK06
import Derived.Test.YtplgbapbgcipdaaGreatK07
import Derived.Test.YtplgbapbgcipdaaGreatK01
import Derived.Test.YtplgbapbgcipdaaGreatK03
/-! A range over a function whose iterator turns a block that its caller may look at behind the loop: the protocol of XIter, with a word on the end. -/
namespace Go.Proofs.YtplgbapbgcipdaaGreat
open Go.RowKit Go.Shelf

/-- AN ITERATOR that ends in a world that fulfils Fin, if no round breaks off. -/
def IterF {α : Type} (P : Program) (g : Nat) (lb : Array Value) (Arg : α → Array Value → (Nat → Prop) → World → Prop) (K M : Nat → Prop) (xs : List α) (Fin : World → Prop) (W0 : World) : Prop :=
  ∀ (l : Nat) (J Jx : List α → (Nat → Prop) → World → Prop) (C : Nat → Prop) (W : World), Later K W0 W → (∀ k, C k → k < W.heap.size ∧ ¬ K k) → Bears W.heap.size M J → Bears W.heap.size M Jx →
    (∀ pre x C W1 args O, pre ++ [x] <+: xs → J pre C W1 → W.heap.size ≤ W1.heap.size → (∀ k, C k → k < W1.heap.size) → (∀ k, O k → ¬ C k ∧ k < W1.heap.size ∧ W.heap.size ≤ k) → Arg x args O W1 → Round P l J Jx pre x C O W1 args) →
    J [] C W →
    Calls P g (#[.func (.yield l) #[] #[]] ++ lb) W fun e W' => (∃ v, e = .returned v) ∧ ∃ C', ((J xs C' W' ∧ Fin W') ∨ ∃ pre, pre <+: xs ∧ Jx pre C' W')

/-- THE LAW: once for both kinds of loops. l: the record; S: the blocks that the entry has laid; W1: the world behind the entry. -/
theorem rangeF_core {α : Type} {F : Fence} {n : Nat} {P : Program} (hF : ∀ f, F.fn f) (hd : F.depth = none) (hcall : ∀ f args w R, Calls P f args w R → CallsIn F (n - 1) P f args w R) (hrl : ∀ l m args W R, YieldAt F m P l args W R → YieldAt Fence.wide 0 P l args W R)
    {g : Operand} {ps : Array Tmp} {assign body : Code} {Q : Exit → Act → World → Prop} {a : Act} {w W1 : World} {l D : Nat} {S : Nat → Prop} {mark : List Deferred}
    (hent : ∀ fn, (Instr.enterLoop fn a.tmps ps assign body F.round).run P w = .ok (l, mark) (W1.putObj l (.loop (recOf fn a.tmps ps assign body D .ready none))))
    (hw1 : Below w.heap.size w W1) (hSl : S l) (hS : ∀ k, S k → w.heap.size ≤ k ∧ k < W1.heap.size)
    {gf : Nat} {lb : Array Value} (hg : a.eval g = .func (.func gf) #[] lb) (eg : ∀ args w, (callFunc gf args).run P w = .ok (.enter gf args) w)
    {Arg : α → Array Value → (Nat → Prop) → World → Prop} {K M : Nat → Prop} {xs : List α} {Fin : World → Prop} (hit : IterF P gf lb Arg K M xs Fin w) (hF0 : ∀ a b, Fin a → Only (fun k => w.heap.size ≤ k) a b → Fin b)
    (hK : ∀ k, K k → k < w.heap.size)
    (C : Nat → Prop) (hC : ∀ k, C k → k < w.heap.size ∧ ¬ K k)
    (I : List α → (Nat → Prop) → World → Prop) (Ix : Code → List α → (Nat → Prop) → World → Prop)
    (hI : Bears w.heap.size M I) (hIx : ∀ c, Bears w.heap.size M (Ix c)) (h0 : I [] C w)
    (hps : ∀ x args O W, Arg x args O W → args.size = ps.size)
    (hround : ∀ (pre : List α) (x : α) (args : Array Value) (C O : Nat → Prop) (W : World), pre ++ [x] <+: xs → I pre C W → w.heap.size ≤ W.heap.size → (∀ k, C k → k < W.heap.size) → (∀ k, O k → ¬ C k ∧ k < W.heap.size ∧ w.heap.size ≤ k) → Arg x args O W → l < W.heap.size → ¬ C l → ¬ O l →
      ∀ T : Act → World → Prop, (∀ a₁ w₁, Only (fun k => C k ∨ O k) W w₁ → (∀ w₂, Only (fun k => k = l) w₁ w₂ → (∃ r, w₂.heap[l]? = some (.loop r) ∧ r.defers = D) → body.wpIn (F.inRound l) (n - 1 - 1) P (RoundEnd I Ix (pre ++ [x]) C O w₂) a₁ w₂) → T a₁ w₁) →
      assign.wpIn (F.inRound l) (n - 1 - 1) P (Exit.then T (fun _ _ _ => False)) { tmps := (ps.zip args).foldl (fun t (p, v) => t.setIfInBounds p v) a.tmps, defers := [] } W)
    (hdone : ∀ (C' : Nat → Prop) (W : World), I xs C' W → Fin W → (∀ k, S k → ¬ C' k) → (∀ k, S k → k ≠ l → W.heap[k]? = W1.heap[k]?) → W1.heap.size ≤ W.heap.size → Q .normal { a with defers := mark ++ a.defers } W)
    (hstop : ∀ (c : Code) (pre : List α) (C' : Nat → Prop) (W : World), pre <+: xs → Ix c pre C' W → (∀ k, S k → ¬ C' k) → (∀ k, S k → k ≠ l → W.heap[k]? = W1.heap[k]?) → W1.heap.size ≤ W.heap.size → c.wpIn F n P Q { a with defers := mark ++ a.defers } W) :
    (Code.rangeFunc g ps assign body).wpIn F n P Q a w := by
  refine wpIn_rangeFunc ?_
  intro fn hfn
  obtain ⟨rec, hrec⟩ : ∃ rec : LoopState → Option Code → Loop, rec = recOf fn a.tmps ps assign body D := ⟨_, rfl⟩
  obtain ⟨W2, hW2⟩ : ∃ W2, W1.putObj l (.loop (rec .ready none)) = W2 := ⟨_, rfl⟩
  have hl1 : l < W1.heap.size := (hS l hSl).2
  have hwl : w.heap.size ≤ l := (hS l hSl).1
  have hL2 : W2.heap[l]? = some (.loop (rec .ready none)) := by rw [← hW2]; exact World.putObj_heap_same hl1
  have hs2 : W2.heap.size = W1.heap.size := by rw [← hW2]; simp
  have hS2 : ∀ k, S k → k ≠ l → W2.heap[k]? = W1.heap[k]? := fun k _ hk => by rw [← hW2]; exact World.putObj_heap_other hk
  have ho2 : Only (fun _ => False) w W2 := by rw [← hW2]; exact (Only.of_new hw1).putObj (.inr hwl) _
  have hI0 : I [] C W2 := hI _ _ _ _ h0 (Stays.of_only ho2 (fun _ _ h => h.elim))
  refine ⟨l, mark, W2, { target := .fn (.func gf) lb, args := #[.func (.yield l) #[] #[]] }, W2, gf, #[.func (.yield l) #[] #[]] ++ lb, W2, ?_, ?_, ?_, ?_, (fun h => by rw [hd] at h; cases h), ?_⟩
  · rw [hent fn, ← hW2, hrec]
  · simp only [resolve, hg]
    simp [go_sem]
  · intro f' _; exact hF f'
  · simp [invoke, go_sem, eg]
  · refine hcall _ _ _ _ ((hit l
      (fun pre C' W => ∃ C0, (∀ k, C' k ↔ (C0 k ∨ S k)) ∧ (∀ k, C0 k → k < W.heap.size) ∧ (∀ k, S k → ¬ C0 k) ∧ I pre C0 W ∧ W.heap[l]? = some (.loop (rec .ready none)) ∧ (∀ k, S k → k ≠ l → W.heap[k]? = W1.heap[k]?) ∧ W1.heap.size ≤ W.heap.size)
      (fun pre C' W => ∃ C0 c, (∀ k, C' k ↔ (C0 k ∨ S k)) ∧ (∀ k, C0 k → k < W.heap.size) ∧ (∀ k, S k → ¬ C0 k) ∧ Ix c pre C0 W ∧ W.heap[l]? = some (.loop (rec .done (some c))) ∧ (∀ k, S k → k ≠ l → W.heap[k]? = W1.heap[k]?) ∧ W1.heap.size ≤ W.heap.size)
      (fun k => C k ∨ S k) W2 (Later.of_only ho2 (fun _ _ h => h)) ?_ ?_ ?_ ?_ ?_).mono ?_)
    · rintro k (hk | hk)
      · have := hC k hk; have := hw1.size; exact ⟨by omega, (hC k hk).2⟩
      · have := hS k hk; exact ⟨by omega, fun h => by have := hK k h; omega⟩
    · rintro pre C' A B ⟨C0, hc, hlt, hn, hi, hl, hs, hsz⟩ hst
      have hcl : ∀ k, k < A.heap.size → C' k → B.heap[k]? = A.heap[k]? := fun k hk hck => hst.block k hk (.inl hck)
      refine ⟨C0, hc, fun k hk => Nat.lt_of_lt_of_le (hlt k hk) hst.size, hn, hI _ _ _ _ hi (hst.mono fun k _ hk => ?_), ?_, fun k hk hkl => ?_, Nat.le_trans hsz hst.size⟩
      · rcases hk with hk | ⟨h1, h2⟩
        · exact .inl ((hc k).2 (.inl hk))
        · exact .inr ⟨by have := hw1.size; omega, h2⟩
      · exact (hcl l (by omega) ((hc l).2 (.inr hSl))).trans hl
      · exact (hcl k (by have := (hS k hk).2; omega) ((hc k).2 (.inr hk))).trans (hs k hk hkl)
    · rintro pre C' A B ⟨C0, c, hc, hlt, hn, hi, hl, hs, hsz⟩ hst
      have hcl : ∀ k, k < A.heap.size → C' k → B.heap[k]? = A.heap[k]? := fun k hk hck => hst.block k hk (.inl hck)
      refine ⟨C0, c, hc, fun k hk => Nat.lt_of_lt_of_le (hlt k hk) hst.size, hn, hIx c _ _ _ _ hi (hst.mono fun k _ hk => ?_), ?_, fun k hk hkl => ?_, Nat.le_trans hsz hst.size⟩
      · rcases hk with hk | ⟨h1, h2⟩
        · exact .inl ((hc k).2 (.inl hk))
        · exact .inr ⟨by have := hw1.size; omega, h2⟩
      · exact (hcl l (by omega) ((hc l).2 (.inr hSl))).trans hl
      · exact (hcl k (by have := (hS k hk).2; omega) ((hc k).2 (.inr hk))).trans (hs k hk hkl)
    · -- one round
      rintro pre x C' W args O hpre ⟨C0, hc, hlt, hn, hi, hl, hs, hsz⟩ hWW hC' hO harg
      have hlW : l < W.heap.size := by omega
      have hy := run_yield (P := P) (args := args) hl (by rw [hrec]; exact hps x args O W harg)
      refine hrl l (n - 1 - 1) args W _ ⟨fn, _, assign, body, by rw [hrec] at hy; exact hy, roundIn_of_wpIn hfn ?_⟩
      have hOl : ¬ O l := fun h => (hO l h).1 ((hc l).2 (.inr hSl))
      refine hround pre x args C0 O W hpre hi (by have := hw1.size; omega) hlt (fun k hk => ⟨fun h => (hO k hk).1 ((hc k).2 (.inl h)), (hO k hk).2.1, by have := (hO k hk).2.2; have := hw1.size; omega⟩) harg hlW (hn l hSl) hOl _ ?_
      intro a₁ w₁ ho1 hbody
      have hl1' : w₁.heap[l]? = some (.loop (rec .ready none)) := (ho1.block l hlW (fun h => h.elim (hn l hSl) hOl)).trans hl
      have hb := run_beginRound (P := P) hl1' (by rw [hrec]; rfl)
      refine ⟨_, hb, ?_⟩
      obtain ⟨w₂, hw₂⟩ : ∃ w₂, w₁.putObj l (.loop { rec .ready none with state := .busy }) = w₂ := ⟨_, rfl⟩
      rw [hw₂]
      have hlw1 : l < w₁.heap.size := Nat.lt_of_lt_of_le hlW ho1.size
      have hl2 : w₂.heap[l]? = some (.loop { rec .ready none with state := .busy }) := by rw [← hw₂]; exact World.putObj_heap_same hlw1
      have ho12 : Only (fun k => k = l) w₁ w₂ := by rw [← hw₂]; exact Only.put_one _ _ _
      have hsw : w₂.heap.size = w₁.heap.size := by rw [← hw₂]; simp
      have hrd : (rec .ready none).defers = D := by rw [hrec]; rfl
      refine wpIn_mono (hbody w₂ ho12 ⟨_, hl2, hrd⟩) ?_
      have fin : ∀ (jump : Option Code) (W3 : World) (C3 : Nat → Prop), Only (fun k => C0 k ∨ O k) w₂ W3 → Grows C0 O C3 w₂ W3 →
          (Instr.endRound l jump).run P W3 = .ok (.bool jump.isNone) (W3.putObj l (.loop (rec (if jump.isNone then .ready else .done) jump))) ∧
          Only (fun k => C' k ∨ O k) W (W3.putObj l (.loop (rec (if jump.isNone then .ready else .done) jump))) ∧
          Grows C' O (fun k => C3 k ∨ S k) W (W3.putObj l (.loop (rec (if jump.isNone then .ready else .done) jump))) ∧
          (∀ k, S k → ¬ C3 k) ∧ (∀ k, C3 k → k < W3.heap.size) ∧
          (W3.putObj l (.loop (rec (if jump.isNone then .ready else .done) jump))).heap[l]? = some (.loop (rec (if jump.isNone then .ready else .done) jump)) ∧
          (∀ k, S k → k ≠ l → (W3.putObj l (.loop (rec (if jump.isNone then .ready else .done) jump))).heap[k]? = W1.heap[k]?) ∧
          Stays w.heap.size M C3 W3 (W3.putObj l (.loop (rec (if jump.isNone then .ready else .done) jump))) := fun jump W3 C3 ho3 hg3 => by
        have hSO : ∀ k, S k → ¬ O k := fun k hk h => (hO k h).1 ((hc k).2 (.inr hk))
        have hl3 : W3.heap[l]? = some (.loop { rec .ready none with state := .busy }) := (ho3.block l (by omega) (fun h => h.elim (hn l hSl) hOl)).trans hl2
        have hr3 := run_endRound (P := P) jump hl3
        have hsz3 := ho3.size
        have hsz1 := ho1.size
        have hoW3 : Only (fun k => C' k ∨ O k) W W3 := by
          have h1 : Only (fun k => C' k ∨ O k) W w₁ := ho1.mono fun k _ h => h.imp (fun h => (hc k).2 (.inl h)) id
          have h2 : Only (fun k => C' k ∨ O k) w₁ w₂ := ho12.mono fun k _ h => by subst h; exact .inl ((hc _).2 (.inr hSl))
          have h3 : Only (fun k => C' k ∨ O k) w₂ W3 := ho3.mono fun k _ h => h.imp (fun h => (hc k).2 (.inl h)) id
          exact (h1.trans h2).trans h3
        have hnS : ∀ k, S k → ¬ C3 k := fun k hk h => by
          rcases hg3 k h with h | h | h
          · exact hn k hk h
          · exact hSO k hk h
          · have := (hS k hk).2; omega
        refine ⟨?_, hoW3.putObj (.inl (.inl ((hc l).2 (.inr hSl)))) _, ?_, hnS, ?_, World.putObj_heap_same (by omega), ?_, ?_⟩
        · rw [hr3, hrec]; rfl
        · rintro k (hk | hk)
          · rcases hg3 k hk with h | h | h
            · exact .inl ((hc k).2 (.inl h))
            · exact .inr (.inl h)
            · exact .inr (.inr ⟨by omega, by simp; omega⟩)
          · exact .inl ((hc k).2 (.inr hk))
        · intro k hk
          rcases hg3 k hk with h | h | h
          · have := hlt k h; omega
          · have := (hO k h).2.1; omega
          · omega
        · intro k hk hkl
          refine (World.putObj_heap_other hkl).trans ((ho3.block k (by have := (hS k hk).2; omega) (fun h => h.elim (hn k hk) (hSO k hk))).trans ((ho12.block k (by have := (hS k hk).2; omega) hkl).trans
            ((ho1.block k (by have := (hS k hk).2; omega) (fun h => h.elim (hn k hk) (hSO k hk))).trans (hs k hk hkl))))
        · exact Stays.of_only (D := fun k => k = l) (Only.put_one _ _ _) fun k _ hk => by subst hk; exact ⟨hnS _ hSl, .inl hwl⟩
      rintro e a3 W3 hp
      have hw1s := hw1.size
      cases e with
      | normal =>
        obtain ⟨C3, ho3, hg3, hi3⟩ := hp
        obtain ⟨r1, r2, r3, r4, r5, r6, r7, r8⟩ := fin none W3 C3 ho3 hg3
        exact ⟨_, _, r1, _, true, r2, r3, rfl, fun _ => ⟨C3, fun _ => Iff.rfl, fun k hk => by simpa using r5 k hk, r4, hI _ _ _ _ hi3 r8, r6, r7, by simp; have := ho3.size; have := ho1.size; omega⟩, fun h => by cases h⟩
      | ret =>
        obtain ⟨C3, ho3, hg3, hi3⟩ := hp
        obtain ⟨r1, r2, r3, r4, r5, r6, r7, r8⟩ := fin (some .ret) W3 C3 ho3 hg3
        exact ⟨_, _, r1, _, false, r2, r3, rfl, (fun h => by cases h), fun _ => ⟨C3, .ret, fun _ => Iff.rfl, fun k hk => by simpa using r5 k hk, r4, hIx _ _ _ _ _ hi3 r8, r6, r7, by simp; have := ho3.size; have := ho1.size; omega⟩⟩
      | exit id =>
        obtain ⟨C3, ho3, hg3, hi3⟩ := hp
        obtain ⟨r1, r2, r3, r4, r5, r6, r7, r8⟩ := fin (some (.exit id)) W3 C3 ho3 hg3
        exact ⟨_, _, r1, _, false, r2, r3, rfl, (fun h => by cases h), fun _ => ⟨C3, .exit id, fun _ => Iff.rfl, fun k hk => by simpa using r5 k hk, r4, hIx _ _ _ _ _ hi3 r8, r6, r7, by simp; have := ho3.size; have := ho1.size; omega⟩⟩
      | goto t =>
        obtain ⟨C3, ho3, hg3, hi3⟩ := hp
        obtain ⟨r1, r2, r3, r4, r5, r6, r7, r8⟩ := fin (some (.goto t)) W3 C3 ho3 hg3
        exact ⟨_, _, r1, _, false, r2, r3, rfl, (fun h => by cases h), fun _ => ⟨C3, .goto t, fun _ => Iff.rfl, fun k hk => by simpa using r5 k hk, r4, hIx _ _ _ _ _ hi3 r8, r6, r7, by simp; have := ho3.size; have := ho1.size; omega⟩⟩
      | panic ch => exact hp.elim
      | outgrown => exact hp.elim
    · refine ⟨C, fun _ => Iff.rfl, fun k hk => by have := (hC k hk).1; have := hw1.size; omega, fun k hk h => by have := (hC k h).1; have := (hS k hk).1; omega, hI0, hL2, hS2, by omega⟩
    · -- behind the iterator
      rintro e W3 ⟨⟨v, rfl⟩, C', (⟨⟨C0, hc, hlt, hn, hi, hl, hs, hsz⟩, hfin⟩ | ⟨pre, hpre, C0, c, hc, hlt, hn, hi, hl, hs, hsz⟩)⟩
      · have hst : Stays w.heap.size M C0 W3 (W3.putObj l (.loop (rec .exhausted none))) := Stays.of_only (D := fun k => k = l) (Only.put_one _ _ _) fun k _ hk => by subst hk; exact ⟨hn _ hSl, .inl hwl⟩
        refine ⟨none, _, by have := run_endLoop (P := P) hl (by rw [hrec]; simp [recOf]); rw [hrec] at this; exact this, ?_⟩
        rw [hrec] at hst
        exact hdone C0 _ (hI _ _ _ _ hi hst) (hF0 _ _ hfin ((Only.put_one _ _ _).mono fun k _ hk => by subst hk; exact hwl)) hn (fun k hk hkl => (World.putObj_heap_other hkl).trans (hs k hk hkl)) (by simpa using hsz)
      · have hst : Stays w.heap.size M C0 W3 (W3.putObj l (.loop (rec .exhausted (some c)))) := Stays.of_only (D := fun k => k = l) (Only.put_one _ _ _) fun k _ hk => by subst hk; exact ⟨hn _ hSl, .inl hwl⟩
        refine ⟨some c, _, by have := run_endLoop (P := P) hl (by rw [hrec]; simp [recOf]); rw [hrec] at this; exact this, ?_⟩
        rw [hrec] at hst
        exact hstop c pre C0 _ hpre (hIx c _ _ _ _ hi hst) hn (fun k hk hkl => (World.putObj_heap_other hkl).trans (hs k hk hkl)) (by simpa using hsz)

/-- A range over a function in a function's own frame. -/
theorem rangeF_outer {α : Type} {n : Nat} {P : Program} {g : Operand} {ps : Array Tmp} {assign body : Code} {Q : Exit → Act → World → Prop} {a : Act} {w : World}
    {gf : Nat} {lb : Array Value} (hg : a.eval g = .func (.func gf) #[] lb) (eg : ∀ args w, (callFunc gf args).run P w = .ok (.enter gf args) w)
    {Arg : α → Array Value → (Nat → Prop) → World → Prop} {K M : Nat → Prop} {xs : List α} {Fin : World → Prop} (hit : IterF P gf lb Arg K M xs Fin w) (hF0 : ∀ a b, Fin a → Only (fun k => w.heap.size ≤ k) a b → Fin b)
    (hK : ∀ k, K k → k < w.heap.size)
    (C : Nat → Prop) (hC : ∀ k, C k → k < w.heap.size ∧ ¬ K k)
    (I : List α → (Nat → Prop) → World → Prop) (Ix : Code → List α → (Nat → Prop) → World → Prop)
    (hI : Bears w.heap.size M I) (hIx : ∀ c, Bears w.heap.size M (Ix c)) (h0 : I [] C w)
    (hps : ∀ x args O W, Arg x args O W → args.size = ps.size)
    (hround : ∀ (l : Nat) (pre : List α) (x : α) (args : Array Value) (C O : Nat → Prop) (W : World), pre ++ [x] <+: xs → I pre C W → w.heap.size < l → (∀ k, C k → k < W.heap.size) → (∀ k, O k → ¬ C k ∧ k < W.heap.size ∧ w.heap.size ≤ k) → Arg x args O W → l < W.heap.size → ¬ C l → ¬ O l →
      ∀ T : Act → World → Prop, (∀ a₁ w₁, Only (fun k => C k ∨ O k) W w₁ → (∀ w₂, Only (fun k => k = l) w₁ w₂ → (∃ r, w₂.heap[l]? = some (.loop r)) → body.wpIn (Fence.wide.inRound l) (n - 1 - 1) P (RoundEnd I Ix (pre ++ [x]) C O w₂) a₁ w₂) → T a₁ w₁) →
      assign.wpIn (Fence.wide.inRound l) (n - 1 - 1) P (Exit.then T (fun _ _ _ => False)) { tmps := (ps.zip args).foldl (fun t (p, v) => t.setIfInBounds p v) a.tmps, defers := [] } W)
    (hdone : ∀ (C' : Nat → Prop) (W : World), I xs C' W → Fin W → ¬ C' w.heap.size → W.heap[w.heap.size]? = some (.deferred (some [])) → Q .normal { a with defers := { target := .collected w.heap.size, args := #[] } :: a.defers } W)
    (hstop : ∀ (c : Code) (pre : List α) (C' : Nat → Prop) (W : World), pre <+: xs → Ix c pre C' W → ¬ C' w.heap.size → W.heap[w.heap.size]? = some (.deferred (some [])) →
      c.wpIn Fence.wide n P Q { a with defers := { target := .collected w.heap.size, args := #[] } :: a.defers } W) :
    (Code.rangeFunc g ps assign body).wpIn Fence.wide n P Q a w := by
  have hD : ((w.alloc (.deferred (some []))).alloc (.loop (recOf 0 #[] #[] .skip .skip w.heap.size .ready none))).heap[w.heap.size]? = some (.deferred (some [])) :=
    (Below.heap_alloc _ _ _ (by simp)).trans (World.alloc_heap_new w _)
  refine rangeF_core (F := Fence.wide) (W1 := (w.alloc (.deferred (some []))).alloc (.loop (recOf 0 #[] #[] .skip .skip w.heap.size .ready none))) (l := w.heap.size + 1) (D := w.heap.size) (S := fun k => k = w.heap.size ∨ k = w.heap.size + 1)
    (mark := [{ target := .collected w.heap.size, args := #[] }]) (fun _ => trivial) rfl (fun _ _ _ _ h => callsIn_wide.2 h) (fun _ _ _ _ _ h => yieldAt_wide h) ?_ ?_ (.inr rfl) ?_ hg eg hit hF0 hK C hC I Ix hI hIx h0 hps ?_ ?_ ?_
  · intro fn
    have e : w.heap.size + 1 = (w.alloc (.deferred (some []))).heap.size := by simp
    rw [show Fence.wide.round = none from rfl, run_enterLoop_outer]
    congr 1
    rw [e, putObj_alloc]
    rfl
  · exact ((Below.refl _ _).alloc (Nat.le_refl _) _).alloc (by simp) _
  · intro k hk
    have e : ((w.alloc (.deferred (some []))).alloc (.loop (recOf 0 #[] #[] .skip .skip w.heap.size .ready none))).heap.size = w.heap.size + 1 + 1 := by simp
    rw [e]
    rcases hk with rfl | rfl <;> omega
  · intro pre x args C O W h1 h2 h3 h4 h5 h6 h7 h8 h9 T hT
    exact hround (w.heap.size + 1) pre x args C O W h1 h2 (by omega) h4 h5 h6 h7 h8 h9 T fun a₁ w₁ ho hb => hT a₁ w₁ ho fun w₂ h2 hr => hb w₂ h2 (hr.imp fun _ h => h.1)
  · intro C' W hi hf hs hk _
    exact hdone C' W hi hf (hs _ (.inl rfl)) ((hk _ (.inl rfl) (by omega)).trans hD)
  · intro c pre C' W hp hi hs hk _
    exact hstop c pre C' W hp hi (hs _ (.inl rfl)) ((hk _ (.inl rfl) (by omega)).trans hD)

end Go.Proofs.YtplgbapbgcipdaaGreat

/-! Plain laws of the list of all spanning trees: grown single edge by single edge they come in order, and are just those of all sets that span. No program is in sight. -/
namespace Go.Proofs.YtplgbapbgcipdaaGreat

/-- A spanning tree. -/
structure IsTr (n : Nat) (E : List (Nat × Nat)) (t : List Nat) : Prop where
  set : SetN E.length t
  len : t.length + 1 = n
  fo : Fo (pk E t)
theorem nodup_map_of {α β : Type} {f : α → β} : ∀ {l : List α}, (∀ a ∈ l, ∀ b ∈ l, f a = f b → a = b) → l.Nodup → (l.map f).Nodup
  | [], _, _ => .nil
  | a :: l, h, hn => by
    rw [List.nodup_cons] at hn
    rw [List.map_cons, List.nodup_cons]
    refine ⟨fun hm => ?_, nodup_map_of (fun a ha b hb => h a (by simp [ha]) b (by simp [hb])) hn.2⟩
    obtain ⟨b, hb, he⟩ := List.mem_map.1 hm
    exact hn.1 (h b (by simp [hb]) a (by simp) he ▸ hb)
/-- Numbers as ints. -/
def nI (l : List Nat) : List Int := l.map fun u : Nat => (u : Int)
section
variable {n : Nat} {E : List (Nat × Nat)} {t x : List Nat}
theorem IsTr.cn (h : IsTr n E t) (hb : BdP n E) {a b : Nat} (ha : a < n) (hb' : b < n) : Cn (pk E t) a b := by
  have h1 := (tree_of_fo (bd_pk hb h.set.2) h.fo).2 (by rw [pk_length]; exact h.len)
  rw [partsP_one (by omega)] at h1
  exact (h1 a ha).symm.trans (h1 b hb')
end
end Go.Proofs.YtplgbapbgcipdaaGreat

/-! Plain: how many single edges lead from a vertex to others, and to marked ones; by edges and by vertices. -/
namespace Go.Proofs.YtplgbapbgcipdaaGreat

/-- What an edge gives. -/
def valT (v : Int) (e : Int × Int × Int) : Int := if e.1 ≠ e.2.1 ∧ (e.1 = v ∨ e.2.1 = v) then e.2.2 else 0
def valE (es : List (Int × Int × Int)) (v : Int) : Int := (es.map (valT v)).sum
def jnT (l : List Nat) (v : Int) (e : Int × Int × Int) : Int := if e.1 ≠ e.2.1 ∧ ((e.1 = v ∧ e.2.1.toNat ∈ l) ∨ (e.2.1 = v ∧ e.1.toNat ∈ l)) then e.2.2 else 0
def jnE (es : List (Int × Int × Int)) (l : List Nat) (v : Int) : Int := (es.map (jnT l v)).sum
theorem valE_snoc {es : List (Int × Int × Int)} {k : Nat} {e : Int × Int × Int} (h : es[k]? = some e) (v : Int) : valE (es.take (k + 1)) v = valE (es.take k) v + valT v e := by
  rw [List.take_add_one, h]; simp [valE]
theorem jnE_snoc {es : List (Int × Int × Int)} {k : Nat} {e : Int × Int × Int} (h : es[k]? = some e) (l : List Nat) (v : Int) : jnE (es.take (k + 1)) l v = jnE (es.take k) l v + jnT l v e := by
  rw [List.take_add_one, h]; simp [jnE]
theorem valT_bd {n : Int} {e : Int × Int × Int} (h : okE n e) (v : Int) : 0 ≤ valT v e ∧ valT v e ≤ 50 := by
  unfold okE at h; unfold valT; split <;> omega
theorem jnT_bd {n : Int} {e : Int × Int × Int} (h : okE n e) (l : List Nat) (v : Int) : 0 ≤ jnT l v e ∧ jnT l v e ≤ 50 := by
  unfold okE at h; unfold jnT; split <;> omega
theorem valE_bd {n : Int} {es : List (Int × Int × Int)} (h : ∀ e ∈ es, okE n e) (v : Int) : 0 ≤ valE es v ∧ valE es v ≤ 50 * es.length := by
  induction es with
  | nil => simp [valE]
  | cons e es ih =>
    have h1 := ih fun x hx => h x (by simp [hx])
    have h2 := valT_bd (h e (by simp)) v
    simp only [valE, List.map_cons, List.sum_cons, List.length_cons] at *
    omega
theorem jnE_bd {n : Int} {es : List (Int × Int × Int)} (h : ∀ e ∈ es, okE n e) (l : List Nat) (v : Int) : 0 ≤ jnE es l v ∧ jnE es l v ≤ 50 * es.length := by
  induction es with
  | nil => simp [jnE]
  | cons e es ih =>
    have h1 := ih fun x hx => h x (by simp [hx])
    have h2 := jnT_bd (h e (by simp)) l v
    simp only [jnE, List.map_cons, List.sum_cons, List.length_cons] at *
    omega
/-- The sum over the vertices below k that are in the list. -/
theorem flmTo_append {n : Int} {es fs : List (Int × Int × Int)} (h : (es ++ fs).Pairwise ltE) (hok : ∀ e ∈ es, okE n e) (l : List Nat) (v k : Nat) : flmTo (es ++ fs) l v k = flmTo es l v k + flmTo fs l v k := by
  induction k with
  | zero => rfl
  | succ k ih =>
    simp only [flmTo]
    rw [ih, tt_append h hok]
    split <;> omega
theorem flmTo_one {n : Nat} {e : Int × Int × Int} (hok : okE n e) (l : List Nat) (v k : Nat) : flmTo [e] l v k = if e.1 ≠ e.2.1 ∧ ((e.1 = v ∧ e.2.1.toNat ∈ l ∧ e.2.1.toNat < k) ∨ (e.2.1 = v ∧ e.1.toNat ∈ l ∧ e.1.toNat < k)) then e.2.2 else 0 := by
  unfold okE at hok
  induction k with
  | zero => simp [flmTo]
  | succ k ih =>
    simp only [flmTo]
    rw [ih]
    have ht : tt [e] v k = if e.1 ≠ e.2.1 ∧ ((e.1 = v ∧ e.2.1.toNat = k) ∨ (e.2.1 = v ∧ e.1.toNat = k)) then e.2.2 else 0 := by
      unfold tt
      rw [btw_cons, btw_nil]
      by_cases hvk : v = k
      · subst hvk
        rw [if_pos rfl, if_neg (by omega)]
      · rw [if_neg hvk]
        by_cases h2 : e.1 = min (v : Int) (k : Int) ∧ e.2.1 = max (v : Int) (k : Int)
        · rw [if_pos h2, if_pos (by omega)]
        · rw [if_neg h2, if_neg (by omega)]
    rw [ht]
    by_cases hk : k ∈ l
    · rw [if_pos hk]
      by_cases h1 : e.1 ≠ e.2.1 ∧ ((e.1 = v ∧ e.2.1.toNat ∈ l ∧ e.2.1.toNat < k) ∨ (e.2.1 = v ∧ e.1.toNat ∈ l ∧ e.1.toNat < k))
      · rw [if_pos h1, if_neg (by omega), if_pos (match h1 with | ⟨h0, .inl ⟨h2, h3, h4⟩⟩ => ⟨h0, .inl ⟨h2, h3, by omega⟩⟩ | ⟨h0, .inr ⟨h2, h3, h4⟩⟩ => ⟨h0, .inr ⟨h2, h3, by omega⟩⟩)]
        omega
      · rw [if_neg h1]
        by_cases h5 : e.1 ≠ e.2.1 ∧ ((e.1 = v ∧ e.2.1.toNat = k) ∨ (e.2.1 = v ∧ e.1.toNat = k))
        · rw [if_pos h5, if_pos (match h5 with | ⟨h0, .inl ⟨h2, h3⟩⟩ => ⟨h0, .inl ⟨h2, by rw [h3]; exact hk, by omega⟩⟩ | ⟨h0, .inr ⟨h2, h3⟩⟩ => ⟨h0, .inr ⟨h2, by rw [h3]; exact hk, by omega⟩⟩)]
          omega
        · rw [if_neg h5, if_neg (fun ⟨h0, h6⟩ => by
            rcases h6 with ⟨h2, h3, h4⟩ | ⟨h2, h3, h4⟩
            · rcases Nat.lt_or_ge e.2.1.toNat k with h7 | h7
              · exact h1 ⟨h0, .inl ⟨h2, h3, h7⟩⟩
              · exact h5 ⟨h0, .inl ⟨h2, by omega⟩⟩
            · rcases Nat.lt_or_ge e.1.toNat k with h7 | h7
              · exact h1 ⟨h0, .inr ⟨h2, h3, h7⟩⟩
              · exact h5 ⟨h0, .inr ⟨h2, by omega⟩⟩)]
          omega
    · rw [if_neg hk]
      have : (e.1 ≠ e.2.1 ∧ ((e.1 = v ∧ e.2.1.toNat ∈ l ∧ e.2.1.toNat < k + 1) ∨ (e.2.1 = v ∧ e.1.toNat ∈ l ∧ e.1.toNat < k + 1))) ↔ (e.1 ≠ e.2.1 ∧ ((e.1 = v ∧ e.2.1.toNat ∈ l ∧ e.2.1.toNat < k) ∨ (e.2.1 = v ∧ e.1.toNat ∈ l ∧ e.1.toNat < k))) := by
        constructor
        · rintro ⟨h0, ⟨h2, h3, h4⟩ | ⟨h2, h3, h4⟩⟩
          · refine ⟨h0, .inl ⟨h2, h3, ?_⟩⟩
            rcases Nat.lt_or_ge e.2.1.toNat k with h7 | h7
            · exact h7
            · rw [show e.2.1.toNat = k by omega] at h3; exact absurd h3 hk
          · refine ⟨h0, .inr ⟨h2, h3, ?_⟩⟩
            rcases Nat.lt_or_ge e.1.toNat k with h7 | h7
            · exact h7
            · rw [show e.1.toNat = k by omega] at h3; exact absurd h3 hk
        · rintro ⟨h0, ⟨h2, h3, h4⟩ | ⟨h2, h3, h4⟩⟩
          · exact ⟨h0, .inl ⟨h2, h3, by omega⟩⟩
          · exact ⟨h0, .inr ⟨h2, h3, by omega⟩⟩
      simp only [this]
      omega
theorem jnE_flm {n : Nat} {es : List (Int × Int × Int)} (h : RightG n es) (l : List Nat) (v : Nat) : jnE es l v = flmTo es l v n := by
  have hs := h.sorted
  have hok := h.ok
  clear h
  induction es using snocRec with
  | h0 =>
    have : ∀ k, flmTo [] l v k = 0 := fun k => by
      induction k with
      | zero => rfl
      | succ k ih => simp only [flmTo]; rw [ih]; simp [tt, btw]
    rw [this]; rfl
  | h1 es e ih =>
    have hs1 : es.Pairwise ltE := (List.pairwise_append.1 hs).1
    have ho1 : ∀ x ∈ es, okE n x := fun x hx => hok x (by simp [hx])
    have hoe := hok e (by simp)
    rw [flmTo_append hs ho1, ← ih hs1 ho1, flmTo_one hoe]
    unfold jnE
    rw [List.map_append, List.sum_append]
    simp only [List.map_cons, List.map_nil, List.sum_cons, List.sum_nil, Int.add_zero]
    congr 1
    unfold jnT
    unfold okE at hoe
    have : (e.1 ≠ e.2.1 ∧ ((e.1 = (v : Int) ∧ e.2.1.toNat ∈ l) ∨ (e.2.1 = (v : Int) ∧ e.1.toNat ∈ l))) ↔ (e.1 ≠ e.2.1 ∧ ((e.1 = (v : Int) ∧ e.2.1.toNat ∈ l ∧ e.2.1.toNat < n) ∨ (e.2.1 = (v : Int) ∧ e.1.toNat ∈ l ∧ e.1.toNat < n))) := by
      constructor
      · rintro ⟨h0, ⟨h2, h3⟩ | ⟨h2, h3⟩⟩
        · exact ⟨h0, .inl ⟨h2, h3, by omega⟩⟩
        · exact ⟨h0, .inr ⟨h2, h3, by omega⟩⟩
      · rintro ⟨h0, ⟨h2, h3, _⟩ | ⟨h2, h3, _⟩⟩
        · exact ⟨h0, .inl ⟨h2, h3⟩⟩
        · exact ⟨h0, .inr ⟨h2, h3⟩⟩
    simp only [this]
theorem valE_jn {n : Nat} {es : List (Int × Int × Int)} (hok : ∀ e ∈ es, okE n e) (v : Int) : valE es v = jnE es (List.range n) v := by
  induction es with
  | nil => rfl
  | cons e es ih =>
    have h1 := ih fun x hx => hok x (by simp [hx])
    have h2 := hok e (by simp)
    unfold okE at h2
    unfold valE jnE at *
    simp only [List.map_cons, List.sum_cons]
    rw [h1]
    congr 1
    unfold valT jnT
    have : (e.1 ≠ e.2.1 ∧ (e.1 = v ∨ e.2.1 = v)) ↔ (e.1 ≠ e.2.1 ∧ ((e.1 = v ∧ e.2.1.toNat ∈ List.range n) ∨ (e.2.1 = v ∧ e.1.toNat ∈ List.range n))) := by
      simp only [List.mem_range]
      constructor
      · rintro ⟨h0, h | h⟩
        · exact ⟨h0, .inl ⟨h, by omega⟩⟩
        · exact ⟨h0, .inr ⟨h, by omega⟩⟩
      · rintro ⟨h0, ⟨h, _⟩ | ⟨h, _⟩⟩
        · exact ⟨h0, .inl h⟩
        · exact ⟨h0, .inr h⟩
    simp only [this]
end Go.Proofs.YtplgbapbgcipdaaGreat

