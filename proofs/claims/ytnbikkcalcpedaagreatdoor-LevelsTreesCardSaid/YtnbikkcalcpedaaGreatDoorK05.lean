/-
 Texts of this claim, put together: IterF, TreeR, Funcs.
-/
import Derived.Test.YtnbikkcalcpedaaGreatDoorK03
import Derived.Test.YtnbikkcalcpedaaGreatDoorK02
import Derived.WalkKit
namespace Go.Proofs.YtnbikkcalcpedaaGreatDoor
open Go.RowKit Go.Shelf
def IterF {α : Type} (P : Program) (g : Nat) (lb : Array Value) (Arg : α → Array Value → (Nat → Prop) → World → Prop) (K M : Nat → Prop) (xs : List α) (Fin : World → Prop) (W0 : World) : Prop :=
 ∀ (l : Nat) (J Jx : List α → (Nat → Prop) → World → Prop) (C : Nat → Prop) (W : World), Later K W0 W → (∀ k, C k → k < W.heap.size ∧ ¬ K k) → Bears W.heap.size M J → Bears W.heap.size M Jx →
   (∀ pre x C W1 args O, pre ++ [x] <+: xs → J pre C W1 → W.heap.size ≤ W1.heap.size → (∀ k, C k → k < W1.heap.size) → (∀ k, O k → ¬ C k ∧ k < W1.heap.size ∧ W.heap.size ≤ k) → Arg x args O W1 → Round P l J Jx pre x C O W1 args) →
   J [] C W →
   Calls P g (#[.func (.yield l) #[] #[]] ++ lb) W fun e W' => (∃ v, e = .returned v) ∧ ∃ C', ((J xs C' W' ∧ Fin W') ∨ ∃ pre, pre <+: xs ∧ Jx pre C' W')
theorem rangeF_core {α : Type} {F : Fence} {n : Nat} {P : Program} (hF : ∀ f, F.fn f) (hd : F.depth = none) (hcall : ∀ f args w R, Calls P f args w R → CallsIn F (n - 1) P f args w R) (hrl : ∀ l m args W R, YieldAt F m P l args W R → YieldAt Fence.wide 0 P l args W R)
  {g : Operand} {ps : Array Tmp} {assign body : Code} {Q : Exit → Act → World → Prop} {a : Act} {w W1 : World} {l D : Nat} {S : Nat → Prop} {mark : List Deferred}
  (hent : ∀ fn, (Instr.enterLoop fn a.tmps ps assign body F.round).run P w = .ok (l, mark) (W1.putObj l (.loop (recOf fn a.tmps ps assign body D .ready none))))
  (hw1 : Below w.heap.size w W1) (hSl : S l) (hS : ∀ k, S k → w.heap.size ≤ k ∧ k < W1.heap.size)
  {gf : Nat} {lb : Array Value} (hg : a.eval g = .func (.func gf) #[] lb) (eg : ∀ args w, (callFunc gf args).run P w = .ok (.enter gf args) w)
  {Arg : α → Array Value → (Nat → Prop) → World → Prop} {K M : Nat → Prop} {xs : List α} {Fin : World → Prop} (hit : IterF P gf lb Arg K M xs Fin w) (hF0 : ∀ a b, Fin a → Only (fun k => w.heap.size ≤ k) a b → Fin b)
  (hK : ∀ k, K k → k < w.heap.size)
  (C : Nat → Prop) (hC : ∀ k, C k → k < w.heap.size ∧ ¬ K k)
  (I : List α → (Nat → Prop) → World → Prop) (Ix : Code → List α → (Nat → Prop) → World → Prop)
  (hI : Bears w.heap.size M I) (hIx : ∀ c, Bears w.heap.size M (Ix c)) (h0 : I [] C w)
  (hps : ∀ x args O W, Arg x args O W → args.size = ps.size)
  (hround : ∀ (pre : List α) (x : α) (args : Array Value) (C O : Nat → Prop) (W : World), pre ++ [x] <+: xs → I pre C W → w.heap.size ≤ W.heap.size → (∀ k, C k → k < W.heap.size) → (∀ k, O k → ¬ C k ∧ k < W.heap.size ∧ w.heap.size ≤ k) → Arg x args O W → l < W.heap.size → ¬ C l → ¬ O l →
   ∀ T : Act → World → Prop, (∀ a₁ w₁, Only (fun k => C k ∨ O k) W w₁ → (∀ w₂, Only (fun k => k = l) w₁ w₂ → (∃ r, w₂.heap[l]? = some (.loop r) ∧ r.defers = D) → body.wpIn (F.inRound l) (n - 1 - 1) P (RoundEnd I Ix (pre ++ [x]) C O w₂) a₁ w₂) → T a₁ w₁) →
   assign.wpIn (F.inRound l) (n - 1 - 1) P (Exit.then T (fun _ _ _ => False)) { tmps := (ps.zip args).foldl (fun t (p, v) => t.setIfInBounds p v) a.tmps, defers := [] } W)
  (hdone : ∀ (C' : Nat → Prop) (W : World), I xs C' W → Fin W → (∀ k, S k → ¬ C' k) → (∀ k, S k → k ≠ l → W.heap[k]? = W1.heap[k]?) → W1.heap.size ≤ W.heap.size → Q .normal { a with defers := mark ++ a.defers } W)
  (hstop : ∀ (c : Code) (pre : List α) (C' : Nat → Prop) (W : World), pre <+: xs → Ix c pre C' W → (∀ k, S k → ¬ C' k) → (∀ k, S k → k ≠ l → W.heap[k]? = W1.heap[k]?) → W1.heap.size ≤ W.heap.size → c.wpIn F n P Q { a with defers := mark ++ a.defers } W) :
  (Code.rangeFunc g ps assign body).wpIn F n P Q a w := by
 refine wpIn_rangeFunc ?_
 intro fn hfn
 obtain ⟨rec, hrec⟩ : ∃ rec : LoopState → Option Code → Loop, rec = recOf fn a.tmps ps assign body D := ⟨_, rfl⟩
 obtain ⟨W2, hW2⟩ : ∃ W2, W1.putObj l (.loop (rec .ready none)) = W2 := ⟨_, rfl⟩
 have hl1 : l < W1.heap.size := (hS l hSl).2
 have hwl : w.heap.size ≤ l := (hS l hSl).1
 have hL2 : W2.heap[l]? = some (.loop (rec .ready none)) := by rw [← hW2]; exact World.putObj_heap_same hl1
 have hs2 : W2.heap.size = W1.heap.size := by rw [← hW2]; simp
 have hS2 : ∀ k, S k → k ≠ l → W2.heap[k]? = W1.heap[k]? := fun k _ hk => by rw [← hW2]; exact World.putObj_heap_other hk
 have ho2 : Only (fun _ => False) w W2 := by rw [← hW2]; exact (Only.of_new hw1).putObj (.inr hwl) _
 have hI0 : I [] C W2 := hI _ _ _ _ h0 (Stays.of_only ho2 (fun _ _ h => h.elim))
 refine ⟨l, mark, W2, { target := .fn (.func gf) lb, args := #[.func (.yield l) #[] #[]] }, W2, gf, #[.func (.yield l) #[] #[]] ++ lb, W2, ?_, ?_, ?_, ?_, (fun h => by rw [hd] at h; cases h), ?_⟩
 ·rw [hent fn, ← hW2, hrec]
 ·simp only [resolve, hg]
  simp [go_sem]
 ·intro f' _; exact hF f'
 ·simp [invoke, go_sem, eg]
 ·refine hcall _ _ _ _ ((hit l
   (fun pre C' W => ∃ C0, (∀ k, C' k ↔ (C0 k ∨ S k)) ∧ (∀ k, C0 k → k < W.heap.size) ∧ (∀ k, S k → ¬ C0 k) ∧ I pre C0 W ∧ W.heap[l]? = some (.loop (rec .ready none)) ∧ (∀ k, S k → k ≠ l → W.heap[k]? = W1.heap[k]?) ∧ W1.heap.size ≤ W.heap.size)
   (fun pre C' W => ∃ C0 c, (∀ k, C' k ↔ (C0 k ∨ S k)) ∧ (∀ k, C0 k → k < W.heap.size) ∧ (∀ k, S k → ¬ C0 k) ∧ Ix c pre C0 W ∧ W.heap[l]? = some (.loop (rec .done (some c))) ∧ (∀ k, S k → k ≠ l → W.heap[k]? = W1.heap[k]?) ∧ W1.heap.size ≤ W.heap.size)
   (fun k => C k ∨ S k) W2 (Later.of_only ho2 (fun _ _ h => h)) ?_ ?_ ?_ ?_ ?_).mono ?_)
  ·rintro k (hk | hk)
   ·have := hC k hk; have := hw1.size; exact ⟨by omega, (hC k hk).2⟩
   ·have := hS k hk; exact ⟨by omega, fun h => by have := hK k h; omega⟩
  ·rintro pre C' A B ⟨C0, hc, hlt, hn, hi, hl, hs, hsz⟩ hst
   have hcl : ∀ k, k < A.heap.size → C' k → B.heap[k]? = A.heap[k]? := fun k hk hck => hst.block k hk (.inl hck)
   refine ⟨C0, hc, fun k hk => Nat.lt_of_lt_of_le (hlt k hk) hst.size, hn, hI _ _ _ _ hi (hst.mono fun k _ hk => ?_), ?_, fun k hk hkl => ?_, Nat.le_trans hsz hst.size⟩
   ·rcases hk with hk | ⟨h1, h2⟩
    ·exact .inl ((hc k).2 (.inl hk))
    ·exact .inr ⟨by have := hw1.size; omega, h2⟩
   ·exact (hcl l (by omega) ((hc l).2 (.inr hSl))).trans hl
   ·exact (hcl k (by have := (hS k hk).2; omega) ((hc k).2 (.inr hk))).trans (hs k hk hkl)
  ·rintro pre C' A B ⟨C0, c, hc, hlt, hn, hi, hl, hs, hsz⟩ hst
   have hcl : ∀ k, k < A.heap.size → C' k → B.heap[k]? = A.heap[k]? := fun k hk hck => hst.block k hk (.inl hck)
   refine ⟨C0, c, hc, fun k hk => Nat.lt_of_lt_of_le (hlt k hk) hst.size, hn, hIx c _ _ _ _ hi (hst.mono fun k _ hk => ?_), ?_, fun k hk hkl => ?_, Nat.le_trans hsz hst.size⟩
   ·rcases hk with hk | ⟨h1, h2⟩
    ·exact .inl ((hc k).2 (.inl hk))
    ·exact .inr ⟨by have := hw1.size; omega, h2⟩
   ·exact (hcl l (by omega) ((hc l).2 (.inr hSl))).trans hl
   ·exact (hcl k (by have := (hS k hk).2; omega) ((hc k).2 (.inr hk))).trans (hs k hk hkl)
  ·-- one round
   rintro pre x C' W args O hpre ⟨C0, hc, hlt, hn, hi, hl, hs, hsz⟩ hWW hC' hO harg
   have hlW : l < W.heap.size := by omega
   have hy := run_yield (P := P) (args := args) hl (by rw [hrec]; exact hps x args O W harg)
   refine hrl l (n - 1 - 1) args W _ ⟨fn, _, assign, body, by rw [hrec] at hy; exact hy, roundIn_of_wpIn hfn ?_⟩
   have hOl : ¬ O l := fun h => (hO l h).1 ((hc l).2 (.inr hSl))
   refine hround pre x args C0 O W hpre hi (by have := hw1.size; omega) hlt (fun k hk => ⟨fun h => (hO k hk).1 ((hc k).2 (.inl h)), (hO k hk).2.1, by have := (hO k hk).2.2; have := hw1.size; omega⟩) harg hlW (hn l hSl) hOl _ ?_
   intro a₁ w₁ ho1 hbody
   have hl1' : w₁.heap[l]? = some (.loop (rec .ready none)) := (ho1.block l hlW (fun h => h.elim (hn l hSl) hOl)).trans hl
   have hb := run_beginRound (P := P) hl1' (by rw [hrec]; rfl)
   refine ⟨_, hb, ?_⟩
   obtain ⟨w₂, hw₂⟩ : ∃ w₂, w₁.putObj l (.loop { rec .ready none with state := .busy }) = w₂ := ⟨_, rfl⟩
   rw [hw₂]
   have hlw1 : l < w₁.heap.size := Nat.lt_of_lt_of_le hlW ho1.size
   have hl2 : w₂.heap[l]? = some (.loop { rec .ready none with state := .busy }) := by rw [← hw₂]; exact World.putObj_heap_same hlw1
   have ho12 : Only (fun k => k = l) w₁ w₂ := by rw [← hw₂]; exact Only.put_one _ _ _
   have hsw : w₂.heap.size = w₁.heap.size := by rw [← hw₂]; simp
   have hrd : (rec .ready none).defers = D := by rw [hrec]; rfl
   refine wpIn_mono (hbody w₂ ho12 ⟨_, hl2, hrd⟩) ?_
   have fin : ∀ (jump : Option Code) (W3 : World) (C3 : Nat → Prop), Only (fun k => C0 k ∨ O k) w₂ W3 → Grows C0 O C3 w₂ W3 →
     (Instr.endRound l jump).run P W3 = .ok (.bool jump.isNone) (W3.putObj l (.loop (rec (if jump.isNone then .ready else .done) jump))) ∧
     Only (fun k => C' k ∨ O k) W (W3.putObj l (.loop (rec (if jump.isNone then .ready else .done) jump))) ∧
     Grows C' O (fun k => C3 k ∨ S k) W (W3.putObj l (.loop (rec (if jump.isNone then .ready else .done) jump))) ∧
     (∀ k, S k → ¬ C3 k) ∧ (∀ k, C3 k → k < W3.heap.size) ∧
     (W3.putObj l (.loop (rec (if jump.isNone then .ready else .done) jump))).heap[l]? = some (.loop (rec (if jump.isNone then .ready else .done) jump)) ∧
     (∀ k, S k → k ≠ l → (W3.putObj l (.loop (rec (if jump.isNone then .ready else .done) jump))).heap[k]? = W1.heap[k]?) ∧
     Stays w.heap.size M C3 W3 (W3.putObj l (.loop (rec (if jump.isNone then .ready else .done) jump))) := fun jump W3 C3 ho3 hg3 => by
    have hSO : ∀ k, S k → ¬ O k := fun k hk h => (hO k h).1 ((hc k).2 (.inr hk))
    have hl3 : W3.heap[l]? = some (.loop { rec .ready none with state := .busy }) := (ho3.block l (by omega) (fun h => h.elim (hn l hSl) hOl)).trans hl2
    have hr3 := run_endRound (P := P) jump hl3
    have hsz3 := ho3.size
    have hsz1 := ho1.size
    have hoW3 : Only (fun k => C' k ∨ O k) W W3 := by
     have h1 : Only (fun k => C' k ∨ O k) W w₁ := ho1.mono fun k _ h => h.imp (fun h => (hc k).2 (.inl h)) id
     have h2 : Only (fun k => C' k ∨ O k) w₁ w₂ := ho12.mono fun k _ h => by subst h; exact .inl ((hc _).2 (.inr hSl))
     have h3 : Only (fun k => C' k ∨ O k) w₂ W3 := ho3.mono fun k _ h => h.imp (fun h => (hc k).2 (.inl h)) id
     exact (h1.trans h2).trans h3
    have hnS : ∀ k, S k → ¬ C3 k := fun k hk h => by
     rcases hg3 k h with h | h | h
     ·exact hn k hk h
     ·exact hSO k hk h
     ·have := (hS k hk).2; omega
    refine ⟨?_, hoW3.putObj (.inl (.inl ((hc l).2 (.inr hSl)))) _, ?_, hnS, ?_, World.putObj_heap_same (by omega), ?_, ?_⟩
    ·rw [hr3, hrec]; rfl
    ·rintro k (hk | hk)
     ·rcases hg3 k hk with h | h | h
      ·exact .inl ((hc k).2 (.inl h))
      ·exact .inr (.inl h)
      ·exact .inr (.inr ⟨by omega, by simp; omega⟩)
     ·exact .inl ((hc k).2 (.inr hk))
    ·intro k hk
     rcases hg3 k hk with h | h | h
     ·have := hlt k h; omega
     ·have := (hO k h).2.1; omega
     ·omega
    ·intro k hk hkl
     refine (World.putObj_heap_other hkl).trans ((ho3.block k (by have := (hS k hk).2; omega) (fun h => h.elim (hn k hk) (hSO k hk))).trans ((ho12.block k (by have := (hS k hk).2; omega) hkl).trans
      ((ho1.block k (by have := (hS k hk).2; omega) (fun h => h.elim (hn k hk) (hSO k hk))).trans (hs k hk hkl))))
    ·exact Stays.of_only (D := fun k => k = l) (Only.put_one _ _ _) fun k _ hk => by subst hk; exact ⟨hnS _ hSl, .inl hwl⟩
   rintro e a3 W3 hp
   have hw1s := hw1.size
   cases e with
   | normal =>
     obtain ⟨C3, ho3, hg3, hi3⟩ := hp
     obtain ⟨r1, r2, r3, r4, r5, r6, r7, r8⟩ := fin none W3 C3 ho3 hg3
     exact ⟨_, _, r1, _, true, r2, r3, rfl, fun _ => ⟨C3, fun _ => Iff.rfl, fun k hk => by simpa using r5 k hk, r4, hI _ _ _ _ hi3 r8, r6, r7, by simp; have := ho3.size; have := ho1.size; omega⟩, fun h => by cases h⟩
   | ret =>
     obtain ⟨C3, ho3, hg3, hi3⟩ := hp
     obtain ⟨r1, r2, r3, r4, r5, r6, r7, r8⟩ := fin (some .ret) W3 C3 ho3 hg3
     exact ⟨_, _, r1, _, false, r2, r3, rfl, (fun h => by cases h), fun _ => ⟨C3, .ret, fun _ => Iff.rfl, fun k hk => by simpa using r5 k hk, r4, hIx _ _ _ _ _ hi3 r8, r6, r7, by simp; have := ho3.size; have := ho1.size; omega⟩⟩
   | exit id =>
     obtain ⟨C3, ho3, hg3, hi3⟩ := hp
     obtain ⟨r1, r2, r3, r4, r5, r6, r7, r8⟩ := fin (some (.exit id)) W3 C3 ho3 hg3
     exact ⟨_, _, r1, _, false, r2, r3, rfl, (fun h => by cases h), fun _ => ⟨C3, .exit id, fun _ => Iff.rfl, fun k hk => by simpa using r5 k hk, r4, hIx _ _ _ _ _ hi3 r8, r6, r7, by simp; have := ho3.size; have := ho1.size; omega⟩⟩
   | goto t =>
     obtain ⟨C3, ho3, hg3, hi3⟩ := hp
     obtain ⟨r1, r2, r3, r4, r5, r6, r7, r8⟩ := fin (some (.goto t)) W3 C3 ho3 hg3
     exact ⟨_, _, r1, _, false, r2, r3, rfl, (fun h => by cases h), fun _ => ⟨C3, .goto t, fun _ => Iff.rfl, fun k hk => by simpa using r5 k hk, r4, hIx _ _ _ _ _ hi3 r8, r6, r7, by simp; have := ho3.size; have := ho1.size; omega⟩⟩
   | panic ch => exact hp.elim
   | outgrown => exact hp.elim
  ·refine ⟨C, fun _ => Iff.rfl, fun k hk => by have := (hC k hk).1; have := hw1.size; omega, fun k hk h => by have := (hC k h).1; have := (hS k hk).1; omega, hI0, hL2, hS2, by omega⟩
  ·-- behind the iterator
   rintro e W3 ⟨⟨v, rfl⟩, C', (⟨⟨C0, hc, hlt, hn, hi, hl, hs, hsz⟩, hfin⟩ | ⟨pre, hpre, C0, c, hc, hlt, hn, hi, hl, hs, hsz⟩)⟩
   ·have hst : Stays w.heap.size M C0 W3 (W3.putObj l (.loop (rec .exhausted none))) := Stays.of_only (D := fun k => k = l) (Only.put_one _ _ _) fun k _ hk => by subst hk; exact ⟨hn _ hSl, .inl hwl⟩
    refine ⟨none, _, by have := run_endLoop (P := P) hl (by rw [hrec]; simp [recOf]); rw [hrec] at this; exact this, ?_⟩
    rw [hrec] at hst
    exact hdone C0 _ (hI _ _ _ _ hi hst) (hF0 _ _ hfin ((Only.put_one _ _ _).mono fun k _ hk => by subst hk; exact hwl)) hn (fun k hk hkl => (World.putObj_heap_other hkl).trans (hs k hk hkl)) (by simpa using hsz)
   ·have hst : Stays w.heap.size M C0 W3 (W3.putObj l (.loop (rec .exhausted (some c)))) := Stays.of_only (D := fun k => k = l) (Only.put_one _ _ _) fun k _ hk => by subst hk; exact ⟨hn _ hSl, .inl hwl⟩
    refine ⟨some c, _, by have := run_endLoop (P := P) hl (by rw [hrec]; simp [recOf]); rw [hrec] at this; exact this, ?_⟩
    rw [hrec] at hst
    exact hstop c pre C0 _ hpre (hIx c _ _ _ _ hi hst) hn (fun k hk hkl => (World.putObj_heap_other hkl).trans (hs k hk hkl)) (by simpa using hsz)
theorem rangeF_outer {α : Type} {n : Nat} {P : Program} {g : Operand} {ps : Array Tmp} {assign body : Code} {Q : Exit → Act → World → Prop} {a : Act} {w : World}
  {gf : Nat} {lb : Array Value} (hg : a.eval g = .func (.func gf) #[] lb) (eg : ∀ args w, (callFunc gf args).run P w = .ok (.enter gf args) w)
  {Arg : α → Array Value → (Nat → Prop) → World → Prop} {K M : Nat → Prop} {xs : List α} {Fin : World → Prop} (hit : IterF P gf lb Arg K M xs Fin w) (hF0 : ∀ a b, Fin a → Only (fun k => w.heap.size ≤ k) a b → Fin b)
  (hK : ∀ k, K k → k < w.heap.size)
  (C : Nat → Prop) (hC : ∀ k, C k → k < w.heap.size ∧ ¬ K k)
  (I : List α → (Nat → Prop) → World → Prop) (Ix : Code → List α → (Nat → Prop) → World → Prop)
  (hI : Bears w.heap.size M I) (hIx : ∀ c, Bears w.heap.size M (Ix c)) (h0 : I [] C w)
  (hps : ∀ x args O W, Arg x args O W → args.size = ps.size)
  (hround : ∀ (l : Nat) (pre : List α) (x : α) (args : Array Value) (C O : Nat → Prop) (W : World), pre ++ [x] <+: xs → I pre C W → w.heap.size < l → (∀ k, C k → k < W.heap.size) → (∀ k, O k → ¬ C k ∧ k < W.heap.size ∧ w.heap.size ≤ k) → Arg x args O W → l < W.heap.size → ¬ C l → ¬ O l →
   ∀ T : Act → World → Prop, (∀ a₁ w₁, Only (fun k => C k ∨ O k) W w₁ → (∀ w₂, Only (fun k => k = l) w₁ w₂ → (∃ r, w₂.heap[l]? = some (.loop r)) → body.wpIn (Fence.wide.inRound l) (n - 1 - 1) P (RoundEnd I Ix (pre ++ [x]) C O w₂) a₁ w₂) → T a₁ w₁) →
   assign.wpIn (Fence.wide.inRound l) (n - 1 - 1) P (Exit.then T (fun _ _ _ => False)) { tmps := (ps.zip args).foldl (fun t (p, v) => t.setIfInBounds p v) a.tmps, defers := [] } W)
  (hdone : ∀ (C' : Nat → Prop) (W : World), I xs C' W → Fin W → ¬ C' w.heap.size → W.heap[w.heap.size]? = some (.deferred (some [])) → Q .normal { a with defers := { target := .collected w.heap.size, args := #[] } :: a.defers } W)
  (hstop : ∀ (c : Code) (pre : List α) (C' : Nat → Prop) (W : World), pre <+: xs → Ix c pre C' W → ¬ C' w.heap.size → W.heap[w.heap.size]? = some (.deferred (some [])) →
   c.wpIn Fence.wide n P Q { a with defers := { target := .collected w.heap.size, args := #[] } :: a.defers } W) :
  (Code.rangeFunc g ps assign body).wpIn Fence.wide n P Q a w := by
 have hD : ((w.alloc (.deferred (some []))).alloc (.loop (recOf 0 #[] #[] .skip .skip w.heap.size .ready none))).heap[w.heap.size]? = some (.deferred (some [])) :=
  (Below.heap_alloc _ _ _ (by simp)).trans (World.alloc_heap_new w _)
 refine rangeF_core (F := Fence.wide) (W1 := (w.alloc (.deferred (some []))).alloc (.loop (recOf 0 #[] #[] .skip .skip w.heap.size .ready none))) (l := w.heap.size + 1) (D := w.heap.size) (S := fun k => k = w.heap.size ∨ k = w.heap.size + 1)
  (mark := [{ target := .collected w.heap.size, args := #[] }]) (fun _ => trivial) rfl (fun _ _ _ _ h => callsIn_wide.2 h) (fun _ _ _ _ _ h => yieldAt_wide h) ?_ ?_ (.inr rfl) ?_ hg eg hit hF0 hK C hC I Ix hI hIx h0 hps ?_ ?_ ?_
 ·intro fn
  have e : w.heap.size + 1 = (w.alloc (.deferred (some []))).heap.size := by simp
  rw [show Fence.wide.round = none from rfl, run_enterLoop_outer]
  congr 1
  rw [e, putObj_alloc]
  rfl
 ·exact ((Below.refl _ _).alloc (Nat.le_refl _) _).alloc (by simp) _
 ·intro k hk
  have e : ((w.alloc (.deferred (some []))).alloc (.loop (recOf 0 #[] #[] .skip .skip w.heap.size .ready none))).heap.size = w.heap.size + 1 + 1 := by simp
  rw [e]
  rcases hk with rfl | rfl <;> omega
 ·intro pre x args C O W h1 h2 h3 h4 h5 h6 h7 h8 h9 T hT
  exact hround (w.heap.size + 1) pre x args C O W h1 h2 (by omega) h4 h5 h6 h7 h8 h9 T fun a₁ w₁ ho hb => hT a₁ w₁ ho fun w₂ h2 hr => hb w₂ h2 (hr.imp fun _ h => h.1)
 ·intro C' W hi hf hs hk _
  exact hdone C' W hi hf (hs _ (.inl rfl)) ((hk _ (.inl rfl) (by omega)).trans hD)
 ·intro c pre C' W hp hi hs hk _
  exact hstop c pre C' W hp hi (hs _ (.inl rfl)) ((hk _ (.inl rfl) (by omega)).trans hD)
end Go.Proofs.YtnbikkcalcpedaaGreatDoor
namespace Go.Proofs.YtnbikkcalcpedaaGreatDoor
structure IsTr (n : Nat) (E : List (Nat × Nat)) (t : List Nat) : Prop where
 set : SetN E.length t
 len : t.length + 1 = n
 fo : Fo (pk E t)
theorem nodup_map_of {α β : Type} {f : α → β} : ∀ {l : List α}, (∀ a ∈ l, ∀ b ∈ l, f a = f b → a = b) → l.Nodup → (l.map f).Nodup
 | [], _, _ => .nil
 | a :: l, h, hn => by
   rw [List.nodup_cons] at hn
   rw [List.map_cons, List.nodup_cons]
   refine ⟨fun hm => ?_, nodup_map_of (fun a ha b hb => h a (by simp [ha]) b (by simp [hb])) hn.2⟩
   obtain ⟨b, hb, he⟩ := List.mem_map.1 hm
   exact hn.1 (h b (by simp [hb]) a (by simp) he ▸ hb)
def nI (l : List Nat) : List Int := l.map fun u : Nat => (u : Int)
def bfN (a b : List Nat) : Bool := bfI (nI a) (nI b)
theorem nI_inj {a b : List Nat} (h : nI a = nI b) : a = b := by
 induction a generalizing b with
 | nil => cases b with
   | nil => rfl
   | cons y b => simp [nI] at h
 | cons x a ih => cases b with
   | nil => simp [nI] at h
   | cons y b =>
     simp only [nI, List.map_cons, List.cons.injEq] at h
     rw [ih h.2, show x = y by omega]
theorem bfN_as (a b : List Nat) (h : bfN a b = true) : bfN b a = false := bfI_as _ _ h
theorem bfN_pre (p a b : List Nat) : bfN (p ++ a) (p ++ b) = bfN a b := by
 unfold bfN nI; rw [List.map_append, List.map_append, bfI_pre]
theorem bfN_cons (x y : Nat) (a b : List Nat) (h : x < y) : bfN (x :: a) (y :: b) = true := by
 unfold bfN nI
 rw [List.map_cons, List.map_cons, bfI, if_neg (by omega)]
 simpa using h
section
variable {n : Nat} {E : List (Nat × Nat)} {t x : List Nat}
theorem IsTr.foe (h : IsTr n E t) (hb : BdP n E) : FoE n E t := ⟨hb, h.set.nodup, h.set.2, h.fo⟩
theorem IsTr.cn (h : IsTr n E t) (hb : BdP n E) {a b : Nat} (ha : a < n) (hb' : b < n) : Cn (pk E t) a b := by
 have h1 := (tree_of_fo (bd_pk hb h.set.2) h.fo).2 (by rw [pk_length]; exact h.len)
 rw [partsP_one (by omega)] at h1
 exact (h1 a ha).symm.trans (h1 b hb')
def treesG (n : Nat) (E : List (Nat × Nat)) : Nat → List Nat → Nat → List (List Nat)
 | 0, _, _ => []
 | k + 1, t, e => if partsP n (pk E t ++ E.drop e) = 1 then
     (if Cn (pk E t) (E.getD e (0, 0)).1 (E.getD e (0, 0)).2 then [] else if t.length + 2 = n then [t ++ [e]] else treesG n E k (t ++ [e]) (e + 1)) ++ treesG n E k t (e + 1)
   else []
def treesT (n : Nat) (E : List (Nat × Nat)) : List (List Nat) := if n = 1 then [[]] else treesG n E E.length [] 0
theorem fo_append_snoc {ps : List (Nat × Nat)} {p : Nat × Nat} (hb : BdP n (ps ++ [p])) : Fo (ps ++ [p]) ↔ Fo ps ∧ ¬ Cn ps p.1 p.2 := by
 have : (ps ++ [p]).Perm (p :: ps) := List.perm_append_comm
 rw [fo_perm hb this]; rfl
theorem treesG_spec (hb : BdP n E) : ∀ (k : Nat) (t : List Nat) (e : Nat), k + e = E.length → (∀ y ∈ t, y < e) → t.Pairwise (· < ·) → Fo (pk E t) → t.length + 2 ≤ n →
  (∀ x, x ∈ treesG n E k t e ↔ ∃ s, x = t ++ s ∧ IsTr n E x ∧ ∀ y ∈ s, e ≤ y) ∧ (treesG n E k t e).Pairwise fun a b => bfN a b = true
 | 0, t, e, hk, hlt, hp, hf, hl => by
   refine ⟨fun x => ⟨fun h => by simp [treesG] at h, ?_⟩, .nil⟩
   rintro ⟨s, rfl, h, hy⟩
   exfalso
   have := h.len
   rw [List.length_append] at this
   cases s with
   | nil => simp at this; omega
   | cons y s =>
     have h1 := hy y (by simp)
     have h2 := h.set.2 y (by simp); omega
 | k + 1, t, e, hk, hlt, hp, hf, hl => by
   have he : e < E.length := by omega
   have hlt' : ∀ y ∈ t, y < E.length := fun y hy => by have := hlt y hy; omega
   have hdrop : E.drop e = E.getD e (0, 0) :: E.drop (e + 1) := by
    rw [List.drop_eq_getElem_cons he, List.getD_eq_getElem?_getD, List.getElem?_eq_getElem he]; rfl
   rw [treesG]
   by_cases hc : partsP n (pk E t ++ E.drop e) = 1
   ·rw [if_pos hc]
    obtain ⟨B1, B2⟩ := treesG_spec hb k t (e + 1) (by omega) (fun y hy => by have := hlt y hy; omega) hp hf hl
    -- the first part
    obtain ⟨L, hL⟩ : ∃ L, (if Cn (pk E t) (E.getD e (0, 0)).1 (E.getD e (0, 0)).2 then [] else if t.length + 2 = n then [t ++ [e]] else treesG n E k (t ++ [e]) (e + 1)) = L := ⟨_, rfl⟩
    rw [hL]
    have hbd : BdP n (pk E t ++ [E.getD e (0, 0)]) := by
     have := bd_pk (t := t ++ [e]) hb (fun y hy => by
      rcases List.mem_append.1 hy with hy | hy
      ·exact hlt' y hy
      ·rw [List.mem_singleton] at hy; omega)
     simpa [pk] using this
    have hpk : pk E (t ++ [e]) = pk E t ++ [E.getD e (0, 0)] := by simp [pk]
    have hA : (∀ x, x ∈ L ↔ ∃ s, x = t ++ e :: s ∧ IsTr n E x ∧ ∀ y ∈ s, e + 1 ≤ y) ∧ L.Pairwise fun a b => bfN a b = true := by
     by_cases hcn : Cn (pk E t) (E.getD e (0, 0)).1 (E.getD e (0, 0)).2
     ·rw [if_pos hcn] at hL
      subst hL
      refine ⟨fun x => ⟨fun h => by simp at h, ?_⟩, .nil⟩
      rintro ⟨s, rfl, h, _⟩
      exfalso
      have h1 : Fo (pk E (t ++ [e])) := h.fo.sub (pk_sub (by simp))
      rw [hpk, fo_append_snoc hbd] at h1
      exact h1.2 hcn
     ·rw [if_neg hcn] at hL
      have hfe : Fo (pk E (t ++ [e])) := by rw [hpk, fo_append_snoc hbd]; exact ⟨hf, hcn⟩
      have hpe : (t ++ [e]).Pairwise (· < ·) := by
       rw [List.pairwise_append]
       exact ⟨hp, List.pairwise_singleton _ _, fun a ha b hb => by rw [List.mem_singleton] at hb; rw [hb]; exact hlt a ha⟩
      have hle : ∀ y ∈ t ++ [e], y < e + 1 := fun y hy => by
       rcases List.mem_append.1 hy with hy | hy
       ·have := hlt y hy; omega
       ·rw [List.mem_singleton] at hy; omega
      by_cases h2 : t.length + 2 = n
      ·rw [if_pos h2] at hL
       subst hL
       refine ⟨fun x => ⟨fun h => ?_, ?_⟩, List.pairwise_singleton _ _⟩
       ·rw [List.mem_singleton] at h
        subst h
        exact ⟨[], rfl, ⟨⟨hpe, fun y hy => by have := hle y hy; omega⟩, by simp; omega, hfe⟩, by simp⟩
       ·rintro ⟨s, rfl, h, _⟩
        have := h.len
        simp at this
        have : s = [] := List.eq_nil_of_length_eq_zero (by omega)
        subst this; simp
      ·rw [if_neg h2] at hL
       obtain ⟨A1, A2⟩ := treesG_spec hb k (t ++ [e]) (e + 1) (by omega) hle hpe hfe (by simp; omega)
       rw [hL] at A1 A2
       refine ⟨fun x => ?_, A2⟩
       rw [A1]
       constructor
       ·rintro ⟨s, rfl, h, hy⟩; exact ⟨s, by simp, h, hy⟩
       ·rintro ⟨s, rfl, h, hy⟩; exact ⟨s, by simp, h, hy⟩
    obtain ⟨A1, A2⟩ := hA
    refine ⟨fun x => ?_, ?_⟩
    ·rw [List.mem_append, A1, B1]
     constructor
     ·rintro (⟨s, rfl, h, hy⟩ | ⟨s, rfl, h, hy⟩)
      ·exact ⟨e :: s, rfl, h, fun y hy' => by rcases List.mem_cons.1 hy' with rfl | hy'; · exact Nat.le_refl _
                                              ·have := hy y hy'; omega⟩
      ·exact ⟨s, rfl, h, fun y hy' => by have := hy y hy'; omega⟩
     ·rintro ⟨s, rfl, h, hy⟩
      have hlen := h.len
      rw [List.length_append] at hlen
      cases s with
      | nil => simp at hlen; omega
      | cons y s =>
        have hy0 := hy y (by simp)
        have hps := (List.pairwise_append.1 h.set.1).2.1
        rw [List.pairwise_cons] at hps
        by_cases hye : y = e
        ·subst hye
         exact .inl ⟨s, rfl, h, fun z hz => hps.1 z hz⟩
        ·refine .inr ⟨y :: s, rfl, h, fun z hz => ?_⟩
         rcases List.mem_cons.1 hz with rfl | hz
         ·omega
         ·have := hps.1 z hz; omega
    ·rw [List.pairwise_append]
     refine ⟨A2, B2, fun a ha b hb => ?_⟩
     obtain ⟨s1, rfl, _, _⟩ := (A1 a).1 ha
     obtain ⟨s2, rfl, h2, hy2⟩ := (B1 b).1 hb
     have hlen := h2.len
     rw [List.length_append] at hlen
     cases s2 with
     | nil => simp at hlen; omega
     | cons y s2 =>
       have := hy2 y (by simp)
       rw [bfN_pre]
       exact bfN_cons _ _ _ _ (by omega)
   ·rw [if_neg hc]
    refine ⟨fun x => ⟨fun h => by simp at h, ?_⟩, .nil⟩
    rintro ⟨s, rfl, h, hy⟩
    exfalso
    apply hc
    have h1 := (tree_of_fo (bd_pk hb h.set.2) h.fo).2 (by rw [pk_length]; exact h.len)
    rw [partsP_one (by omega)] at h1 ⊢
    intro v hv
    refine (h1 v hv).mono fun p hp => ?_
    obtain ⟨y, hy', rfl⟩ := mem_pk.1 hp
    rcases List.mem_append.1 hy' with hy' | hy'
    ·exact List.mem_append_left _ (mem_pk.2 ⟨y, hy', rfl⟩)
    ·refine List.mem_append_right _ ?_
     have h3 := hy y hy'
     have h4 := h.set.2 y (by simp [hy'])
     rw [List.getD_eq_getElem?_getD, List.getElem?_eq_getElem h4]
     refine List.mem_iff_getElem?.2 ⟨y - e, ?_⟩
     rw [List.getElem?_drop, show e + (y - e) = y by omega, List.getElem?_eq_getElem h4]; rfl
theorem treesT_spec (hb : BdP n E) (hn : 0 < n) : (∀ x, x ∈ treesT n E ↔ IsTr n E x) ∧ (treesT n E).Pairwise fun a b => bfN a b = true := by
 unfold treesT
 by_cases h1 : n = 1
 ·rw [if_pos h1]
  refine ⟨fun x => ⟨fun h => ?_, fun h => ?_⟩, List.pairwise_singleton _ _⟩
  ·rw [List.mem_singleton] at h
   subst h
   exact ⟨⟨.nil, by simp⟩, by simp; omega, trivial⟩
  ·have := h.len
   have : x = [] := List.eq_nil_of_length_eq_zero (by omega)
   subst this; simp
 ·rw [if_neg h1]
  obtain ⟨s1, s2⟩ := treesG_spec hb E.length [] 0 (by omega) (by simp) .nil trivial (by simp; omega)
  refine ⟨fun x => ?_, s2⟩
  rw [s1]
  constructor
  ·rintro ⟨s, rfl, h, _⟩; exact h
  ·intro h; exact ⟨x, rfl, h, fun y _ => Nat.zero_le _⟩
theorem lt_irrefl_bf (a : List Nat) : bfN a a = false := by
 cases h : bfN a a
 ·rfl
 ·rw [bfN_as a a h] at h; cases h
theorem treesT_nodup (hb : BdP n E) (hn : 0 < n) : (treesT n E).Nodup := (treesT_spec hb hn).2.imp fun h e => by
 subst e; rw [lt_irrefl_bf] at h; cases h
end
end Go.Proofs.YtnbikkcalcpedaaGreatDoor
namespace Go.Proofs.YtnbikkcalcpedaaGreatDoor
open Go.RowKit
end Go.Proofs.YtnbikkcalcpedaaGreatDoor
