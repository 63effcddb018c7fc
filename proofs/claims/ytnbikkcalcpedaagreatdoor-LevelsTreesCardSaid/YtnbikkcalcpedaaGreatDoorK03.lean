/-
 Texts of this claim, put together: Iter, PolyP, Cells, ForP, TreeQ.
-/
import Derived.Test.YtnbikkcalcpedaaGreatDoorK01
import Derived.RangeFuncNested
import Derived.RangeFuncBound
import Derived.RangeFuncCalls
import Derived.RangeFuncLeaves
import Derived.Shelf.Abstract
import Derived.WalkKit
import Derived.OwnWalkIn
import Derived.TacticsInMore
import Derived.LoopNIn
import Derived.LoopIn
import Derived.Test.YtnbikkcalcpedaaGreatDoorK02
namespace Go.Proofs.YtnbikkcalcpedaaGreatDoor
open Go.RowKit Go.Shelf
structure Only (C : Nat → Prop) (w w' : World) : Prop where
 os : w'.os = w.os
 tape : w'.tape = w.tape
 output : w'.output = w.output
 size : w.heap.size ≤ w'.heap.size
 block : ∀ k, k < w.heap.size → ¬ C k → w'.heap[k]? = w.heap[k]?
structure Stays (B : Nat) (M C : Nat → Prop) (w w' : World) : Prop where
 os : w'.os = w.os
 tape : w'.tape = w.tape
 output : w'.output = w.output
 size : w.heap.size ≤ w'.heap.size
 block : ∀ k, k < w.heap.size → (C k ∨ (k < B ∧ ¬ M k)) → w'.heap[k]? = w.heap[k]?
def Grows (C O C' : Nat → Prop) (w w' : World) : Prop := ∀ k, C' k → C k ∨ O k ∨ (w.heap.size ≤ k ∧ k < w'.heap.size)
section
variable {C D M : Nat → Prop} {a w w' : World} {B : Nat}
theorem Only.refl (C : Nat → Prop) (w : World) : Only C w w := ⟨rfl, rfl, rfl, Nat.le_refl _, fun _ _ _ => rfl⟩
theorem Only.trans {b c : World} (h : Only C a b) (k : Only C b c) : Only C a c :=
 ⟨k.os.trans h.os, k.tape.trans h.tape, k.output.trans h.output, Nat.le_trans h.size k.size, fun i hi hn => (k.block i (Nat.lt_of_lt_of_le hi h.size) hn).trans (h.block i hi hn)⟩
theorem Only.mono (h : Only C w w') (hc : ∀ k, k < w.heap.size → C k → D k) : Only D w w' := ⟨h.os, h.tape, h.output, h.size, fun k hk hn => h.block k hk fun hck => hn (hc k hk hck)⟩
theorem Only.of_below (h : Below B w w') (hB : ∀ k, B ≤ k → k < w.heap.size → C k) : Only C w w' := ⟨h.os, h.tape, h.output, h.size, fun k hk hn => h.block k (Nat.lt_of_not_le fun hle => hn (hB k hle hk))⟩
theorem Only.of_new (h : Below w.heap.size w w') : Only C w w' := Only.of_below h fun k h1 h2 => absurd h2 (by omega)
theorem Only.below (h : Only C w w') (hB : ∀ k, k < B → ¬ C k) (hs : B ≤ w.heap.size) : Below B w w' := ⟨h.os, h.tape, h.output, h.size, fun k hk => h.block k (by omega) (hB k hk)⟩
theorem Only.drew (h : Only C a w) : Only C a w.drew := ⟨h.os, h.tape, h.output, h.size, h.block⟩
theorem Only.drewN (h : Only C a w) (n : Nat) : Only C a (w.drewN n) := ⟨h.os, h.tape, h.output, h.size, h.block⟩
theorem Only.alloc (h : Only C a w) (o : Obj) : Only C a (w.alloc o) :=
 ⟨h.os, h.tape, h.output, Nat.le_trans h.size (by simp), fun k hk hn => (Below.heap_alloc w o k (Nat.lt_of_lt_of_le hk h.size)).trans (h.block k hk hn)⟩
theorem Only.setCell (h : Only C a w) {p : Addr} (hp : C p.block ∨ a.heap.size ≤ p.block) (u : Value) : Only C a (w.setCell p u) :=
 ⟨h.os, h.tape, h.output, by simpa [World.setCell] using h.size, fun k hk hn => (Below.heap_setCell w p u k (by
  rintro rfl
  rcases hp with hp | hp
  ·exact hn hp
  ·omega)).trans (h.block k hk hn)⟩
theorem Only.grown {row : Option Nat} (h : Only C a w) (hg : w.grownBy w' row) (hr : ∀ k, row = some k → C k ∨ a.heap.size ≤ k) : Only C a w' :=
 ⟨hg.os.trans h.os, hg.tape.trans h.tape, hg.output.trans h.output, Nat.le_trans h.size hg.size, fun k hk hn => (hg.block k (Nat.lt_of_lt_of_le hk h.size) (fun e => by
  rcases hr k e.symm with hc | hc
  ·exact hn hc
  ·omega)).trans (h.block k hk hn)⟩
theorem Only.putObj (h : Only C a w) {r : Nat} (hr : C r ∨ a.heap.size ≤ r) (o : Obj) : Only C a (w.putObj r o) :=
 ⟨h.os, h.tape, h.output, by simpa using h.size, fun k hk hn => (World.putObj_heap_other (by
  rintro rfl
  rcases hr with hp | hp
  ·exact hn hp
  ·omega)).trans (h.block k hk hn)⟩
theorem Only.put_one (w : World) (l : Nat) (o : Obj) : Only (fun k => k = l) w (w.putObj l o) := (Only.refl (fun k => k = l) w).putObj (.inl rfl) o
theorem Blk.only {g : Nat} {t : TypeId} {cs : Array Value} (h : Blk w g t cs) (ho : Only C w w') (hg : ¬ C g) : Blk w' g t cs := (ho.block g h.lt hg).trans h
theorem Blk.stays {g : Nat} {t : TypeId} {cs : Array Value} (h : Blk w g t cs) (ho : Stays B M C w w') (hg : C g ∨ (g < B ∧ ¬ M g)) : Blk w' g t cs := (ho.block g h.lt hg).trans h
theorem Stays.of_only {C' : Nat → Prop} (h : Only D w w') (hd : ∀ k, k < w.heap.size → D k → ¬ C' k ∧ (B ≤ k ∨ M k)) : Stays B M C' w w' :=
 ⟨h.os, h.tape, h.output, h.size, fun k hk hc => h.block k hk fun hdk => by
  obtain ⟨h1, h2⟩ := hd k hk hdk
  rcases hc with hc | ⟨hc, hm⟩
  ·exact h1 hc
  ·rcases h2 with h2 | h2
   ·omega
   ·exact hm h2⟩
theorem Stays.of_new (h : Below w.heap.size w w') : Stays B M C w w' := ⟨h.os, h.tape, h.output, h.size, fun k hk _ => h.block k hk⟩
theorem Stays.mono {B' : Nat} {M' C' : Nat → Prop} (h : Stays B M C w w') (hc : ∀ k, k < w.heap.size → (C' k ∨ (k < B' ∧ ¬ M' k)) → (C k ∨ (k < B ∧ ¬ M k))) : Stays B' M' C' w w' :=
 ⟨h.os, h.tape, h.output, h.size, fun k hk hn => h.block k hk (hc k hk hn)⟩
theorem Stays.below {B' : Nat} (h : Stays B M C w w') (hB : ∀ k, k < B' → C k ∨ (k < B ∧ ¬ M k)) (hs : B' ≤ w.heap.size) : Below B' w w' := ⟨h.os, h.tape, h.output, h.size, fun k hk => h.block k (by omega) (hB k hk)⟩
theorem Stays.reads {B' size n : Nat} {A : Option Addr} {xs : List Value} (h : Stays B M C w w') (hr : Reads w B' size A n xs) (hB : ∀ k, k < B' → C k ∨ (k < B ∧ ¬ M k)) (hs : B' ≤ w.heap.size) : Reads w' B' size A n xs := hr.below (h.below hB hs)
end
structure Later (K : Nat → Prop) (w w' : World) : Prop where
 os : w'.os = w.os
 tape : w'.tape = w.tape
 output : w'.output = w.output
 size : w.heap.size ≤ w'.heap.size
 block : ∀ k, k < w.heap.size → K k → w'.heap[k]? = w.heap[k]?
theorem Later.refl (K : Nat → Prop) (w : World) : Later K w w := ⟨rfl, rfl, rfl, Nat.le_refl _, fun _ _ _ => rfl⟩
theorem Later.of_only {K C : Nat → Prop} {w w' : World} (h : Only C w w') (hc : ∀ k, K k → ¬ C k) : Later K w w' := ⟨h.os, h.tape, h.output, h.size, fun k hk hkk => h.block k hk (hc k hkk)⟩
def Bears {α : Type} (B : Nat) (M : Nat → Prop) (J : List α → (Nat → Prop) → World → Prop) : Prop := ∀ pre C a b, J pre C a → Stays B M C a b → J pre C b
def Round {α : Type} (P : Program) (l : Nat) (J Jx : List α → (Nat → Prop) → World → Prop) (pre : List α) (x : α) (C O : Nat → Prop) (W : World) (args : Array Value) : Prop :=
 YieldAt Fence.wide 0 P l args W fun e W' => ∃ C' b, Only (fun k => C k ∨ O k) W W' ∧ Grows C O C' W W' ∧ e = .returned (.bool b) ∧ (b = true → J (pre ++ [x]) C' W') ∧ (b = false → Jx (pre ++ [x]) C' W')
def Iter {α : Type} (P : Program) (g : Nat) (lb : Array Value) (Arg : α → Array Value → (Nat → Prop) → World → Prop) (K M : Nat → Prop) (xs : List α) (W0 : World) : Prop :=
 ∀ (l : Nat) (J Jx : List α → (Nat → Prop) → World → Prop) (C : Nat → Prop) (W : World), Later K W0 W → (∀ k, C k → k < W.heap.size ∧ ¬ K k) → Bears W.heap.size M J → Bears W.heap.size M Jx →
   (∀ pre x C W1 args O, pre ++ [x] <+: xs → J pre C W1 → W.heap.size ≤ W1.heap.size → (∀ k, C k → k < W1.heap.size) → (∀ k, O k → ¬ C k ∧ k < W1.heap.size ∧ W.heap.size ≤ k) → Arg x args O W1 → Round P l J Jx pre x C O W1 args) →
   J [] C W →
   Calls P g (#[.func (.yield l) #[] #[]] ++ lb) W fun e W' => (∃ v, e = .returned v) ∧ ∃ C', (J xs C' W' ∨ ∃ pre, pre <+: xs ∧ Jx pre C' W')
theorem yieldAt_wide {P : Program} {n m l : Nat} {args : Array Value} {W : World} {R : Ending → World → Prop} (h : YieldAt Fence.wide n P l args W R) : YieldAt Fence.wide m P l args W R := by
 obtain ⟨fn, tmps, assign, body, hy, h1, h2⟩ := h
 exact ⟨fn, tmps, assign, body, hy, h1, fun c cs _ => h2 c cs (room_wide _)⟩
theorem roundIn_wide {P : Program} {n m l : Nat} {fn : FuncId} {tmps : Array Value} {assign body : Code} {w : World} {R : Ending → World → Prop} (h : RoundIn Fence.wide n P l fn tmps assign body w R) : RoundIn Fence.wide m P l fn tmps assign body w R :=
 ⟨h.1, fun c cs _ => h.2 c cs (room_wide _)⟩
theorem roundIn_in {P : Program} {n m l l' : Nat} {fn : FuncId} {tmps : Array Value} {assign body : Code} {w : World} {R : Ending → World → Prop} (h : RoundIn Fence.wide n P l fn tmps assign body w R) : RoundIn (Fence.wide.inRound l') m P l fn tmps assign body w R :=
 ⟨h.1, fun c cs _ => h.2 c cs (room_wide _)⟩
def RoundEnd {α : Type} (I : List α → (Nat → Prop) → World → Prop) (Ix : Code → List α → (Nat → Prop) → World → Prop) (xs : List α) (C O : Nat → Prop) (W : World) : Exit → Act → World → Prop
 | .normal, _, W' => ∃ C', Only (fun k => C k ∨ O k) W W' ∧ Grows C O C' W W' ∧ I xs C' W'
 | .ret, _, W' => ∃ C', Only (fun k => C k ∨ O k) W W' ∧ Grows C O C' W W' ∧ Ix .ret xs C' W'
 | .exit id, _, W' => ∃ C', Only (fun k => C k ∨ O k) W W' ∧ Grows C O C' W W' ∧ Ix (.exit id) xs C' W'
 | .goto t, _, W' => ∃ C', Only (fun k => C k ∨ O k) W W' ∧ Grows C O C' W W' ∧ Ix (.goto t) xs C' W'
 | .panic _, _, _ => False
 | .outgrown, _, _ => False
def recOf (fn : FuncId) (tmps : Array Value) (ps : Array Tmp) (assign body : Code) (D : Nat) (st : LoopState) (pe : Option Code) : Loop := { state := st, pending := pe, fn, tmps, params := ps, assign, body, defers := D }
theorem range_core {α : Type} {F : Fence} {n : Nat} {P : Program} (hF : ∀ f, F.fn f) (hd : F.depth = none) (hcall : ∀ f args w R, Calls P f args w R → CallsIn F (n - 1) P f args w R) (hrl : ∀ l m args W R, YieldAt F m P l args W R → YieldAt Fence.wide 0 P l args W R)
  {g : Operand} {ps : Array Tmp} {assign body : Code} {Q : Exit → Act → World → Prop} {a : Act} {w W1 : World} {l D : Nat} {S : Nat → Prop} {mark : List Deferred}
  (hent : ∀ fn, (Instr.enterLoop fn a.tmps ps assign body F.round).run P w = .ok (l, mark) (W1.putObj l (.loop (recOf fn a.tmps ps assign body D .ready none))))
  (hw1 : Below w.heap.size w W1) (hSl : S l) (hS : ∀ k, S k → w.heap.size ≤ k ∧ k < W1.heap.size)
  {gf : Nat} {lb : Array Value} (hg : a.eval g = .func (.func gf) #[] lb) (eg : ∀ args w, (callFunc gf args).run P w = .ok (.enter gf args) w)
  {Arg : α → Array Value → (Nat → Prop) → World → Prop} {K M : Nat → Prop} {xs : List α} (hit : Iter P gf lb Arg K M xs w)
  (hK : ∀ k, K k → k < w.heap.size)
  (C : Nat → Prop) (hC : ∀ k, C k → k < w.heap.size ∧ ¬ K k)
  (I : List α → (Nat → Prop) → World → Prop) (Ix : Code → List α → (Nat → Prop) → World → Prop)
  (hI : Bears w.heap.size M I) (hIx : ∀ c, Bears w.heap.size M (Ix c)) (h0 : I [] C w)
  (hps : ∀ x args O W, Arg x args O W → args.size = ps.size)
  (hround : ∀ (pre : List α) (x : α) (args : Array Value) (C O : Nat → Prop) (W : World), pre ++ [x] <+: xs → I pre C W → w.heap.size ≤ W.heap.size → (∀ k, C k → k < W.heap.size) → (∀ k, O k → ¬ C k ∧ k < W.heap.size ∧ w.heap.size ≤ k) → Arg x args O W → l < W.heap.size → ¬ C l → ¬ O l →
   ∀ T : Act → World → Prop, (∀ a₁ w₁, Only (fun k => C k ∨ O k) W w₁ → (∀ w₂, Only (fun k => k = l) w₁ w₂ → (∃ r, w₂.heap[l]? = some (.loop r) ∧ r.defers = D) → body.wpIn (F.inRound l) (n - 1 - 1) P (RoundEnd I Ix (pre ++ [x]) C O w₂) a₁ w₂) → T a₁ w₁) →
   assign.wpIn (F.inRound l) (n - 1 - 1) P (Exit.then T (fun _ _ _ => False)) { tmps := (ps.zip args).foldl (fun t (p, v) => t.setIfInBounds p v) a.tmps, defers := [] } W)
  (hdone : ∀ (C' : Nat → Prop) (W : World), I xs C' W → (∀ k, S k → ¬ C' k) → (∀ k, S k → k ≠ l → W.heap[k]? = W1.heap[k]?) → W1.heap.size ≤ W.heap.size → Q .normal { a with defers := mark ++ a.defers } W)
  (hstop : ∀ (c : Code) (pre : List α) (C' : Nat → Prop) (W : World), pre <+: xs → Ix c pre C' W → (∀ k, S k → ¬ C' k) → (∀ k, S k → k ≠ l → W.heap[k]? = W1.heap[k]?) → W1.heap.size ≤ W.heap.size → c.wpIn F n P Q { a with defers := mark ++ a.defers } W) :
  (Code.rangeFunc g ps assign body).wpIn F n P Q a w := by
 refine wpIn_rangeFunc ?_
 intro fn hfn
 obtain ⟨rec, hrec⟩ : ∃ rec : LoopState → Option Code → Loop, rec = recOf fn a.tmps ps assign body D := ⟨_, rfl⟩
 obtain ⟨W2, hW2⟩ : ∃ W2, W1.putObj l (.loop (rec .ready none)) = W2 := ⟨_, rfl⟩
 have hl1 : l < W1.heap.size := (hS l hSl).2
 have hwl : w.heap.size ≤ l := (hS l hSl).1
 have hL2 : W2.heap[l]? = some (.loop (rec .ready none)) := by rw [← hW2]; exact World.putObj_heap_same hl1
 have hs2 : W2.heap.size = W1.heap.size := by rw [← hW2]; simp
 have hS2 : ∀ k, S k → k ≠ l → W2.heap[k]? = W1.heap[k]? := fun k _ hk => by rw [← hW2]; exact World.putObj_heap_other hk
 have ho2 : Only (fun _ => False) w W2 := by rw [← hW2]; exact (Only.of_new hw1).putObj (.inr hwl) _
 have hI0 : I [] C W2 := hI _ _ _ _ h0 (Stays.of_only ho2 (fun _ _ h => h.elim))
 refine ⟨l, mark, W2, { target := .fn (.func gf) lb, args := #[.func (.yield l) #[] #[]] }, W2, gf, #[.func (.yield l) #[] #[]] ++ lb, W2, ?_, ?_, ?_, ?_, (fun h => by rw [hd] at h; cases h), ?_⟩
 ·rw [hent fn, ← hW2, hrec]
 ·simp only [resolve, hg]
  simp [go_sem]
 ·intro f' _; exact hF f'
 ·simp [invoke, go_sem, eg]
 ·refine hcall _ _ _ _ ((hit l
   (fun pre C' W => ∃ C0, (∀ k, C' k ↔ (C0 k ∨ S k)) ∧ (∀ k, C0 k → k < W.heap.size) ∧ (∀ k, S k → ¬ C0 k) ∧ I pre C0 W ∧ W.heap[l]? = some (.loop (rec .ready none)) ∧ (∀ k, S k → k ≠ l → W.heap[k]? = W1.heap[k]?) ∧ W1.heap.size ≤ W.heap.size)
   (fun pre C' W => ∃ C0 c, (∀ k, C' k ↔ (C0 k ∨ S k)) ∧ (∀ k, C0 k → k < W.heap.size) ∧ (∀ k, S k → ¬ C0 k) ∧ Ix c pre C0 W ∧ W.heap[l]? = some (.loop (rec .done (some c))) ∧ (∀ k, S k → k ≠ l → W.heap[k]? = W1.heap[k]?) ∧ W1.heap.size ≤ W.heap.size)
   (fun k => C k ∨ S k) W2 (Later.of_only ho2 (fun _ _ h => h)) ?_ ?_ ?_ ?_ ?_).mono ?_)
  ·rintro k (hk | hk)
   ·have := hC k hk; have := hw1.size; exact ⟨by omega, (hC k hk).2⟩
   ·have := hS k hk; exact ⟨by omega, fun h => by have := hK k h; omega⟩
  ·rintro pre C' A B ⟨C0, hc, hlt, hn, hi, hl, hs, hsz⟩ hst
   have hcl : ∀ k, k < A.heap.size → C' k → B.heap[k]? = A.heap[k]? := fun k hk hck => hst.block k hk (.inl hck)
   refine ⟨C0, hc, fun k hk => Nat.lt_of_lt_of_le (hlt k hk) hst.size, hn, hI _ _ _ _ hi (hst.mono fun k _ hk => ?_), ?_, fun k hk hkl => ?_, Nat.le_trans hsz hst.size⟩
   ·rcases hk with hk | ⟨h1, h2⟩
    ·exact .inl ((hc k).2 (.inl hk))
    ·exact .inr ⟨by have := hw1.size; omega, h2⟩
   ·exact (hcl l (by omega) ((hc l).2 (.inr hSl))).trans hl
   ·exact (hcl k (by have := (hS k hk).2; omega) ((hc k).2 (.inr hk))).trans (hs k hk hkl)
  ·rintro pre C' A B ⟨C0, c, hc, hlt, hn, hi, hl, hs, hsz⟩ hst
   have hcl : ∀ k, k < A.heap.size → C' k → B.heap[k]? = A.heap[k]? := fun k hk hck => hst.block k hk (.inl hck)
   refine ⟨C0, c, hc, fun k hk => Nat.lt_of_lt_of_le (hlt k hk) hst.size, hn, hIx c _ _ _ _ hi (hst.mono fun k _ hk => ?_), ?_, fun k hk hkl => ?_, Nat.le_trans hsz hst.size⟩
   ·rcases hk with hk | ⟨h1, h2⟩
    ·exact .inl ((hc k).2 (.inl hk))
    ·exact .inr ⟨by have := hw1.size; omega, h2⟩
   ·exact (hcl l (by omega) ((hc l).2 (.inr hSl))).trans hl
   ·exact (hcl k (by have := (hS k hk).2; omega) ((hc k).2 (.inr hk))).trans (hs k hk hkl)
  ·-- one round
   rintro pre x C' W args O hpre ⟨C0, hc, hlt, hn, hi, hl, hs, hsz⟩ hWW hC' hO harg
   have hlW : l < W.heap.size := by omega
   have hy := run_yield (P := P) (args := args) hl (by rw [hrec]; exact hps x args O W harg)
   refine hrl l (n - 1 - 1) args W _ ⟨fn, _, assign, body, by rw [hrec] at hy; exact hy, roundIn_of_wpIn hfn ?_⟩
   have hOl : ¬ O l := fun h => (hO l h).1 ((hc l).2 (.inr hSl))
   refine hround pre x args C0 O W hpre hi (by have := hw1.size; omega) hlt (fun k hk => ⟨fun h => (hO k hk).1 ((hc k).2 (.inl h)), (hO k hk).2.1, by have := (hO k hk).2.2; have := hw1.size; omega⟩) harg hlW (hn l hSl) hOl _ ?_
   intro a₁ w₁ ho1 hbody
   have hl1' : w₁.heap[l]? = some (.loop (rec .ready none)) := (ho1.block l hlW (fun h => h.elim (hn l hSl) hOl)).trans hl
   have hb := run_beginRound (P := P) hl1' (by rw [hrec]; rfl)
   refine ⟨_, hb, ?_⟩
   obtain ⟨w₂, hw₂⟩ : ∃ w₂, w₁.putObj l (.loop { rec .ready none with state := .busy }) = w₂ := ⟨_, rfl⟩
   rw [hw₂]
   have hlw1 : l < w₁.heap.size := Nat.lt_of_lt_of_le hlW ho1.size
   have hl2 : w₂.heap[l]? = some (.loop { rec .ready none with state := .busy }) := by rw [← hw₂]; exact World.putObj_heap_same hlw1
   have ho12 : Only (fun k => k = l) w₁ w₂ := by rw [← hw₂]; exact Only.put_one _ _ _
   have hsw : w₂.heap.size = w₁.heap.size := by rw [← hw₂]; simp
   have hrd : (rec .ready none).defers = D := by rw [hrec]; rfl
   refine wpIn_mono (hbody w₂ ho12 ⟨_, hl2, hrd⟩) ?_
   have fin : ∀ (jump : Option Code) (W3 : World) (C3 : Nat → Prop), Only (fun k => C0 k ∨ O k) w₂ W3 → Grows C0 O C3 w₂ W3 →
     (Instr.endRound l jump).run P W3 = .ok (.bool jump.isNone) (W3.putObj l (.loop (rec (if jump.isNone then .ready else .done) jump))) ∧
     Only (fun k => C' k ∨ O k) W (W3.putObj l (.loop (rec (if jump.isNone then .ready else .done) jump))) ∧
     Grows C' O (fun k => C3 k ∨ S k) W (W3.putObj l (.loop (rec (if jump.isNone then .ready else .done) jump))) ∧
     (∀ k, S k → ¬ C3 k) ∧ (∀ k, C3 k → k < W3.heap.size) ∧
     (W3.putObj l (.loop (rec (if jump.isNone then .ready else .done) jump))).heap[l]? = some (.loop (rec (if jump.isNone then .ready else .done) jump)) ∧
     (∀ k, S k → k ≠ l → (W3.putObj l (.loop (rec (if jump.isNone then .ready else .done) jump))).heap[k]? = W1.heap[k]?) ∧
     Stays w.heap.size M C3 W3 (W3.putObj l (.loop (rec (if jump.isNone then .ready else .done) jump))) := fun jump W3 C3 ho3 hg3 => by
    have hSO : ∀ k, S k → ¬ O k := fun k hk h => (hO k h).1 ((hc k).2 (.inr hk))
    have hl3 : W3.heap[l]? = some (.loop { rec .ready none with state := .busy }) := (ho3.block l (by omega) (fun h => h.elim (hn l hSl) hOl)).trans hl2
    have hr3 := run_endRound (P := P) jump hl3
    have hsz3 := ho3.size
    have hsz1 := ho1.size
    have hoW3 : Only (fun k => C' k ∨ O k) W W3 := by
     have h1 : Only (fun k => C' k ∨ O k) W w₁ := ho1.mono fun k _ h => h.imp (fun h => (hc k).2 (.inl h)) id
     have h2 : Only (fun k => C' k ∨ O k) w₁ w₂ := ho12.mono fun k _ h => by subst h; exact .inl ((hc _).2 (.inr hSl))
     have h3 : Only (fun k => C' k ∨ O k) w₂ W3 := ho3.mono fun k _ h => h.imp (fun h => (hc k).2 (.inl h)) id
     exact (h1.trans h2).trans h3
    have hnS : ∀ k, S k → ¬ C3 k := fun k hk h => by
     rcases hg3 k h with h | h | h
     ·exact hn k hk h
     ·exact hSO k hk h
     ·have := (hS k hk).2; omega
    refine ⟨?_, hoW3.putObj (.inl (.inl ((hc l).2 (.inr hSl)))) _, ?_, hnS, ?_, World.putObj_heap_same (by omega), ?_, ?_⟩
    ·rw [hr3, hrec]; rfl
    ·rintro k (hk | hk)
     ·rcases hg3 k hk with h | h | h
      ·exact .inl ((hc k).2 (.inl h))
      ·exact .inr (.inl h)
      ·exact .inr (.inr ⟨by omega, by simp; omega⟩)
     ·exact .inl ((hc k).2 (.inr hk))
    ·intro k hk
     rcases hg3 k hk with h | h | h
     ·have := hlt k h; omega
     ·have := (hO k h).2.1; omega
     ·omega
    ·intro k hk hkl
     refine (World.putObj_heap_other hkl).trans ((ho3.block k (by have := (hS k hk).2; omega) (fun h => h.elim (hn k hk) (hSO k hk))).trans ((ho12.block k (by have := (hS k hk).2; omega) hkl).trans
      ((ho1.block k (by have := (hS k hk).2; omega) (fun h => h.elim (hn k hk) (hSO k hk))).trans (hs k hk hkl))))
    ·exact Stays.of_only (D := fun k => k = l) (Only.put_one _ _ _) fun k _ hk => by subst hk; exact ⟨hnS _ hSl, .inl hwl⟩
   rintro e a3 W3 hp
   have hw1s := hw1.size
   cases e with
   | normal =>
     obtain ⟨C3, ho3, hg3, hi3⟩ := hp
     obtain ⟨r1, r2, r3, r4, r5, r6, r7, r8⟩ := fin none W3 C3 ho3 hg3
     exact ⟨_, _, r1, _, true, r2, r3, rfl, fun _ => ⟨C3, fun _ => Iff.rfl, fun k hk => by simpa using r5 k hk, r4, hI _ _ _ _ hi3 r8, r6, r7, by simp; have := ho3.size; have := ho1.size; omega⟩, fun h => by cases h⟩
   | ret =>
     obtain ⟨C3, ho3, hg3, hi3⟩ := hp
     obtain ⟨r1, r2, r3, r4, r5, r6, r7, r8⟩ := fin (some .ret) W3 C3 ho3 hg3
     exact ⟨_, _, r1, _, false, r2, r3, rfl, (fun h => by cases h), fun _ => ⟨C3, .ret, fun _ => Iff.rfl, fun k hk => by simpa using r5 k hk, r4, hIx _ _ _ _ _ hi3 r8, r6, r7, by simp; have := ho3.size; have := ho1.size; omega⟩⟩
   | exit id =>
     obtain ⟨C3, ho3, hg3, hi3⟩ := hp
     obtain ⟨r1, r2, r3, r4, r5, r6, r7, r8⟩ := fin (some (.exit id)) W3 C3 ho3 hg3
     exact ⟨_, _, r1, _, false, r2, r3, rfl, (fun h => by cases h), fun _ => ⟨C3, .exit id, fun _ => Iff.rfl, fun k hk => by simpa using r5 k hk, r4, hIx _ _ _ _ _ hi3 r8, r6, r7, by simp; have := ho3.size; have := ho1.size; omega⟩⟩
   | goto t =>
     obtain ⟨C3, ho3, hg3, hi3⟩ := hp
     obtain ⟨r1, r2, r3, r4, r5, r6, r7, r8⟩ := fin (some (.goto t)) W3 C3 ho3 hg3
     exact ⟨_, _, r1, _, false, r2, r3, rfl, (fun h => by cases h), fun _ => ⟨C3, .goto t, fun _ => Iff.rfl, fun k hk => by simpa using r5 k hk, r4, hIx _ _ _ _ _ hi3 r8, r6, r7, by simp; have := ho3.size; have := ho1.size; omega⟩⟩
   | panic ch => exact hp.elim
   | outgrown => exact hp.elim
  ·refine ⟨C, fun _ => Iff.rfl, fun k hk => by have := (hC k hk).1; have := hw1.size; omega, fun k hk h => by have := (hC k h).1; have := (hS k hk).1; omega, hI0, hL2, hS2, by omega⟩
  ·-- behind the iterator
   rintro e W3 ⟨⟨v, rfl⟩, C', (⟨C0, hc, hlt, hn, hi, hl, hs, hsz⟩ | ⟨pre, hpre, C0, c, hc, hlt, hn, hi, hl, hs, hsz⟩)⟩
   ·have hst : Stays w.heap.size M C0 W3 (W3.putObj l (.loop (rec .exhausted none))) := Stays.of_only (D := fun k => k = l) (Only.put_one _ _ _) fun k _ hk => by subst hk; exact ⟨hn _ hSl, .inl hwl⟩
    refine ⟨none, _, by have := run_endLoop (P := P) hl (by rw [hrec]; simp [recOf]); rw [hrec] at this; exact this, ?_⟩
    rw [hrec] at hst
    exact hdone C0 _ (hI _ _ _ _ hi hst) hn (fun k hk hkl => (World.putObj_heap_other hkl).trans (hs k hk hkl)) (by simpa using hsz)
   ·have hst : Stays w.heap.size M C0 W3 (W3.putObj l (.loop (rec .exhausted (some c)))) := Stays.of_only (D := fun k => k = l) (Only.put_one _ _ _) fun k _ hk => by subst hk; exact ⟨hn _ hSl, .inl hwl⟩
    refine ⟨some c, _, by have := run_endLoop (P := P) hl (by rw [hrec]; simp [recOf]); rw [hrec] at this; exact this, ?_⟩
    rw [hrec] at hst
    exact hstop c pre C0 _ hpre (hIx c _ _ _ _ hi hst) hn (fun k hk hkl => (World.putObj_heap_other hkl).trans (hs k hk hkl)) (by simpa using hsz)
theorem putObj_alloc (w : World) (o o' : Obj) : (w.alloc o).putObj w.heap.size o' = w.alloc o' := by
 have e : (w.heap.push o).setIfInBounds w.heap.size o' = w.heap.push o' := by
  apply Array.ext_getElem?
  intro k
  by_cases h : k = w.heap.size
  ·subst h; simp
  ·rw [Array.getElem?_setIfInBounds_ne (Ne.symm h), Array.getElem?_push, Array.getElem?_push, if_neg h, if_neg h]
 show ({ w with heap := (w.heap.push o).setIfInBounds w.heap.size o' } : World) = { w with heap := w.heap.push o' }
 rw [e]
theorem inW {n : Nat} {P : Program} {f : FuncId} {args : Array Value} {w : World} {R : Ending → World → Prop} (h : Calls P f args w R) : CallsIn Fence.wide n P f args w R := callsIn_wide.2 h
theorem inR {n l : Nat} {P : Program} {f : FuncId} {args : Array Value} {w : World} {R : Ending → World → Prop} (h : Calls P f args w R) : CallsIn (Fence.wide.inRound l) n P f args w R := CallsIn.inRound l (callsIn_wide.2 h)
theorem range_outer {α : Type} {n : Nat} {P : Program} {g : Operand} {ps : Array Tmp} {assign body : Code} {Q : Exit → Act → World → Prop} {a : Act} {w : World}
  {gf : Nat} {lb : Array Value} (hg : a.eval g = .func (.func gf) #[] lb) (eg : ∀ args w, (callFunc gf args).run P w = .ok (.enter gf args) w)
  {Arg : α → Array Value → (Nat → Prop) → World → Prop} {K M : Nat → Prop} {xs : List α} (hit : Iter P gf lb Arg K M xs w)
  (hK : ∀ k, K k → k < w.heap.size)
  (C : Nat → Prop) (hC : ∀ k, C k → k < w.heap.size ∧ ¬ K k)
  (I : List α → (Nat → Prop) → World → Prop) (Ix : Code → List α → (Nat → Prop) → World → Prop)
  (hI : Bears w.heap.size M I) (hIx : ∀ c, Bears w.heap.size M (Ix c)) (h0 : I [] C w)
  (hps : ∀ x args O W, Arg x args O W → args.size = ps.size)
  (hround : ∀ (l : Nat) (pre : List α) (x : α) (args : Array Value) (C O : Nat → Prop) (W : World), pre ++ [x] <+: xs → I pre C W → w.heap.size < l → (∀ k, C k → k < W.heap.size) → (∀ k, O k → ¬ C k ∧ k < W.heap.size ∧ w.heap.size ≤ k) → Arg x args O W → l < W.heap.size → ¬ C l → ¬ O l →
   ∀ T : Act → World → Prop, (∀ a₁ w₁, Only (fun k => C k ∨ O k) W w₁ → (∀ w₂, Only (fun k => k = l) w₁ w₂ → (∃ r, w₂.heap[l]? = some (.loop r)) → body.wpIn (Fence.wide.inRound l) (n - 1 - 1) P (RoundEnd I Ix (pre ++ [x]) C O w₂) a₁ w₂) → T a₁ w₁) →
   assign.wpIn (Fence.wide.inRound l) (n - 1 - 1) P (Exit.then T (fun _ _ _ => False)) { tmps := (ps.zip args).foldl (fun t (p, v) => t.setIfInBounds p v) a.tmps, defers := [] } W)
  (hdone : ∀ (C' : Nat → Prop) (W : World), I xs C' W → ¬ C' w.heap.size → W.heap[w.heap.size]? = some (.deferred (some [])) → Q .normal { a with defers := { target := .collected w.heap.size, args := #[] } :: a.defers } W)
  (hstop : ∀ (c : Code) (pre : List α) (C' : Nat → Prop) (W : World), pre <+: xs → Ix c pre C' W → ¬ C' w.heap.size → W.heap[w.heap.size]? = some (.deferred (some [])) →
   c.wpIn Fence.wide n P Q { a with defers := { target := .collected w.heap.size, args := #[] } :: a.defers } W) :
  (Code.rangeFunc g ps assign body).wpIn Fence.wide n P Q a w := by
 have hD : ((w.alloc (.deferred (some []))).alloc (.loop (recOf 0 #[] #[] .skip .skip w.heap.size .ready none))).heap[w.heap.size]? = some (.deferred (some [])) :=
  (Below.heap_alloc _ _ _ (by simp)).trans (World.alloc_heap_new w _)
 refine range_core (F := Fence.wide) (W1 := (w.alloc (.deferred (some []))).alloc (.loop (recOf 0 #[] #[] .skip .skip w.heap.size .ready none))) (l := w.heap.size + 1) (D := w.heap.size) (S := fun k => k = w.heap.size ∨ k = w.heap.size + 1)
  (mark := [{ target := .collected w.heap.size, args := #[] }]) (fun _ => trivial) rfl (fun _ _ _ _ h => callsIn_wide.2 h) (fun _ _ _ _ _ h => yieldAt_wide h) ?_ ?_ (.inr rfl) ?_ hg eg hit hK C hC I Ix hI hIx h0 hps ?_ ?_ ?_
 ·intro fn
  have e : w.heap.size + 1 = (w.alloc (.deferred (some []))).heap.size := by simp
  rw [show Fence.wide.round = none from rfl, run_enterLoop_outer]
  congr 1
  rw [e, putObj_alloc]
  rfl
 ·exact ((Below.refl _ _).alloc (Nat.le_refl _) _).alloc (by simp) _
 ·intro k hk
  have e : ((w.alloc (.deferred (some []))).alloc (.loop (recOf 0 #[] #[] .skip .skip w.heap.size .ready none))).heap.size = w.heap.size + 1 + 1 := by simp
  rw [e]
  rcases hk with rfl | rfl <;> omega
 ·intro pre x args C O W h1 h2 h3 h4 h5 h6 h7 h8 h9 T hT
  exact hround (w.heap.size + 1) pre x args C O W h1 h2 (by omega) h4 h5 h6 h7 h8 h9 T fun a₁ w₁ ho hb => hT a₁ w₁ ho fun w₂ h2 hr => hb w₂ h2 (hr.imp fun _ h => h.1)
 ·intro C' W hi hs hk _
  exact hdone C' W hi (hs _ (.inl rfl)) ((hk _ (.inl rfl) (by omega)).trans hD)
 ·intro c pre C' W hp hi hs hk _
  exact hstop c pre C' W hp hi (hs _ (.inl rfl)) ((hk _ (.inl rfl) (by omega)).trans hD)
theorem end_mark {n : Nat} {P : Program} {fn : Func} {R : Ending → World → Prop} {tmps : Array Value} {D : Nat} {w : World} {v : Value} (hD : w.heap[D]? = some (.deferred (some [])))
  (hv : (results fn tmps).run P (w.putObj D (.deferred none)) = .ok v (w.putObj D (.deferred none))) (hR : R (.returned v) (w.putObj D (.deferred none))) :
  bodyPostM Fence.wide n P fn R .ret { tmps := tmps, defers := [{ target := .collected D, args := #[] }] } w :=
 ⟨by simp, .inl ⟨_, _, rfl, run_takeDeferred hD, v, hv, hR⟩⟩
end Go.Proofs.YtnbikkcalcpedaaGreatDoor
namespace Go.Proofs.YtnbikkcalcpedaaGreatDoor
abbrev Tm := (Nat × Nat) × Int
def abv (a b : Nat × Nat) : Bool := decide (b.1 < a.1) || (decide (a.1 = b.1) && decide (b.2 < a.2))
section
variable {a b c : Nat × Nat} {p q : List Tm}
theorem abv_as (h : abv a b = true) : abv b a = false := by
 rw [Bool.eq_false_iff]; intro h'
 simp [abv] at *; omega
theorem abv_ir : abv a a = false := by simp [abv]
def Canon (p : List Tm) : Prop := (p.Pairwise fun a b => abv a.1 b.1 = true) ∧ ∀ a ∈ p, a.2 ≠ 0
def cfP (p : List Tm) (k : Nat × Nat) : Int := (p.map fun a => if a.1 = k then a.2 else 0).sum
theorem cfP_cons (a : Tm) (p : List Tm) (k : Nat × Nat) : cfP (a :: p) k = (if a.1 = k then a.2 else 0) + cfP p k := by simp [cfP]
theorem cfP_zero (h : ∀ a ∈ p, a.1 ≠ c) : cfP p c = 0 := by
 induction p with
 | nil => rfl
 | cons a p ih => rw [cfP_cons, if_neg (h a (by simp)), ih fun b hb => h b (by simp [hb])]; rfl
theorem Canon.tail {x : Tm} (h : Canon (x :: p)) : Canon p := ⟨(List.pairwise_cons.1 h.1).2, fun a ha => h.2 a (by simp [ha])⟩
theorem Canon.below {x : Tm} (h : Canon (x :: p)) {k : Nat × Nat} (hk : k = x.1 ∨ abv k x.1 = true) : cfP p k = 0 := by
 refine cfP_zero fun a ha he => ?_
 have h1 := (List.pairwise_cons.1 h.1).1 a ha
 subst he
 rcases hk with hk | hk
 ·rw [hk, abv_ir] at h1; cases h1
 ·rw [abv_as hk] at h1; cases h1
end
end Go.Proofs.YtnbikkcalcpedaaGreatDoor
namespace Go.Proofs.YtnbikkcalcpedaaGreatDoor
open Go.RowKit
def fcells (f : List Nat) : Array Value := (f.map fun v : Nat => Value.int .i64 v).toArray
theorem fcells_get {f : List Nat} {v : Nat} (h : v < f.length) : (fcells f)[v]? = some (.int .i64 (f.getD v 0 : Nat)) := by
 simp [fcells, List.getD_eq_getElem?_getD, List.getElem?_eq_getElem h]
theorem fcells_set (f : List Nat) (i x : Nat) : (fcells f).setIfInBounds i (.int .i64 (x : Nat)) = fcells (f.set i x) := by simp [fcells, List.map_set]
theorem list12 {l : List Nat} (h : l.length = 12) : ∃ a0 a1 a2 a3 a4 a5 a6 a7 a8 a9 a10 a11, l = [a0, a1, a2, a3, a4, a5, a6, a7, a8, a9, a10, a11] := by
 match l, h with
 | [a0, a1, a2, a3, a4, a5, a6, a7, a8, a9, a10, a11], _ => exact ⟨_, _, _, _, _, _, _, _, _, _, _, _, rfl⟩
end Go.Proofs.YtnbikkcalcpedaaGreatDoor
namespace Go.Proofs.YtnbikkcalcpedaaGreatDoor
structure Rp (ps : List (Nat × Nat)) (f : List Nat) (r h : Nat → Nat) : Prop where
 len : f.length = 12
 lt : ∀ v, v < 12 → f.getD v 0 < 12
 fix : ∀ v, v < 12 → f.getD v 0 = v → r v = v
 step : ∀ v, v < 12 → f.getD v 0 ≠ v → h (f.getD v 0) < h v ∧ r (f.getD v 0) = r v
 root : ∀ v, v < 12 → r v < 12 ∧ f.getD (r v) 0 = r v
 same : ∀ u v, u < 12 → v < 12 → (r u = r v ↔ Cn ps u v)
 cnt : ∀ n, n ≤ 12 → BdP n ps → ((List.range n).filter fun v => decide (r v = v)).length = partsP n ps
def FR (ps : List (Nat × Nat)) (f : List Nat) : Prop := ∃ r h, Rp ps f r h
theorem getD_setN (f : List Nat) (i v x : Nat) : (f.set i x).getD v 0 = if v = i ∧ i < f.length then x else f.getD v 0 := by
 simp only [List.getD_eq_getElem?_getD, List.getElem?_set]
 by_cases h : i = v
 ·subst h
  by_cases hl : i < f.length
  ·simp [hl]
  ·simp [hl]
 ·simp [h, Ne.symm h]
theorem FR.mem {ps qs : List (Nat × Nat)} {f : List Nat} (h : FR ps f) (hm : ∀ p, p ∈ ps ↔ p ∈ qs) : FR qs f := by
 obtain ⟨r, hh, k⟩ := h
 refine ⟨r, hh, k.len, k.lt, k.fix, k.step, k.root, fun u v hu hv => (k.same u v hu hv).trans (cn_same hm), fun n hn hb => ?_⟩
 rw [k.cnt n hn (fun p hp => hb p ((hm p).1 hp))]
 exact partsP_congr fun _ _ => cn_same hm
theorem range12_get {v : Nat} (hv : v < 12) : (List.range 12).getD v 0 = v := by
 rw [List.getD_eq_getElem?_getD, List.getElem?_range hv]; rfl
theorem fr_nil : FR [] (List.range 12) := by
 refine ⟨id, fun _ => 0, by simp, fun v hv => by rw [range12_get hv]; exact hv, fun v _ _ => rfl, fun v hv h => absurd (range12_get hv) h, fun v hv => ⟨hv, range12_get hv⟩, fun u v _ _ => ⟨fun h => ?_, fun h => cn_nil h⟩, fun n _ _ => ?_⟩
 ·have h : u = v := h
  subst h; exact .refl
 ·rw [partsP_nil, List.filter_eq_self.2]
  ·simp
  ·intro v _; simp
theorem Rp.join {ps : List (Nat × Nat)} {f : List Nat} {r h : Nat → Nat} (k : Rp ps f r h) {a b : Nat} (ha : a < 12) (hb : b < 12) : FR ((a, b) :: ps) (f.set (r a) (r b)) := by
 have hra := k.root a ha
 have hrb := k.root b hb
 have hlen := k.len
 by_cases he : r a = r b
 ·have hf : f.set (r a) (r b) = f := by
   apply List.ext_getElem?
   intro i
   by_cases hi : r a = i
   ·subst hi
    rw [List.getElem?_set_self (by omega), ← he]
    have := hra.2
    rw [List.getD_eq_getElem?_getD, List.getElem?_eq_getElem (by omega)] at this
    rw [List.getElem?_eq_getElem (by omega)]
    simp only [Option.getD_some] at this
    rw [this]
   ·rw [List.getElem?_set_ne hi]
  rw [hf]
  have hc : Cn ps a b := (k.same a b ha hb).1 he
  refine ⟨r, h, k.len, k.lt, k.fix, k.step, k.root, fun u v hu hv => (k.same u v hu hv).trans (cn_cons_of (p := (a, b)) hc).symm, fun n hn hbd => ?_⟩
  rw [k.cnt n hn hbd.cons.2, partsP_in (p := (a, b)) hc]
 ·have hnc : ¬ Cn ps a b := fun hc => he ((k.same a b ha hb).2 hc)
  have hrr : ∀ v, v < 12 → r (r v) = r v := fun v hv => k.fix _ (k.root v hv).1 (k.root v hv).2
  have hg : ∀ v, (f.set (r a) (r b)).getD v 0 = if v = r a then r b else f.getD v 0 := fun v => by
   rw [getD_setN]
   by_cases hv : v = r a
   ·rw [if_pos ⟨hv, by omega⟩, if_pos hv]
   ·rw [if_neg (fun hc => hv hc.1), if_neg hv]
  have hrv : ∀ u v, u < 12 → v < 12 → (((if r u = r a then r b else r u) = (if r v = r a then r b else r v)) ↔ Cn ((a, b) :: ps) u v) := by
   intro u v hu hv
   rw [cn_cons]
   rw [← k.same u v hu hv, ← k.same u a hu ha, ← k.same b v hb hv, ← k.same u b hu hb, ← k.same a v ha hv]
   split <;> split <;> omega
  refine ⟨fun v => if r v = r a then r b else r v, fun v => if r v = r a then h v + h (r b) + 1 else h v, by simpa using hlen, ?_, ?_, ?_, ?_, hrv, ?_⟩
  ·intro v hv
   rw [hg]
   split
   ·exact hrb.1
   ·exact k.lt v hv
  ·intro v hv hfv
   rw [hg] at hfv
   split at hfv
   ·omega
   ·have := k.fix v hv hfv
    rw [if_neg (by omega)]; exact this
  ·intro v hv hfv
   rw [hg] at hfv ⊢
   have e1 := hrr a ha
   have e2 := hrr b hb
   by_cases hva : v = r a
   ·have hn : ¬ r b = r a := fun e => he e.symm
    rw [if_pos hva, hva]
    simp only [e1, e2, if_true, hn, if_false]
    exact ⟨by omega, trivial⟩
   ·rw [if_neg hva] at hfv ⊢
    obtain ⟨s1, s2⟩ := k.step v hv hfv
    rw [s2]
    refine ⟨?_, rfl⟩
    split <;> omega
  ·intro v hv
   have := k.root v hv
   by_cases hva : r v = r a
   ·rw [if_pos hva, hg, if_neg (fun e => he e.symm)]; exact hrb
   ·rw [if_neg hva, hg, if_neg hva]; exact this
  ·intro n hn hbd
   obtain ⟨⟨h1, h2⟩, hbd'⟩ := hbd.cons
   dsimp only at h1 h2
   have hp := partsP_out (p := (a, b)) (n := n) h1 h2 hnc
   rw [← k.cnt n hn hbd'] at hp
   have hran : r a < n := ((k.same a (r a) ha hra.1).1 (hrr a ha).symm).lt hbd' h1
   have := filter_less (l := List.range n) List.nodup_range (x := r a) (by rw [List.mem_range]; exact hran) (P := fun v => decide (r v = v)) (Q := fun v => decide ((if r v = r a then r b else r v) = v)) (by rw [decide_eq_true_eq]; exact hrr a ha) (fun v hv => ?_)
   ·omega
   ·rw [List.mem_range] at hv
    have e1 := hrr a ha
    have e2 := hrr b hb
    have e3 := hrr v (by omega)
    rw [Bool.eq_iff_iff, Bool.and_eq_true, Bool.not_eq_true', decide_eq_true_eq, decide_eq_true_eq, decide_eq_false_iff_not]
    constructor
    ·intro hh
     split at hh
     ·rename_i hva
      rw [← hh, e2] at hva; omega
     ·exact ⟨hh, by omega⟩
    ·rintro ⟨h3, h4⟩
     rw [if_neg (by omega)]; exact h3
theorem Rp.snoc {ps : List (Nat × Nat)} {f : List Nat} {r h : Nat → Nat} (k : Rp ps f r h) {a b : Nat} (ha : a < 12) (hb : b < 12) : FR (ps ++ [(a, b)]) (f.set (r a) (r b)) :=
 (k.join ha hb).mem fun p => by simp [or_comm]
end Go.Proofs.YtnbikkcalcpedaaGreatDoor
namespace Go.Proofs.YtnbikkcalcpedaaGreatDoor
def pk (E : List (Nat × Nat)) (t : List Nat) : List (Nat × Nat) := t.map fun e => E.getD e (0, 0)
def lessL (t : List Nat) (e : Nat) : List Nat := t.filter fun x => !decide (x = e)
def SetN (m : Nat) (t : List Nat) : Prop := t.Pairwise (· < ·) ∧ ∀ e ∈ t, e < m
structure FoE (n : Nat) (E : List (Nat × Nat)) (t : List Nat) : Prop where
 bd : BdP n E
 nodup : t.Nodup
 lt : ∀ e ∈ t, e < E.length
 fo : Fo (pk E t)
section
variable {E : List (Nat × Nat)} {t u : List Nat} {n e f a b : Nat}
theorem SetN.nodup {m : Nat} (h : SetN m t) : t.Nodup := h.1.imp fun h => by omega
theorem mem_pk {p : Nat × Nat} : p ∈ pk E t ↔ ∃ e ∈ t, E.getD e (0, 0) = p := by simp [pk]
theorem pk_length : (pk E t).length = t.length := by simp [pk]
theorem getD_bd (hb : BdP n E) (he : e < E.length) : (E.getD e (0, 0)).1 < n ∧ (E.getD e (0, 0)).2 < n := by
 have : E.getD e (0, 0) ∈ E := by
  rw [List.getD_eq_getElem?_getD, List.getElem?_eq_getElem he]; exact List.getElem_mem he
 exact hb _ this
theorem bd_pk (hb : BdP n E) (h : ∀ e ∈ t, e < E.length) : BdP n (pk E t) := by
 intro p hp
 obtain ⟨e, he, rfl⟩ := mem_pk.1 hp
 exact getD_bd hb (h e he)
theorem mem_less {x : Nat} : x ∈ lessL t e ↔ x ∈ t ∧ x ≠ e := by simp [lessL]
theorem less_sub : (lessL t e).Sublist t := List.filter_sublist
theorem less_nodup (h : t.Nodup) : (lessL t e).Nodup := h.sublist less_sub
theorem pk_perm (h : t.Perm u) : (pk E t).Perm (pk E u) := h.map _
theorem pk_sub (h : t.Sublist u) : (pk E t).Sublist (pk E u) := h.map _
theorem cn_sub (h : ∀ x ∈ t, x ∈ u) (hc : Cn (pk E t) a b) : Cn (pk E u) a b := hc.mono fun p hp => by
 obtain ⟨e, he, rfl⟩ := mem_pk.1 hp
 exact mem_pk.2 ⟨e, h e he, rfl⟩
theorem FoE.less (h : FoE n E t) (e : Nat) : FoE n E (lessL t e) := ⟨h.bd, less_nodup h.nodup, fun x hx => h.lt x (mem_less.1 hx).1, h.fo.sub (pk_sub less_sub)⟩
theorem FoE.add (h : FoE n E t) (he : e < E.length) (hn : e ∉ t) (hc : ¬ Cn (pk E t) (E.getD e (0, 0)).1 (E.getD e (0, 0)).2) : FoE n E (e :: t) :=
 ⟨h.bd, List.nodup_cons.2 ⟨hn, h.nodup⟩, fun x hx => (List.mem_cons.1 hx).elim (fun h => h ▸ he) (h.lt x), ⟨h.fo, hc⟩⟩
theorem FoE.perm (h : FoE n E t) (hp : t.Perm u) : FoE n E u := ⟨h.bd, hp.nodup_iff.1 h.nodup, fun x hx => h.lt x (hp.mem_iff.2 hx), (fo_perm (bd_pk h.bd h.lt) (pk_perm hp)).1 h.fo⟩
def oth (p : Nat × Nat) (v : Nat) : Nat := if p.1 = v then p.2 else p.1
def Inc (E : List (Nat × Nat)) (e v : Nat) : Prop := (E.getD e (0, 0)).1 = v ∨ (E.getD e (0, 0)).2 = v
instance inc_dec (E : List (Nat × Nat)) (e v : Nat) : Decidable (Inc E e v) := inferInstanceAs (Decidable (_ ∨ _))
theorem inc_cases {v : Nat} (h : Inc E e v) : ((E.getD e (0, 0)).1 = v ∧ (E.getD e (0, 0)).2 = oth (E.getD e (0, 0)) v) ∨ ((E.getD e (0, 0)).2 = v ∧ (E.getD e (0, 0)).1 = oth (E.getD e (0, 0)) v) := by
 unfold oth
 by_cases h1 : (E.getD e (0, 0)).1 = v
 ·exact .inl ⟨h1, by rw [if_pos h1]⟩
 ·rcases h with h | h
  ·exact absurd h h1
  ·exact .inr ⟨h, by rw [if_neg h1]⟩
theorem inc_cn {v : Nat} (he : e ∈ t) (h : Inc E e v) : Cn (pk E t) v (oth (E.getD e (0, 0)) v) := by
 have hp : Cn (pk E t) (E.getD e (0, 0)).1 (E.getD e (0, 0)).2 := Cn.pair (mem_pk.2 ⟨e, he, rfl⟩)
 rcases inc_cases h with ⟨h1, h2⟩ | ⟨h1, h2⟩
 ·rw [h1, h2] at hp; exact hp
 ·rw [h1, h2] at hp; exact hp.symm
def Sep (E : List (Nat × Nat)) (t : List Nat) (a b e : Nat) : Prop := ¬ Cn (pk E (lessL t e)) a b
instance sep_dec (E : List (Nat × Nat)) (t : List Nat) (a b e : Nat) : Decidable (Sep E t a b e) := inferInstanceAs (Decidable (¬ _))
theorem Sep.symm (h : Sep E t a b e) : Sep E t b a e := fun hc => h hc.symm
end
end Go.Proofs.YtnbikkcalcpedaaGreatDoor
