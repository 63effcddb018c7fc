/-
  The enumeration of the parking functions: the iterator 'functions', by recursion on how many cars are still to come.
-/
import Derived.Test.YtjeggocindcgaaaPark2
import Derived.Test.YtjeggocindcgaaaIter
import Derived.Test.YtjeggocindcgaaaRows2
import Derived.Test.YtjeggocindcgaaaIterX
import Derived.Test.YtjeggocindcgaaaCloneI
import Derived.Stop.RegionWithIn
namespace Go.Proofs.Ytjeggocindcgaaa
open Go.RowKit Go.Shelf
attribute [local go_sem] Oper.semAt_some

set_option maxHeartbeats 400000 in
theorem least0_any (A : Option Addr) (c : Nat) (xs : List Int) (w : World) (_h : Reads w w.heap.size 1 A xs.length (ints xs)) :
    Calls Try.prog 50 #[.slice A xs.length c] w fun e w' => e = .returned (.int .i64 0) ∧ w = w' := by
  go_enter Try.func50, Try.ntmps50
  go_wp2
  go_ret
  exact ⟨rfl, rfl⟩
def lastOr (xs : List Int) : Int := xs.getLast?.getD 0
set_option maxHeartbeats 400000 in
theorem least1_any (A : Option Addr) (c : Nat) (xs : List Int) (hn : xs.length ≤ 1048576) (w : World) (h : Reads w w.heap.size 1 A xs.length (ints xs)) :
    Calls Try.prog 51 #[.slice A xs.length c] w fun e w' => e = .returned (.int .i64 (lastOr xs)) ∧ w = w' := by
  rcases List.eq_nil_or_concat xs with rfl | ⟨ys, y, he⟩
  · go_enter Try.func51, Try.ntmps51
    go_wp2
    go_ret
    exact ⟨rfl, rfl⟩
  · rw [List.concat_eq_append] at he
    subst he
    have hy : (ys ++ [y])[ys.length]? = some y := by simp
    have hl : (ys ++ [y]).length = ys.length + 1 := by simp
    have hlast : lastOr (ys ++ [y]) = y := by simp [lastOr]
    obtain ⟨b, off, rfl, hb, hcell⟩ := h.at_ (ints_at hy)
    rw [hlast]
    rw [hl] at hn ⊢
    have h0 : (((ys.length + 1 : Nat) : Int) == 0) = false := by simp; omega
    have hi : ((ys.length : Int) + 1 - 1) = (ys.length : Int) := by omega
    clear h hy hl hlast
    go_enter Try.func51, Try.ntmps51
    go_wp2
    go_ret
    exact ⟨rfl, rfl⟩

set_option maxHeartbeats 400000 in
/-- functions: three boxes, and the closure over them. -/
theorem functions_any (n : Int) (A : Option Addr) (k c : Nat) (lf : Nat) (w : World) :
    Calls Try.prog 69 #[.int .i64 n, .slice A k c, .func (.func lf) #[] #[]] w fun e w' =>
      e = .returned (.func (.func 93) #[] #[.pointer (some ⟨w.heap.size + 1, 0, none⟩), .pointer (some ⟨w.heap.size, 0, none⟩), .pointer (some ⟨w.heap.size + 1 + 1, 0, none⟩)]) ∧
      ((w.alloc (.cells #[.int .i64 n] 3)).alloc (.cells #[.slice A k c] 22)).alloc (.cells #[.func (.func lf) #[] #[]] 43) = w' := by
  have hmf : ∀ (fn : Fn) (first cap : Array Value) (w : World), (Instr.makeFunc fn first cap).run Try.prog w = .ok (.func fn first cap) w := fun _ _ _ _ => rfl
  go_enter Try.func69, Try.ntmps69
  go_wp2
  go_ret
  exact ⟨rfl, rfl⟩

/-! What comes. -/
def fillL (least : List Int → Int) : Nat → List Int → List Int
  | 0, r => r
  | k + 1, r => fillL least k (r ++ [least r])
theorem fillL_length (least : List Int → Int) (k : Nat) (r : List Int) : (fillL least k r).length = r.length + k := by
  induction k generalizing r with
  | zero => rfl
  | succ k ih => rw [fillL, ih]; simp; omega
def okP (n : Nat) (least : List Int → Int) (next : List Int) : Bool := decide ((parkedS (fillL least (n - next.length) next)).length = (fillL least (n - next.length) next).length)
def pfl (n : Nat) (least : List Int → Int) : Nat → List Int → List (List Int)
  | 0, b => [b]
  | f + 1, b => ((List.range' (least b).toNat (n - (least b).toNat)).takeWhile fun x => okP n least (b ++ [Int.ofNat x])).flatMap fun x => pfl n least f (b ++ [Int.ofNat x])
def remL (n : Nat) (least : List Int → Int) (f : Nat) (b : List Int) (s : Nat) : List (List Int) :=
  ((List.range' s (n - s)).takeWhile fun x => okP n least (b ++ [Int.ofNat x])).flatMap fun x => pfl n least f (b ++ [Int.ofNat x])
theorem pfl_succ (n : Nat) (least : List Int → Int) (f : Nat) (b : List Int) : pfl n least (f + 1) b = remL n least f b (least b).toNat := by rw [pfl, remL]
theorem remL_end {n : Nat} {least : List Int → Int} {f : Nat} {b : List Int} {s : Nat} (h : n ≤ s) : remL n least f b s = [] := by
  unfold remL; rw [show n - s = 0 from by omega]; simp
theorem remL_stop {n : Nat} {least : List Int → Int} {f : Nat} {b : List Int} {s : Nat} (h : s < n) (hok : okP n least (b ++ [(s : Int)]) = false) : remL n least f b s = [] := by
  unfold remL
  rw [show n - s = (n - (s + 1)) + 1 from by omega, List.range'_succ, List.takeWhile_cons]
  have : okP n least (b ++ [Int.ofNat s]) = false := hok
  rw [this]
  rfl
theorem remL_step {n : Nat} {least : List Int → Int} {f : Nat} {b : List Int} {s : Nat} (h : s < n) (hok : okP n least (b ++ [(s : Int)]) = true) :
    remL n least f b s = pfl n least f (b ++ [(s : Int)]) ++ remL n least f b (s + 1) := by
  unfold remL
  rw [show n - s = (n - (s + 1)) + 1 from by omega, List.range'_succ, List.takeWhile_cons]
  have : okP n least (b ++ [Int.ofNat s]) = true := hok
  rw [this]
  rfl

/-- The argument of a round is a slice of its own. -/
def ArgI (xs : List Int) (args : Array Value) (O : Nat → Prop) (W : World) : Prop := ∃ A c, args = #[.slice A xs.length c] ∧ OwnI W 0 A c xs ∧ ∀ k, blockOf A k → O k

/-- What the function 'least' answers. -/
def LeastOK (lf : Nat) (least : List Int → Int) : Prop :=
  (∀ args w, (callFunc lf args).run Try.prog w = .ok (.enter lf args) w) ∧ (∀ b, (∀ x ∈ b, 0 ≤ x) → 0 ≤ least b) ∧
  ∀ A c b w, b.length ≤ 12 → Reads w w.heap.size 1 A b.length (ints b) → Calls Try.prog lf #[.slice A b.length c] w fun e w' => e = .returned (.int .i64 (least b)) ∧ w = w'

set_option maxHeartbeats 1000000 in
/-- The iterator, where no car is to come any more. -/
theorem functions_iter0 (lf : Nat) (least : List Int → Int) (n : Nat) (hn : n ≤ 12) (begun : List Int) (hb : begun.length = n) (bb bn bl : Nat) (A : Option Addr) (c : Nat) (W0 : World)
    (h1 : Blk W0 bb 22 #[.slice A begun.length c]) (h2 : Blk W0 bn 3 #[.int .i64 n]) (_h3 : Blk W0 bl 43 #[.func (.func lf) #[] #[]]) (h4 : Reads W0 W0.heap.size 1 A begun.length (ints begun)) :
    Iter Try.prog 93 #[.pointer (some ⟨bb, 0, none⟩), .pointer (some ⟨bn, 0, none⟩), .pointer (some ⟨bl, 0, none⟩)] ArgI (fun k => k = bb ∨ k = bn ∨ k = bl ∨ blockOf A k) (fun _ => False) (pfl n least 0 begun) W0 := by
  subst hb
  intro l J Jx C W hL hC hJ hJx hY h0
  have k1 : Blk W bb 22 #[.slice A begun.length c] := (hL.block bb h1.lt (.inl rfl)).trans h1
  have k2 : Blk W bn 3 #[.int .i64 begun.length] := (hL.block bn h2.lt (.inr (.inl rfl))).trans h2
  have k4 : Reads W W.heap.size 1 A begun.length (ints begun) := ⟨h4.1, fun hn => by
    obtain ⟨b, off, rfl, hb, hc⟩ := h4.2 hn
    exact ⟨b, off, rfl, by have := hL.size; omega, fun j u hu => (World.cell?_of_block (w := W0) (hL.block b hb (.inr (.inr (.inr ⟨_, rfl, rfl⟩))))).trans (hc j u hu)⟩⟩
  have c1 := (k1.alloc (.cells #[.func (.yield l) #[] #[]] 34)).cell 0
  have c2 := (k2.alloc (.cells #[.func (.yield l) #[] #[]] 34)).cell 0
  refine (callsIn_wide (n := 3)).1 ?_
  refine callsIn_of_wp_marks Try.func93 rfl trivial ?_
  simp only [Try.ntmps93, List.size_toArray, List.length_cons, List.length_nil, Nat.reduceAdd, Nat.reduceSub, Array.replicate_succ, Array.replicate_zero, List.push_toArray, List.append_toArray, List.nil_append, List.cons_append]
  have hr : ∀ nq, Reads ((W.alloc (.cells #[.func (.yield l) #[] #[]] 34)).drewN nq) ((W.alloc (.cells #[.func (.yield l) #[] #[]] 34)).drewN nq).heap.size 1 A begun.length (ints begun) := fun nq => (k4.alloc (Nat.le_refl _) _).more (by simp)
  gi_wp2_with fail
  gi_region_with (first
    | (refine ⟨trivial, ?_⟩; gi_at_call 43; refine (inW (clone_any A c begun (by omega) _ (by exact hr 1))).mono ?_; rintro e w1 ⟨A', c', rfl, hown, hbel⟩
       have ho1 : Only (fun _ => False) W w1 := ((Only.refl _ W).alloc _).drew.trans (Only.of_new hbel)
       have cy : w1.cell? ⟨W.heap.size, 0, none⟩ = some (.func (.yield l) #[] #[]) := (hbel.cell (p := ⟨W.heap.size, 0, none⟩) (by simp)).trans ((Blk.new W 34 #[.func (.yield l) #[] #[]]).cell 0)
       obtain ⟨fn, tmps, assign, body, hy, hR⟩ := hY [] begun C w1 #[.slice A' begun.length c'] (blockOf A') (by simp [pfl]) (hJ _ _ _ _ h0 (Stays.of_only ho1 (fun _ _ h => h.elim))) ho1.size (fun k hk => Nat.lt_of_lt_of_le (hC k hk).1 ho1.size) (fun k hk => by have := hown.lt k (blockOf_own.2 hk); simp at this; exact ⟨fun h => by have := (hC k h).1; omega, this.2, by omega⟩) ⟨A', c', rfl, hown.mono (Nat.zero_le _), fun _ h => h⟩)
    | (refine (roundIn_wide hR).mono ?_; rintro e w2 ⟨C2, b2, ho2, hg2, rfl, hj2, hx2⟩))
  all_goals gi_wp2
  all_goals refine end_none (results_none rfl _ _ _) ⟨⟨_, rfl⟩, C2, ?_⟩
  all_goals
    cases b2
    · exact .inr ⟨[begun], by simp [pfl], hx2 rfl⟩
    · exact .inl (by simpa [pfl] using hj2 rfl)

end Go.Proofs.Ytjeggocindcgaaa
