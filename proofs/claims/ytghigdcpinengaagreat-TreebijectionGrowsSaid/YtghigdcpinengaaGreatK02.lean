/-
  Texts of this claim, put together: Funcs, Iter, Rows2.
-/
import Derived.Test.YtghigdcpinengaaGreatK01
import Derived.WalkKit
import Derived.RangeFuncNested
import Derived.RangeFuncBound
import Derived.RangeFuncCalls
import Derived.RangeFuncLeaves
import Derived.Shelf.Abstract
import Derived.OwnWalkIn
import Derived.TacticsInMore
import Derived.LoopNIn
import Derived.LoopIn
/-! slices.IndexFunc and ContainsFunc on ints, with a function that has captured one variable. -/
namespace Go.Proofs.YtghigdcpinengaaGreat
open Go.RowKit

set_option maxHeartbeats 1000000 in
theorem indexf_any (F : Nat) (y : Value) (eg : ∀ args w, (callFunc F args).run Tryz.prog w = .ok (.enter F args) w) (p : Int → Bool) (A : Option Addr) (c : Nat) (xs : List Int) (hn : xs.length ≤ 1048576) (w : World) (h : Reads w w.heap.size 1 A xs.length (ints xs))
    (hp : ∀ x ∈ xs, ∀ m, Calls Tryz.prog F #[.int .i64 x, y] (w.drewN m) fun e w' => e = .returned (.bool (p x)) ∧ ∃ m', w' = w.drewN m') :
    Calls Tryz.prog 64 #[.slice A xs.length c, .func (.func F) #[] #[y]] w fun e w' => ∃ r : Int, e = .returned (.int .i64 r) ∧ Hid (0 ≤ r ↔ ∃ x ∈ xs, p x = true) ∧ ∃ m, w' = w.drewN m := by
  have HP := Lib.hid hp
  clear hp
  go_enter Tryz.func64, Tryz.ntmps64
  go_wp2
  go_loopw [8] (fun i wr => ∃ k : Nat, k ≤ xs.length ∧ i = .int .i64 k ∧ Hid (∀ x ∈ xs.take k, p x = false) ∧ Hid (∃ m, wr = w.drewN m)) (fun i _ => xs.length - (intOf i).toNat)
  case atStart => exact ⟨0, by omega, rfl, by simp [Hid], ⟨0, rfl⟩⟩
  case round =>
    obtain ⟨k, hk, rfl, HS, HM⟩ := hrel
    by_cases hlt : k < xs.length
    · obtain ⟨x, hx⟩ := get_of_lt hlt
      obtain ⟨m, rfl⟩ := HM.out
      obtain ⟨b, off, rfl, hb, hcell0⟩ := h.at_ (ints_at hx)
      have hcell : (w.drewN m).cell? ⟨b, off + k, none⟩ = some (.int .i64 x) := hcell0
      have hi : (k : Int) < (xs.length : Int) := by omega
      have htk := take_snoc hx
      have PC := HP.out x (List.mem_of_getElem? hx) m
      have HX := Lib.hid hx
      cases hpx : p x
      · rw [hpx] at PC
        have PC := Lib.hid PC
        have HN : Hid (∀ x ∈ xs.take (k + 1), p x = false) := by
          rw [htk]
          intro z hz
          rcases List.mem_append.1 hz with hz | hz
          · exact HS.out z hz
          · rw [List.mem_singleton.1 hz]; exact hpx
        clear hx htk hpx hcell0 h
        go_wp2_with fail
        refine (PC.out).mono ?_
        rintro e w2 ⟨rfl, m2, rfl⟩
        go_wp2
        go_roundw
        case rel => exact ⟨k + 1, by omega, by go_num, HN, ⟨m2, rfl⟩⟩
        case measure => simp [intOf]; omega
      · rw [hpx] at PC
        have PC := Lib.hid PC
        have HT : Hid (∃ x ∈ xs, p x = true) := ⟨x, List.mem_of_getElem? hx, hpx⟩
        clear hx htk hpx hcell0 h
        go_wp2_with fail
        refine (PC.out).mono ?_
        rintro e w2 ⟨rfl, m2, rfl⟩
        go_wp2
        go_ret
        exact ⟨k, rfl, ⟨fun _ => HT.out, fun _ => by omega⟩, m2, rfl⟩
    · obtain rfl : k = xs.length := by omega
      rw [List.take_length] at HS
      go_wp2
      go_ret
      refine ⟨-1, rfl, ⟨fun h => absurd h (by decide), ?_⟩, HM.out⟩
      rintro ⟨x, hx, hp⟩
      rw [HS.out x hx] at hp; cases hp
set_option maxHeartbeats 1000000 in
theorem containsf_any (F : Nat) (y : Value) (eg : ∀ args w, (callFunc F args).run Tryz.prog w = .ok (.enter F args) w) (p : Int → Bool) (A : Option Addr) (c : Nat) (xs : List Int) (hn : xs.length ≤ 1048576) (w : World) (h : Reads w w.heap.size 1 A xs.length (ints xs))
    (hp : ∀ x ∈ xs, ∀ m, Calls Tryz.prog F #[.int .i64 x, y] (w.drewN m) fun e w' => e = .returned (.bool (p x)) ∧ ∃ m', w' = w.drewN m') :
    Calls Tryz.prog 31 #[.slice A xs.length c, .func (.func F) #[] #[y]] w fun e w' => e = .returned (.bool (xs.any p)) ∧ ∃ m, w' = w.drewN m := by
  have IC := Lib.hid (indexf_any F y eg p A c xs hn w h hp)
  have HA : Hid (∀ r : Int, (0 ≤ r ↔ ∃ x ∈ xs, p x = true) → decide (0 ≤ r) = xs.any p) := by
    intro r hr
    rw [Bool.eq_iff_iff, List.any_eq_true, decide_eq_true_eq]; exact hr
  clear hp h
  go_enter Tryz.func31, Tryz.ntmps31
  go_wp2_with fail
  refine (IC.out).mono ?_
  rintro e w1 ⟨r, rfl, HR, HM⟩
  go_wp2
  go_ret
  exact ⟨ret_bool (HA.out r HR.out), HM⟩
end Go.Proofs.YtghigdcpinengaaGreat

/-! A range over a function, by a contract of the iterator that names whose block is whose: the caller's blocks (a set that grows), those that the iterator leans on, those that it may turn, and those of an argument, which it hands over. -/
namespace Go.Proofs.YtghigdcpinengaaGreat
open Go.RowKit Go.Shelf

/-- From w to w' only blocks of C, and new ones, may have turned. -/
structure Only (C : Nat → Prop) (w w' : World) : Prop where
  os : w'.os = w.os
  tape : w'.tape = w.tape
  output : w'.output = w.output
  size : w.heap.size ≤ w'.heap.size
  block : ∀ k, k < w.heap.size → ¬ C k → w'.heap[k]? = w.heap[k]?
/-- The steps of an iterator that began with B blocks: what it may not turn, and what is the caller's, stays. -/
structure Stays (B : Nat) (M C : Nat → Prop) (w w' : World) : Prop where
  os : w'.os = w.os
  tape : w'.tape = w.tape
  output : w'.output = w.output
  size : w.heap.size ≤ w'.heap.size
  block : ∀ k, k < w.heap.size → (C k ∨ (k < B ∧ ¬ M k)) → w'.heap[k]? = w.heap[k]?
/-- The caller's blocks grow by new ones and by those of the argument alone. -/
def Grows (C O C' : Nat → Prop) (w w' : World) : Prop := ∀ k, C' k → C k ∨ O k ∨ (w.heap.size ≤ k ∧ k < w'.heap.size)

section
variable {C D M : Nat → Prop} {a w w' : World} {B : Nat}
theorem Only.refl (C : Nat → Prop) (w : World) : Only C w w := ⟨rfl, rfl, rfl, Nat.le_refl _, fun _ _ _ => rfl⟩
theorem Only.trans {b c : World} (h : Only C a b) (k : Only C b c) : Only C a c :=
  ⟨k.os.trans h.os, k.tape.trans h.tape, k.output.trans h.output, Nat.le_trans h.size k.size, fun i hi hn => (k.block i (Nat.lt_of_lt_of_le hi h.size) hn).trans (h.block i hi hn)⟩
theorem Only.mono (h : Only C w w') (hc : ∀ k, k < w.heap.size → C k → D k) : Only D w w' := ⟨h.os, h.tape, h.output, h.size, fun k hk hn => h.block k hk fun hck => hn (hc k hk hck)⟩
theorem Only.of_below (h : Below B w w') (hB : ∀ k, B ≤ k → k < w.heap.size → C k) : Only C w w' := ⟨h.os, h.tape, h.output, h.size, fun k hk hn => h.block k (Nat.lt_of_not_le fun hle => hn (hB k hle hk))⟩
theorem Only.of_new (h : Below w.heap.size w w') : Only C w w' := Only.of_below h fun k h1 h2 => absurd h2 (by omega)
theorem Only.below (h : Only C w w') (hB : ∀ k, k < B → ¬ C k) (hs : B ≤ w.heap.size) : Below B w w' := ⟨h.os, h.tape, h.output, h.size, fun k hk => h.block k (by omega) (hB k hk)⟩
theorem Only.drew (h : Only C a w) : Only C a w.drew := ⟨h.os, h.tape, h.output, h.size, h.block⟩
theorem Only.drewN (h : Only C a w) (n : Nat) : Only C a (w.drewN n) := ⟨h.os, h.tape, h.output, h.size, h.block⟩
theorem Only.alloc (h : Only C a w) (o : Obj) : Only C a (w.alloc o) :=
  ⟨h.os, h.tape, h.output, Nat.le_trans h.size (by simp), fun k hk hn => (Below.heap_alloc w o k (Nat.lt_of_lt_of_le hk h.size)).trans (h.block k hk hn)⟩
theorem Only.setCell (h : Only C a w) {p : Addr} (hp : C p.block ∨ a.heap.size ≤ p.block) (u : Value) : Only C a (w.setCell p u) :=
  ⟨h.os, h.tape, h.output, by simpa [World.setCell] using h.size, fun k hk hn => (Below.heap_setCell w p u k (by
    rintro rfl
    rcases hp with hp | hp
    · exact hn hp
    · omega)).trans (h.block k hk hn)⟩
theorem Only.grown {row : Option Nat} (h : Only C a w) (hg : w.grownBy w' row) (hr : ∀ k, row = some k → C k ∨ a.heap.size ≤ k) : Only C a w' :=
  ⟨hg.os.trans h.os, hg.tape.trans h.tape, hg.output.trans h.output, Nat.le_trans h.size hg.size, fun k hk hn => (hg.block k (Nat.lt_of_lt_of_le hk h.size) (fun e => by
    rcases hr k e.symm with hc | hc
    · exact hn hc
    · omega)).trans (h.block k hk hn)⟩
theorem Only.putObj (h : Only C a w) {r : Nat} (hr : C r ∨ a.heap.size ≤ r) (o : Obj) : Only C a (w.putObj r o) :=
  ⟨h.os, h.tape, h.output, by simpa using h.size, fun k hk hn => (World.putObj_heap_other (by
    rintro rfl
    rcases hr with hp | hp
    · exact hn hp
    · omega)).trans (h.block k hk hn)⟩
theorem Only.put_one (w : World) (l : Nat) (o : Obj) : Only (fun k => k = l) w (w.putObj l o) := (Only.refl (fun k => k = l) w).putObj (.inl rfl) o
theorem Blk.only {g : Nat} {t : TypeId} {cs : Array Value} (h : Blk w g t cs) (ho : Only C w w') (hg : ¬ C g) : Blk w' g t cs := (ho.block g h.lt hg).trans h
theorem Blk.stays {g : Nat} {t : TypeId} {cs : Array Value} (h : Blk w g t cs) (ho : Stays B M C w w') (hg : C g ∨ (g < B ∧ ¬ M g)) : Blk w' g t cs := (ho.block g h.lt hg).trans h

theorem Stays.of_only {C' : Nat → Prop} (h : Only D w w') (hd : ∀ k, k < w.heap.size → D k → ¬ C' k ∧ (B ≤ k ∨ M k)) : Stays B M C' w w' :=
  ⟨h.os, h.tape, h.output, h.size, fun k hk hc => h.block k hk fun hdk => by
    obtain ⟨h1, h2⟩ := hd k hk hdk
    rcases hc with hc | ⟨hc, hm⟩
    · exact h1 hc
    · rcases h2 with h2 | h2
      · omega
      · exact hm h2⟩
theorem Stays.of_new (h : Below w.heap.size w w') : Stays B M C w w' := ⟨h.os, h.tape, h.output, h.size, fun k hk _ => h.block k hk⟩
theorem Stays.mono {B' : Nat} {M' C' : Nat → Prop} (h : Stays B M C w w') (hc : ∀ k, k < w.heap.size → (C' k ∨ (k < B' ∧ ¬ M' k)) → (C k ∨ (k < B ∧ ¬ M k))) : Stays B' M' C' w w' :=
  ⟨h.os, h.tape, h.output, h.size, fun k hk hn => h.block k hk (hc k hk hn)⟩
theorem Stays.below {B' : Nat} (h : Stays B M C w w') (hB : ∀ k, k < B' → C k ∨ (k < B ∧ ¬ M k)) (hs : B' ≤ w.heap.size) : Below B' w w' := ⟨h.os, h.tape, h.output, h.size, fun k hk => h.block k (by omega) (hB k hk)⟩
theorem Stays.reads {B' size n : Nat} {A : Option Addr} {xs : List Value} (h : Stays B M C w w') (hr : Reads w B' size A n xs) (hB : ∀ k, k < B' → C k ∨ (k < B ∧ ¬ M k)) (hs : B' ≤ w.heap.size) : Reads w' B' size A n xs := hr.below (h.below hB hs)
end

/-- The later world: of what the iterator leans on nothing has turned. -/
structure Later (K : Nat → Prop) (w w' : World) : Prop where
  os : w'.os = w.os
  tape : w'.tape = w.tape
  output : w'.output = w.output
  size : w.heap.size ≤ w'.heap.size
  block : ∀ k, k < w.heap.size → K k → w'.heap[k]? = w.heap[k]?
theorem Later.refl (K : Nat → Prop) (w : World) : Later K w w := ⟨rfl, rfl, rfl, Nat.le_refl _, fun _ _ _ => rfl⟩
theorem Later.of_only {K C : Nat → Prop} {w w' : World} (h : Only C w w') (hc : ∀ k, K k → ¬ C k) : Later K w w' := ⟨h.os, h.tape, h.output, h.size, fun k hk hkk => h.block k hk (hc k hkk)⟩

/-- What the caller's two invariants must bear: the iterator's own steps. -/
def Bears {α : Type} (B : Nat) (M : Nat → Prop) (J : List α → (Nat → Prop) → World → Prop) : Prop := ∀ pre C a b, J pre C a → Stays B M C a b → J pre C b

/-- A ROUND of the loop with the record l. -/
def Round {α : Type} (P : Program) (l : Nat) (J Jx : List α → (Nat → Prop) → World → Prop) (pre : List α) (x : α) (C O : Nat → Prop) (W : World) (args : Array Value) : Prop :=
  YieldAt Fence.wide 0 P l args W fun e W' => ∃ C' b, Only (fun k => C k ∨ O k) W W' ∧ Grows C O C' W W' ∧ e = .returned (.bool b) ∧ (b = true → J (pre ++ [x]) C' W') ∧ (b = false → Jx (pre ++ [x]) C' W')

/-- AN ITERATOR: function g with what it has captured; Arg x args O W: args read as x, in blocks of O that are handed over; K: what it leans on; M: what it may turn; xs: what comes. -/
def Iter {α : Type} (P : Program) (g : Nat) (lb : Array Value) (Arg : α → Array Value → (Nat → Prop) → World → Prop) (K M : Nat → Prop) (xs : List α) (W0 : World) : Prop :=
  ∀ (l : Nat) (J Jx : List α → (Nat → Prop) → World → Prop) (C : Nat → Prop) (W : World), Later K W0 W → (∀ k, C k → k < W.heap.size ∧ ¬ K k) → Bears W.heap.size M J → Bears W.heap.size M Jx →
    (∀ pre x C W1 args O, pre ++ [x] <+: xs → J pre C W1 → W.heap.size ≤ W1.heap.size → (∀ k, C k → k < W1.heap.size) → (∀ k, O k → ¬ C k ∧ k < W1.heap.size ∧ W.heap.size ≤ k) → Arg x args O W1 → Round P l J Jx pre x C O W1 args) →
    J [] C W →
    Calls P g (#[.func (.yield l) #[] #[]] ++ lb) W fun e W' => (∃ v, e = .returned v) ∧ ∃ C', (J xs C' W' ∨ ∃ pre, pre <+: xs ∧ Jx pre C' W')

theorem yieldAt_wide {P : Program} {n m l : Nat} {args : Array Value} {W : World} {R : Ending → World → Prop} (h : YieldAt Fence.wide n P l args W R) : YieldAt Fence.wide m P l args W R := by
  obtain ⟨fn, tmps, assign, body, hy, h1, h2⟩ := h
  exact ⟨fn, tmps, assign, body, hy, h1, fun c cs _ => h2 c cs (room_wide _)⟩

theorem roundIn_wide {P : Program} {n m l : Nat} {fn : FuncId} {tmps : Array Value} {assign body : Code} {w : World} {R : Ending → World → Prop} (h : RoundIn Fence.wide n P l fn tmps assign body w R) : RoundIn Fence.wide m P l fn tmps assign body w R :=
  ⟨h.1, fun c cs _ => h.2 c cs (room_wide _)⟩
/-- How the body of a round may be left. -/
def RoundEnd {α : Type} (I : List α → (Nat → Prop) → World → Prop) (Ix : Code → List α → (Nat → Prop) → World → Prop) (xs : List α) (C O : Nat → Prop) (W : World) : Exit → Act → World → Prop
  | .normal, _, W' => ∃ C', Only (fun k => C k ∨ O k) W W' ∧ Grows C O C' W W' ∧ I xs C' W'
  | .ret, _, W' => ∃ C', Only (fun k => C k ∨ O k) W W' ∧ Grows C O C' W W' ∧ Ix .ret xs C' W'
  | .exit id, _, W' => ∃ C', Only (fun k => C k ∨ O k) W W' ∧ Grows C O C' W W' ∧ Ix (.exit id) xs C' W'
  | .goto t, _, W' => ∃ C', Only (fun k => C k ∨ O k) W W' ∧ Grows C O C' W W' ∧ Ix (.goto t) xs C' W'
  | .panic _, _, _ => False
  | .outgrown, _, _ => False

/-- A loop's record as the law lays it. -/
def recOf (fn : FuncId) (tmps : Array Value) (ps : Array Tmp) (assign body : Code) (D : Nat) (st : LoopState) (pe : Option Code) : Loop := { state := st, pending := pe, fn, tmps, params := ps, assign, body, defers := D }

theorem putObj_alloc (w : World) (o o' : Obj) : (w.alloc o).putObj w.heap.size o' = w.alloc o' := by
  have e : (w.heap.push o).setIfInBounds w.heap.size o' = w.heap.push o' := by
    apply Array.ext_getElem?
    intro k
    by_cases h : k = w.heap.size
    · subst h; simp
    · rw [Array.getElem?_setIfInBounds_ne (Ne.symm h), Array.getElem?_push, Array.getElem?_push, if_neg h, if_neg h]
  show ({ w with heap := (w.heap.push o).setIfInBounds w.heap.size o' } : World) = { w with heap := w.heap.push o' }
  rw [e]
theorem inW {n : Nat} {P : Program} {f : FuncId} {args : Array Value} {w : World} {R : Ending → World → Prop} (h : Calls P f args w R) : CallsIn Fence.wide n P f args w R := callsIn_wide.2 h
/-- The end of a function that holds one outermost range over a function: the mark is taken, then the results are read. -/
theorem end_mark {n : Nat} {P : Program} {fn : Func} {R : Ending → World → Prop} {tmps : Array Value} {D : Nat} {w : World} {v : Value} (hD : w.heap[D]? = some (.deferred (some [])))
    (hv : (results fn tmps).run P (w.putObj D (.deferred none)) = .ok v (w.putObj D (.deferred none))) (hR : R (.returned v) (w.putObj D (.deferred none))) :
    bodyPostM Fence.wide n P fn R .ret { tmps := tmps, defers := [{ target := .collected D, args := #[] }] } w :=
  ⟨by simp, .inl ⟨_, _, rfl, run_takeDeferred hD, v, hv, hR⟩⟩
end Go.Proofs.YtghigdcpinengaaGreat

/-! Slices of slices of ints: of the call's own, and read. -/
namespace Go.Proofs.YtghigdcpinengaaGreat
open Go.RowKit

theorem info_row : (Tryz.prog.info? 25).map (fun i => (i.zero, i.size, i.bytes)) = some (some (.slice none 0 0), 1, 24) := by kernel_rfl

/-- The block of a slice value. -/
def blockOf (A : Option Addr) (k : Nat) : Prop := ∃ a, A = some a ∧ a.block = k
theorem blockOf_own {A : Option Addr} {n c k : Nat} : (Value.slice A n c).ownBlock = some k ↔ blockOf A k := by
  rcases A with _ | a <;> simp [Value.ownBlock, blockOf]

section
variable {w w' : World} {base : Nat} {e : TypeId} {A : Option Addr} {n c : Nat} {xs : List Value}
/-- What a step leaves of a row of the call's own: all that it asks is that its block stays. -/
theorem own_kept (h : w.ownsRow base e 1 (.slice A n c) n xs) (hk : ∀ k, blockOf A k → w'.heap[k]? = w.heap[k]?) : w'.ownsRow base e 1 (.slice A n c) n xs := by
  obtain ⟨h1, h2⟩ := h
  refine ⟨h1, ?_⟩
  rcases h2 with h2 | ⟨g, cap, cur, hv, hg, hh, r⟩
  · exact .inl h2
  · have hgb : (Value.slice A n c).ownBlock = some g := by rw [hv]; rfl
    exact .inr ⟨g, cap, cur, hv, hg, (hk g (blockOf_own.1 hgb)).trans hh, r⟩
theorem own_lt (h : w.ownsRow base e 1 (.slice A n c) n xs) {k : Nat} (hk : blockOf A k) : base ≤ k ∧ k < w.heap.size := World.ownsRow.lt h k (blockOf_own.2 hk)
theorem own_rebase {base' : Nat} (h : w.ownsRow base e 1 (.slice A n c) n xs) (hb : ∀ k, blockOf A k → base' ≤ k) : w.ownsRow base' e 1 (.slice A n c) n xs := by
  obtain ⟨h1, h2⟩ := h
  refine ⟨h1, ?_⟩
  rcases h2 with h2 | ⟨g, cap, cur, hv, hg, r⟩
  · exact .inl h2
  · have hgb : (Value.slice A n c).ownBlock = some g := by rw [hv]; rfl
    exact .inr ⟨g, cap, cur, hv, hb g (blockOf_own.1 hgb), r⟩
theorem own_type (h : w.ownsRow base e 1 (.slice A n c) n xs) {k : Nat} (hk : blockOf A k) : ∃ cs, Blk w k e cs := by
  rcases h.2 with ⟨hv, _⟩ | ⟨g, cap, cur, hv, _, hh, _⟩
  · obtain ⟨a, ha, _⟩ := hk; injection hv with hv; rw [ha] at hv; cases hv
  · have hgb : (Value.slice A n c).ownBlock = some g := by rw [hv]; rfl
    obtain ⟨a, ha, rfl⟩ := blockOf_own.1 hgb
    obtain ⟨a', ha', rfl⟩ := hk
    rw [ha] at ha'; cases ha'
    exact ⟨cur, hh⟩
theorem own_ne {base' : Nat} {e' : TypeId} {A' : Option Addr} {n' c' : Nat} {xs' : List Value} (h : w.ownsRow base e 1 (.slice A n c) n xs) (h' : w.ownsRow base' e' 1 (.slice A' n' c') n' xs') (hne : e ≠ e') {k k' : Nat} (hk : blockOf A k) (hk' : blockOf A' k') : k ≠ k' := by
  obtain ⟨cs, h1⟩ := own_type h hk
  obtain ⟨cs', h2⟩ := own_type h' hk'
  exact Blk.ne_ h1 h2 hne
theorem own_blk (h : w.ownsRow base e 1 (.slice A n c) n xs) {g : Nat} {t : TypeId} {cs : Array Value} (hg : Blk w g t cs) (hne : e ≠ t) {k : Nat} (hk : blockOf A k) : k ≠ g := by
  obtain ⟨cs', h1⟩ := own_type h hk
  exact Blk.ne_ h1 hg hne
end

/-- The slice value is the call's own, and so is each of its rows; they read as the lists. -/
def OwnRows (w : World) (base : Nat) (A : Option Addr) (c : Nat) (vs : List Value) (xss : List (List Int)) : Prop :=
  w.ownsRow base 25 1 (.slice A xss.length c) xss.length vs ∧ (∀ u ∈ vs, u.oneCell' = true) ∧
  ∀ (i : Nat) (xs : List Int), xss[i]? = some xs → ∃ A' c', vs[i]? = some (.slice A' xs.length c') ∧ OwnI w base A' c' xs
/-- The blocks of a slice of slices. -/
def rowBlock (A : Option Addr) (vs : List Value) (k : Nat) : Prop := blockOf A k ∨ ∃ v ∈ vs, v.ownBlock = some k

section
variable {w w' : World} {base : Nat} {A : Option Addr} {c : Nat} {vs : List Value} {xss : List (List Int)}
theorem OwnRows.nil_ (w : World) (base : Nat) : OwnRows w base none 0 [] [] := ⟨World.ownsRow_nil _ _ _ _, by simp, by simp⟩
theorem OwnRows.len (h : OwnRows w base A c vs xss) : vs.length = xss.length := by have := h.1.1; omega
theorem OwnRows.kept (h : OwnRows w base A c vs xss) (hk : ∀ k, rowBlock A vs k → w'.heap[k]? = w.heap[k]?) : OwnRows w' base A c vs xss := by
  refine ⟨own_kept h.1 fun k hb => hk k (.inl hb), h.2.1, fun i xs hi => ?_⟩
  obtain ⟨A', c', hv, ho⟩ := h.2.2 i xs hi
  exact ⟨A', c', hv, own_kept ho fun k hb => hk k (.inr ⟨_, List.mem_of_getElem? hv, blockOf_own.2 hb⟩)⟩
theorem OwnRows.lt (h : OwnRows w base A c vs xss) {k : Nat} (hk : rowBlock A vs k) : base ≤ k ∧ k < w.heap.size := by
  rcases hk with hk | ⟨v, hv, hk⟩
  · exact own_lt h.1 hk
  · obtain ⟨i, hi⟩ := List.getElem?_of_mem hv
    have hil : i < xss.length := by
      have := (List.getElem?_eq_some_iff.1 hi).1
      rw [h.len] at this; exact this
    obtain ⟨xs, hxs⟩ := get_of_lt hil
    obtain ⟨A', c', hv', ho⟩ := h.2.2 i xs hxs
    rw [hi] at hv'
    injection hv' with hv'
    subst hv'
    exact own_lt ho (blockOf_own.1 hk)
theorem OwnRows.next (h : OwnRows w base A c vs xss) (hb : Below w.heap.size w w') : OwnRows w' base A c vs xss := h.kept fun k hk => hb.block k (h.lt hk).2
theorem OwnRows.mono {base' : Nat} (h : OwnRows w base A c vs xss) (hb : base' ≤ base) : OwnRows w base' A c vs xss := by
  refine ⟨own_rebase h.1 fun k hk => Nat.le_trans hb (own_lt h.1 hk).1, h.2.1, fun i xs hi => ?_⟩
  obtain ⟨A', c', hv, ho⟩ := h.2.2 i xs hi
  exact ⟨A', c', hv, ho.mono hb⟩
end

theorem OwnRows.ne_blk {w : World} {base : Nat} {A : Option Addr} {c : Nat} {vs : List Value} {xss : List (List Int)} (h : OwnRows w base A c vs xss) {g : Nat} {t : TypeId} {cs : Array Value} (hg : Blk w g t cs) (h1 : 25 ≠ t) (h2 : 3 ≠ t) {k : Nat} (hk : rowBlock A vs k) : k ≠ g := by
  rcases hk with hk | ⟨v, hv, hk⟩
  · exact own_blk h.1 hg h1 hk
  · obtain ⟨i, hi⟩ := List.getElem?_of_mem hv
    have hil : i < xss.length := by
      have := (List.getElem?_eq_some_iff.1 hi).1
      rw [h.len] at this; exact this
    obtain ⟨xs, hxs⟩ := get_of_lt hil
    obtain ⟨A', c', hv', ho⟩ := h.2.2 i xs hxs
    rw [hi] at hv'
    injection hv' with hv'
    subst hv'
    exact own_blk ho hg h2 (blockOf_own.1 hk)
theorem OwnRows.set_blk {w : World} {base : Nat} {A : Option Addr} {c : Nat} {vs : List Value} {xss : List (List Int)} (h : OwnRows w base A c vs xss) {g : Nat} {t : TypeId} {cs : Array Value} (hg : Blk w g t cs) (h1 : 25 ≠ t) (h2 : 3 ≠ t) (o : Nat) (u : Value) : OwnRows (w.setCell ⟨g, o, none⟩ u) base A c vs xss :=
  h.kept fun _ hk => Below.heap_setCell w ⟨g, o, none⟩ u _ (h.ne_blk hg h1 h2 hk)
/-- One row more. -/
theorem OwnRows.push {w w' : World} {base : Nat} {A A' A8 : Option Addr} {c c' c8 : Nat} {vs : List Value} {xss : List (List Int)} {x : List Int} (h : OwnRows w base A c vs xss) (h8 : OwnI w base A8 c8 x)
    (hown : w'.ownsRow base 25 1 (.slice A' (xss.length + 1) c') (xss.length + 1) (vs ++ [.slice A8 x.length c8])) (hg : w.grownBy w' (Value.slice A xss.length c).ownBlock) : OwnRows w' base A' c' (vs ++ [.slice A8 x.length c8]) (xss ++ [x]) := by
  have keep : ∀ {A1 : Option Addr} {c1 : Nat} {y : List Int}, OwnI w base A1 c1 y → OwnI w' base A1 c1 y := fun {A1 c1 y} ho => own_kept ho fun k hk => hg.block k (own_lt ho hk).2 fun e => by
    exact own_ne ho h.1 (by decide) hk (blockOf_own.1 e.symm) rfl
  refine ⟨by rw [List.length_append]; exact hown, ?_, fun i xs hi => ?_⟩
  · intro u hu
    rcases List.mem_append.1 hu with hu | hu
    · exact h.2.1 u hu
    · rw [List.mem_singleton.1 hu]; rfl
  · have hl := h.len
    rcases Nat.lt_trichotomy i xss.length with hlt | rfl | hgt
    · rw [List.getElem?_append_left hlt] at hi
      obtain ⟨A1, c1, hv, ho⟩ := h.2.2 i xs hi
      exact ⟨A1, c1, by rw [List.getElem?_append_left (by omega)]; exact hv, keep ho⟩
    · have : xs = x := by simpa using hi.symm
      subst this
      exact ⟨A8, c8, by rw [← hl]; simp, keep h8⟩
    · rw [List.getElem?_eq_none (by simp; omega)] at hi; cases hi

/-- A slice of slices that reads as the lists. -/
def RowsR (w : World) (B : Nat) (A : Option Addr) (xss : List (List Int)) : Prop :=
  ∃ vs, Reads w B 1 A xss.length vs ∧ ∀ (i : Nat) (xs : List Int), xss[i]? = some xs → ∃ A' c', vs[i]? = some (.slice A' xs.length c') ∧ Reads w B 1 A' xs.length (ints xs)
theorem OwnRows.reads {w : World} {base : Nat} {A : Option Addr} {c : Nat} {vs : List Value} {xss : List (List Int)} (h : OwnRows w base A c vs xss) : RowsR w w.heap.size A xss :=
  ⟨vs, Reads.of_own h.1, fun i xs hi => by
    obtain ⟨A', c', hv, ho⟩ := h.2.2 i xs hi
    exact ⟨A', c', hv, ho.reads⟩⟩
theorem RowsR.below {w w' : World} {B : Nat} {A : Option Addr} {xss : List (List Int)} (h : RowsR w B A xss) (hb : Below B w w') : RowsR w' B A xss := by
  obtain ⟨vs, hr, hi⟩ := h
  refine ⟨vs, hr.below hb, fun i xs hx => ?_⟩
  obtain ⟨A', c', hv, ho⟩ := hi i xs hx
  exact ⟨A', c', hv, ho.below hb⟩
theorem RowsR.more {w : World} {B B' : Nat} {A : Option Addr} {xss : List (List Int)} (h : RowsR w B A xss) (hB : B ≤ B') : RowsR w B' A xss := by
  obtain ⟨vs, hr, hi⟩ := h
  refine ⟨vs, hr.more hB, fun i xs hx => ?_⟩
  obtain ⟨A', c', hv, ho⟩ := hi i xs hx
  exact ⟨A', c', hv, ho.more hB⟩
theorem RowsR.next {w w' : World} {A : Option Addr} {xss : List (List Int)} (h : RowsR w w.heap.size A xss) (hb : Below w.heap.size w w') : RowsR w' w'.heap.size A xss := (h.below hb).more hb.size
theorem RowsR.at_ {w : World} {B : Nat} {A : Option Addr} {xss : List (List Int)} (h : RowsR w B A xss) {k : Nat} {xs : List Int} (hx : xss[k]? = some xs) :
    ∃ b off A' c', A = some ⟨b, off, none⟩ ∧ b < B ∧ w.cell? ⟨b, off + k, none⟩ = some (.slice A' xs.length c') ∧ Reads w B 1 A' xs.length (ints xs) := by
  obtain ⟨vs, hr, hi⟩ := h
  obtain ⟨A', c', hv, ho⟩ := hi k xs hx
  obtain ⟨b, off, hA, hb, hc⟩ := hr.at_ hv
  exact ⟨b, off, A', c', hA, hb, hc, ho⟩
end Go.Proofs.YtghigdcpinengaaGreat

