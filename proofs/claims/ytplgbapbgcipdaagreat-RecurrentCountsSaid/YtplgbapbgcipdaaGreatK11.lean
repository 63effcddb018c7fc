/-
  Texts of this claim, put together: DEqual, Repeat, Order, IterX, Edge, Lit, Park2, OwnSet.
-/
import Derived.Test.YtplgbapbgcipdaaGreatK04
import Derived.Deep.QuietTactic
import Derived.BigQuiet
import Derived.Laws.CopyOwn
import Derived.Deep.RegionHeld3
import Derived.Test.YtplgbapbgcipdaaGreatK03
import Derived.Test.YtplgbapbgcipdaaGreatK06
import Derived.Test.YtplgbapbgcipdaaGreatK07
import Derived.IntWalk
/-! slices.Equal on divisors. -/
namespace Go.Proofs.YtplgbapbgcipdaaGreat
open Go.RowKit

set_option maxHeartbeats 800000 in
theorem dequal_any (A : Option Addr) (c : Nat) (xs : List Int) (B : Option Addr) (d : Nat) (ys : List Int) (hn : xs.length ≤ 1048576) (w : World) (h : Reads w w.heap.size 1 A xs.length (ints xs)) (h' : Reads w w.heap.size 1 B ys.length (ints ys)) :
    Calls Tryz.prog 21 #[.slice A xs.length c, .slice B ys.length d] w fun e w' => e = .returned (.bool (decide (xs = ys))) ∧ Below w.heap.size w w' := by
  by_cases hl : xs.length = ys.length
  · have HL := Lib.hid hl
    have hb : ((xs.length : Int) != (ys.length : Int)) = false := by simp; omega
    clear hl
    go_enter Tryz.func21, Tryz.ntmps21
    go_wp2
    clear hb
    go_loopw [13] (fun i wr => ∃ k : Nat, k ≤ xs.length ∧ i = .int .i64 k ∧ Below w.heap.size w wr ∧ Hid (xs.take k = ys.take k)) (fun i _ => xs.length - (intOf i).toNat)
    case atStart => exact ⟨0, by omega, rfl, Below.refl _ _, by simp [Hid]⟩
    case round =>
      obtain ⟨k, hk, rfl, hbel, HS⟩ := hrel
      by_cases hlt : k < xs.length
      · obtain ⟨x, hx⟩ := get_of_lt hlt
        obtain ⟨y, hy⟩ := get_of_lt (xs := ys) (k := k) (by have := HL.out; omega)
        have HX := Lib.hid hx
        have HY := Lib.hid hy
        obtain ⟨b, off, rfl, hb, hcell⟩ := (h.below hbel).at_ (ints_at hx)
        obtain ⟨b', off', rfl, hb', hcell'⟩ := (h'.below hbel).at_ (ints_at hy)
        have hi : (k : Int) < (xs.length : Int) := by omega
        have hi' : (k : Int) < (ys.length : Int) := by have := HL.out; omega
        clear hx hy h h'
        by_cases hxy : x = y
        · subst hxy
          go_wp2
          go_quiet (fail)
          go_wp2
          go_roundw
          case rel => exact ⟨k + 1, by omega, by go_num, below_drewN hbel _, by rw [Hid, take_snoc HX.out, take_snoc HY.out, HS.out]⟩
          case measure => simp [intOf]; omega
        · have hbx : (x != y) = true := by simpa using hxy
          go_wp2
          go_quiet (fail)
          go_wp2
          go_ret
          refine ⟨ret_bool ?_, below_drewN hbel _⟩
          have : ¬ xs = ys := fun e => hxy (by have h1 := HX.out; rw [e, HY.out] at h1; injection h1 with h1; exact h1.symm)
          simp [this]
      · go_wp2
        go_ret
        refine ⟨ret_bool ?_, hbel⟩
        have e : xs = ys := by have h1 := HS.out; rw [show k = xs.length from by omega, List.take_length, HL.out, List.take_length] at h1; exact h1
        simp [e]
  · have hb : ((xs.length : Int) != (ys.length : Int)) = true := by simp; omega
    go_enter Tryz.func21, Tryz.ntmps21
    go_wp2
    go_ret
    have : ¬ xs = ys := fun e => hl (by rw [e])
    exact ⟨ret_bool (by simp [this]), Below.refl _ _⟩
end Go.Proofs.YtplgbapbgcipdaaGreat

/-! slices.Equal on ints and on scripts. -/
namespace Go.Proofs.YtplgbapbgcipdaaGreat
open Go.RowKit

end Go.Proofs.YtplgbapbgcipdaaGreat

/-! slices.Repeat of a list with one bool. -/
namespace Go.Proofs.YtplgbapbgcipdaaGreat
open Go.RowKit

set_option maxRecDepth 100000 in
set_option maxHeartbeats 4000000 in
theorem mul_any (n : Nat) (hn : n ≤ 12) (w : World) :
    Calls Tryz.prog 104 #[.int .u64 1, .int .u64 n] w fun e w' => e = .returned (.tuple #[.int .u64 0, .int .u64 n]) ∧ w' = w := by
  have h : n = 0 ∨ n = 1 ∨ n = 2 ∨ n = 3 ∨ n = 4 ∨ n = 5 ∨ n = 6 ∨ n = 7 ∨ n = 8 ∨ n = 9 ∨ n = 10 ∨ n = 11 ∨ n = 12 := by omega
  rcases h with rfl | rfl | rfl | rfl | rfl | rfl | rfl | rfl | rfl | rfl | rfl | rfl | rfl
  all_goals
    go_enter Tryz.func104, Tryz.ntmps104
    go_wp2
    go_ret2
    exact ⟨rfl, rfl⟩
set_option maxRecDepth 100000 in
/-- 'copy' within and into a block of bools. -/
theorem copy_bools {w : World} {g o n : Nat} {cur : List Bool} (hg : Blk w g 4 (bools cur)) (a : Addr) (m c d k : Nat) (hk : k = Nat.min m n) (hsrc : ∀ j, j < k → w.cell? (a.add j) = some (.bool true)) (hfit : o + k ≤ cur.length) :
    ∃ w', (Builtin.copy_ #[93, 93] 3 #[.slice (some ⟨g, o, none⟩) n d, .slice (some a) m c]).run Tryz.prog w = .ok (.int .i64 k) w' ∧ Blk w' g 4 (bools (cur.take o ++ List.replicate k true ++ cur.drop (o + k))) ∧ ∀ B w0, Below B w0 w → B ≤ g → Below B w0 w' := by
  obtain ⟨i0, hi, hz0, hz1, hz2⟩ := info_parts info_bool
  have hin : (Tryz.prog.info? 4).map (·.size) = some 1 := by rw [hi]; simp [hz1]
  have hr := run_copy_row Tryz.prog w 93 93 3 4 g o n d a m c (bools cur) 4 (List.replicate k (.bool true)) Tryz.underlying93 hin hg (by simpa using hk)
    (fun j v hj => by
      rw [List.getElem?_replicate] at hj
      split at hj
      · rename_i h; injection hj with hj; subst hj; exact hsrc j h
      · cases hj) (by simpa [bools] using hfit) (fun v hv => by rw [(List.mem_replicate.1 hv).2]; rfl)
  rw [List.length_replicate] at hr
  refine ⟨_, hr, ?_, fun B w0 hb hB => below_setRow hb hB _⟩
  have := setRow_heap w g (bools cur) ((bools cur).toList.take o ++ List.replicate k (Value.bool true) ++ (bools cur).toList.drop (o + k)).toArray 4 (0, 0) hg
  refine this.trans ?_
  congr 2
  simp [bools, List.map_take, List.map_drop]
theorem rep_take {n k m : Nat} (hk : k + m ≤ n) : (List.replicate k true ++ List.replicate (n - k) false).take k ++ List.replicate m true ++ (List.replicate k true ++ List.replicate (n - k) false).drop (k + m) = List.replicate (k + m) true ++ List.replicate (n - (k + m)) false := by
  rw [List.take_left' (by simp), List.drop_append]
  simp only [List.length_replicate, List.drop_replicate]
  rw [show k - (k + m) = 0 by omega, show n - k - (k + m - k) = n - (k + m) by omega, List.replicate_zero, List.nil_append, List.replicate_append_replicate]

set_option maxRecDepth 100000 in
set_option maxHeartbeats 4000000 in
theorem repeat_any (n : Nat) (h1 : 1 ≤ n) (hn : n ≤ 12) (g : Nat) (w : World) (hg : Blk w g 4 #[.bool true]) :
    Calls Tryz.prog 66 #[.slice (some ⟨g, 0, none⟩) 1 1, .int .i64 n] w fun e w' => e = .returned (.slice (some ⟨w.heap.size, 0, none⟩) n n) ∧ Blk w' w.heap.size 4 (bools (List.replicate n true)) ∧ Below w.heap.size w w' := by
  have MC := Lib.hid (mul_any n hn)
  have hw1 : IntKind.u64.wrap (n : Int) = n := IntWalk.u64_in _ (by omega)
  have hw2 : IntKind.i64.wrap (n : Int) = n := IntWalk.i64_in _ (by omega)
  have hl : ((9223372036854775807 : Int) < (n : Int)) = False := by simp; omega
  have hl2 : decide ((9223372036854775807 : Int) < (n : Int)) = false := by simp; omega
  have hmb := make_bools n (by omega)
  have h0 : ¬ ((n : Int) < 0) := by omega
  obtain ⟨w2, hrun, hb2, hbl2⟩ := copy_bools (Blk.new w 4 (bools (List.replicate n false))) ⟨g, 0, none⟩ 1 1 n 1 (o := 0) (n := n) (by show 1 = min 1 n; omega)
    (fun j hj => by obtain rfl : j = 0 := by omega
                    exact (hg.alloc (.cells (bools (List.replicate n false)) 4)).cell 0) (by simp; omega)
  have hB2 := hbl2 w.heap.size w ((Below.refl _ _).alloc (Nat.le_refl _) _) (Nat.le_refl _)
  have e0 := rep_take (n := n) (k := 0) (m := 1) (by omega)
  simp only [List.replicate_zero, List.nil_append, Nat.sub_zero, Nat.zero_add] at e0
  rw [Nat.zero_add, e0] at hb2
  clear e0 hbl2 hg
  go_enter Tryz.func66, Tryz.ntmps66
  go_wp2_with fail
  refine (MC.out _).mono ?_
  rintro e w1 ⟨rfl, rfl⟩
  go_wp2_with fail
  go_loopw [8] (fun i wl => ∃ k : Nat, i = .int .i64 k ∧ 1 ≤ k ∧ k ≤ n ∧ Hid (Blk wl w1.heap.size 4 (bools (List.replicate k true ++ List.replicate (n - k) false))) ∧ Below w1.heap.size w1 wl) (fun i _ => n - (intOf i).toNat)
  case atStart => exact ⟨1, rfl, by omega, h1, hb2, hB2⟩
  case round =>
    obtain ⟨k, rfl, hk1, hkn, HB, hbel⟩ := hrel
    clear hrun
    by_cases hlt : k < n
    · have hi : (k : Int) < (n : Int) := by omega
      have hBd : Blk wr.drew w1.heap.size 4 (bools (List.replicate k true ++ List.replicate (n - k) false)) := HB.out
      obtain ⟨m, hm⟩ : ∃ m, m = Nat.min k (n - k) := ⟨_, rfl⟩
      have hmk : m ≤ k ∧ 1 ≤ m ∧ k + m ≤ n := by have : m = min k (n - k) := hm; omega
      obtain ⟨w3, hrun, hb3, hbl3⟩ := copy_bools hBd ⟨w1.heap.size, 0, none⟩ k n (n - k) m (o := k) (n := n - k) hm (fun j hj => by
          have := hBd.cell j
          have hadd : (⟨w1.heap.size, 0, none⟩ : Addr).add j = ⟨w1.heap.size, 0 + j, none⟩ := by unfold Addr.add; split <;> simp_all
          rw [hadd, Nat.zero_add]
          refine this.trans (bools_get ?_)
          rw [List.getElem?_append_left (by rw [List.length_replicate]; omega), List.getElem?_replicate, if_pos (by omega)]) (by simp; omega)
      have hB3 := hbl3 w1.heap.size w1 hbel.drew (Nat.le_refl _)
      rw [rep_take hmk.2.2] at hb3
      have HB3 := Lib.hid hb3
      have hw4 : IntKind.i64.wrap ((k : Int) + (m : Int)) = k + m := IntWalk.i64_in _ (by omega)
      clear hb3 hbl3 hBd hm
      go_wp2_with fail
      go_region_held3 (fun _ => True) (trivial) (fail)
      all_goals
        go_wp2
        go_roundw
        case rel => exact ⟨k + m, by go_num, by omega, by omega, HB3, hB3⟩
        case measure => simp [intOf]; omega
    · obtain rfl : k = n := by omega
      go_wp2
      go_ret
      exact ⟨rfl, by have := HB.out; simpa using this, hbel⟩
end Go.Proofs.YtplgbapbgcipdaaGreat

/-! ref17.Order and ref17.Same: the order and the equality of divisors. -/
namespace Go.Proofs.YtplgbapbgcipdaaGreat
open Go.RowKit

/-- The order of two lists of one length. -/
def ordS : List Int → List Int → Int
  | x :: xs, y :: ys => if x < y then -1 else if y < x then 1 else ordS xs ys
  | _, _ => 0
theorem ordS_drop {xs ys : List Int} {k : Nat} {x y : Int} (h : xs[k]? = some x) (h' : ys[k]? = some y) :
    ordS (xs.drop k) (ys.drop k) = if x < y then -1 else if y < x then 1 else ordS (xs.drop (k + 1)) (ys.drop (k + 1)) := by
  obtain ⟨l1, e1⟩ := List.getElem?_eq_some_iff.1 h
  obtain ⟨l2, e2⟩ := List.getElem?_eq_some_iff.1 h'
  rw [List.drop_eq_getElem_cons l1, List.drop_eq_getElem_cons l2, e1, e2, ordS]
theorem ordS_zero : ∀ {xs ys : List Int}, xs.length = ys.length → (ordS xs ys = 0 ↔ xs = ys)
  | [], [], _ => by simp [ordS]
  | [], _ :: _, h => by simp at h
  | _ :: _, [], h => by simp at h
  | x :: xs, y :: ys, h => by
    have ih := ordS_zero (xs := xs) (ys := ys) (by simpa using h)
    rw [ordS]
    by_cases h1 : x < y
    · rw [if_pos h1]; simp; intro e; omega
    · by_cases h2 : y < x
      · rw [if_neg h1, if_pos h2]; simp; intro e; omega
      · have : x = y := by omega
        subst this
        rw [if_neg h1, if_neg h1, ih]; simp

theorem drew_once {w wr : World} {a : Nat} (h : ∃ m, wr = w.drewN m) : ∃ m, wr.drewN a = w.drewN m := by
  obtain ⟨m, e⟩ := h
  exact ⟨m + a, by rw [e, World.drewN_drewN]⟩
theorem drew_twice {w wr : World} {a b : Nat} (h : ∃ m, wr = w.drewN m) : ∃ m, (wr.drewN a).drewN b = w.drewN m := by
  obtain ⟨m, e⟩ := h
  exact ⟨m + (a + b), by rw [e, World.drewN_drewN, World.drewN_drewN]⟩
set_option maxHeartbeats 800000 in
theorem rorder_any (A : Option Addr) (c : Nat) (xs : List Int) (B : Option Addr) (d : Nat) (ys : List Int) (hn : xs.length ≤ 1048576) (hl : xs.length = ys.length) (w : World) (b0 : Nat) (h : Reads w b0 1 A xs.length (ints xs)) (h' : Reads w b0 1 B ys.length (ints ys)) :
    Calls Tryz.prog 42 #[.slice A xs.length c, .slice B ys.length d] w fun e w' => e = .returned (.int .i64 (ordS xs ys)) ∧ ∃ m, w' = w.drewN m := by
  have HL := Lib.hid hl
  clear hl
  go_enter Tryz.func42, Tryz.ntmps42
  go_wp2
  go_loopw [5] (fun i wr => ∃ k : Nat, k ≤ xs.length ∧ i = .int .i64 k ∧ Hid (∃ m, wr = w.drewN m) ∧ Hid (ordS xs ys = ordS (xs.drop k) (ys.drop k))) (fun i _ => xs.length - (intOf i).toNat)
  case atStart => exact ⟨0, by omega, rfl, ⟨0, rfl⟩, by simp [Hid]⟩
  case round =>
    obtain ⟨k, hk, rfl, HM, HS⟩ := hrel
    have hrd : Reads wr b0 1 A xs.length (ints xs) := by obtain ⟨m, e⟩ := HM.out; rw [e]; exact h
    have hrd' : Reads wr b0 1 B ys.length (ints ys) := by obtain ⟨m, e⟩ := HM.out; rw [e]; exact h'
    by_cases hlt : k < xs.length
    · obtain ⟨x, hx⟩ := get_of_lt hlt
      obtain ⟨y, hy⟩ := get_of_lt (xs := ys) (k := k) (by have := HL.out; omega)
      have hd := ordS_drop hx hy
      obtain ⟨b, off, rfl, hb, hcell⟩ := hrd.at_ (ints_at hx)
      obtain ⟨b', off', rfl, hb', hcell'⟩ := hrd'.at_ (ints_at hy)
      have hi : (k : Int) < (xs.length : Int) := by omega
      have hi' : (k : Int) < (ys.length : Int) := by have := HL.out; omega
      clear hx hy h h' hrd hrd'
      by_cases h1 : x < y
      · have d1 : decide (x < y) = true := decide_eq_true h1
        rw [if_pos h1] at hd
        have HD := Lib.hid hd
        clear hd
        go_wp2
        go_quiet (fail)
        go_wp2
        go_ret
        exact ⟨by rw [HS.out, HD.out]; rfl, by obtain ⟨m, e⟩ := HM.out; exact ⟨m + nq, by rw [e, World.drewN_drewN]⟩⟩
      · have d1 : decide (x < y) = false := decide_eq_false h1
        by_cases h2 : y < x
        · have d2 : decide (y < x) = true := decide_eq_true h2
          rw [if_neg h1, if_pos h2] at hd
          have HD := Lib.hid hd
          clear hd
          go_wp2
          go_quiet (fail)
          go_wp2
          go_quiet (fail)
          go_wp2
          go_ret
          exact ⟨by rw [HS.out, HD.out]; rfl, drew_twice HM.out⟩
        · have d2 : decide (y < x) = false := decide_eq_false h2
          rw [if_neg h1, if_neg h2] at hd
          have HD := Lib.hid hd
          clear hd
          go_wp2
          go_quiet (fail)
          go_wp2
          go_quiet (fail)
          go_wp2
          go_roundw
          case rel => exact ⟨k + 1, by omega, by go_num, drew_once HM.out, by rw [Hid, HS.out, HD.out]⟩
          case measure => simp [intOf]; omega
    · go_wp2
      go_ret
      refine ⟨?_, HM.out⟩
      have e : ordS xs ys = 0 := by rw [HS.out, List.drop_eq_nil_of_le (by omega)]; rfl
      rw [e]; rfl

set_option maxHeartbeats 400000 in
theorem dsame_any (A : Option Addr) (c : Nat) (xs : List Int) (B : Option Addr) (d : Nat) (ys : List Int) (hn : xs.length ≤ 1048576) (w : World) (b0 : Nat) (h : Reads w b0 1 A xs.length (ints xs)) (h' : Reads w b0 1 B ys.length (ints ys)) :
    Calls Tryz.prog 12 #[.slice A xs.length c, .slice B ys.length d] w fun e w' => e = .returned (.bool (decide (xs = ys))) ∧ ∃ m, w' = w.drewN m := by
  by_cases hl : xs.length = ys.length
  · have hb : ((xs.length : Int) != (ys.length : Int)) = false := by simp; omega
    have HO := Lib.hid (rorder_any A c xs B d ys hn hl w b0 h h')
    have HZ := Lib.hid (ordS_zero hl)
    clear hl
    go_enter Tryz.func12, Tryz.ntmps12
    go_wp2_with (go_at_call 42; refine (HO.out).mono ?_; rintro e w' ⟨rfl, hw'⟩)
    go_ret
    refine ⟨ret_bool ?_, hw'⟩
    by_cases he : xs = ys
    · have := HZ.out.2 he; simp [he] at this ⊢; exact this
    · have : ¬ ordS xs ys = 0 := fun e => he (HZ.out.1 e)
      simp [he, this]
  · have hb : ((xs.length : Int) != (ys.length : Int)) = true := by simp; omega
    go_enter Tryz.func12, Tryz.ntmps12
    go_wp2
    go_ret
    have : ¬ xs = ys := fun e => hl (by rw [e])
    exact ⟨ret_bool (by simp [this]), 0, rfl⟩
end Go.Proofs.YtplgbapbgcipdaaGreat

/-! ref23.Same. -/
namespace Go.Proofs.YtplgbapbgcipdaaGreat
open Go.RowKit

end Go.Proofs.YtplgbapbgcipdaaGreat

/-! What stays of slices through the steps of an iterator; the ends of functions that hold ranges over functions. -/
namespace Go.Proofs.YtplgbapbgcipdaaGreat
open Go.RowKit Go.Shelf

/-- The marks of the loops that a function has gone through. -/
def MarksAt : List Deferred → World → Prop
  | [], _ => True
  | d :: ds, w => ∃ D, d = { target := .collected D, args := #[] } ∧ w.heap[D]? = some (.deferred (some [])) ∧ (∀ d' ∈ ds, d' ≠ d) ∧ MarksAt ds w
theorem MarksAt.keep {ds : List Deferred} {w w' : World} (h : MarksAt ds w) (hk : ∀ D, ({ target := .collected D, args := #[] } : Deferred) ∈ ds → w'.heap[D]? = w.heap[D]?) : MarksAt ds w' := by
  induction ds with
  | nil => trivial
  | cons d ds ih =>
    obtain ⟨D, hd, hD, hne, hr⟩ := h
    refine ⟨D, hd, (hk D (by rw [hd]; simp)).trans hD, hne, ih hr fun D' h' => hk D' (by simp [h'])⟩
theorem end_marks {P : Program} {n : Nat} {fn : Func} {R : Ending → World → Prop} {tmps : Array Value} : ∀ (ds : List Deferred) (w : World), MarksAt ds w →
    (∀ w', Only (fun k => ({ target := .collected k, args := #[] } : Deferred) ∈ ds) w w' → ∃ v, (results fn tmps).run P w' = .ok v w' ∧ R (.returned v) w') → LeavesInM Fence.wide n P fn tmps R ds .returning w := by
  intro ds
  induction ds with
  | nil => intro w _ h; exact h w (Only.refl _ _)
  | cons d ds ih =>
    rintro w ⟨D, hd, hD, hne, hr⟩ h
    refine ⟨by simp, .inl ⟨D, _, by rw [hd], run_takeDeferred hD, ih _ (hr.keep fun D' h' => World.putObj_heap_other fun e => hne _ h' (by rw [hd, e])) ?_⟩⟩
    intro w' ho
    refine h w' (Only.trans ((Only.put_one w D _).mono fun k _ hk => by subst hk; rw [hd]; simp) (ho.mono fun k _ hk => by simp [hk]))

theorem end_none {P : Program} {F : Fence} {n : Nat} {fn : Func} {R : Ending → World → Prop} {tmps : Array Value} {w : World} {v : Value} (hv : (results fn tmps).run P w = .ok v w) (hR : R (.returned v) w) :
    bodyPostM F n P fn R .ret { tmps := tmps, defers := [] } w := ⟨v, hv, hR⟩

theorem OwnI.stays {B : Nat} {M C : Nat → Prop} {w w' : World} {base c : Nat} {A : Option Addr} {xs : List Int} (h : OwnI w base A c xs) (hst : Stays B M C w w') (hC : ∀ k, blockOf A k → C k ∨ (k < B ∧ ¬ M k)) : OwnI w' base A c xs := by
  have hlt := h.lt
  obtain ⟨h1, h2⟩ := h
  refine ⟨h1, ?_⟩
  rcases h2 with h2 | ⟨g, cap, cur, hv, hg, hh, r⟩
  · exact .inl h2
  · have hgb : (Value.slice A xs.length c).ownBlock = some g := by rw [hv]; rfl
    exact .inr ⟨g, cap, cur, hv, hg, (hst.block g (hlt g hgb).2 (hC g (blockOf_own.1 hgb))).trans hh, r⟩
theorem OwnI.only {C : Nat → Prop} {w w' : World} {base c : Nat} {A : Option Addr} {xs : List Int} (h : OwnI w base A c xs) (ho : Only C w w') (hC : ∀ k, blockOf A k → ¬ C k) : OwnI w' base A c xs := by
  have hlt := h.lt
  obtain ⟨h1, h2⟩ := h
  refine ⟨h1, ?_⟩
  rcases h2 with h2 | ⟨g, cap, cur, hv, hg, hh, r⟩
  · exact .inl h2
  · have hgb : (Value.slice A xs.length c).ownBlock = some g := by rw [hv]; rfl
    exact .inr ⟨g, cap, cur, hv, hg, (ho.block g (hlt g hgb).2 (hC g (blockOf_own.1 hgb))).trans hh, r⟩
theorem reads_only {C : Nat → Prop} {w w' : World} {B n : Nat} {A : Option Addr} {xs : List Value} (h : Reads w B 1 A n xs) (ho : Only C w w') (hB : B ≤ w.heap.size) (hC : ∀ k, blockOf A k → ¬ C k) : Reads w' B 1 A n xs :=
  ⟨h.1, fun hn => by
    obtain ⟨b, off, rfl, hb, hc⟩ := h.2 hn
    exact ⟨b, off, rfl, hb, fun j u hu => (World.cell?_of_block (w := w) (ho.block b (by omega) (hC b ⟨_, rfl, rfl⟩))).trans (hc j u hu)⟩⟩

/-- A post that bears no panic. -/
def NoPanic (Q : Exit → Act → World → Prop) : Exit → Act → World → Prop
  | .panic _, _, _ => False
  | .outgrown, _, _ => False
  | e, a, w => Q e a w
theorem wpIn_nopanic {F : Fence} {n : Nat} {P : Program} {c : Code} {Q : Exit → Act → World → Prop} {a : Act} {w : World} (h : c.wpIn F n P (NoPanic Q) a w) : c.wpIn F n P Q a w :=
  wpIn_mono h fun e a w hq => by cases e <;> first | exact hq | exact hq.elim

theorem nopanic_normal {Q : Exit → Act → World → Prop} {a : Act} {w : World} (h : Q .normal a w) : NoPanic Q .normal a w := h
end Go.Proofs.YtplgbapbgcipdaaGreat

/-! Graphs: slices of edges (three cells each) and of pairs (two cells each); the reference's equality of graphs. -/
namespace Go.Proofs.YtplgbapbgcipdaaGreat
open Go.RowKit

/-- An edge: its ends, and how often. -/
abbrev E3 := Int × Int × Int
def edgeCells : List E3 → List Value
  | [] => []
  | e :: es => .int .i64 e.1 :: .int .i64 e.2.1 :: .int .i64 e.2.2 :: edgeCells es
theorem edgeCells_length (es : List E3) : (edgeCells es).length = es.length * 3 := by
  induction es with
  | nil => rfl
  | cons e es ih => simp [edgeCells, ih]; omega
theorem edgeCells_append (es fs : List E3) : edgeCells (es ++ fs) = edgeCells es ++ edgeCells fs := by
  induction es with
  | nil => rfl
  | cons e es ih => simp [edgeCells, ih]
theorem edgeCells_at {es : List E3} {k : Nat} {e : E3} (h : es[k]? = some e) :
    (edgeCells es)[k * 3]? = some (.int .i64 e.1) ∧ (edgeCells es)[k * 3 + 1]? = some (.int .i64 e.2.1) ∧ (edgeCells es)[k * 3 + 2]? = some (.int .i64 e.2.2) := by
  induction es generalizing k with
  | nil => simp at h
  | cons f es ih =>
    rcases k with _ | k
    · simp at h; subst h; simp [edgeCells]
    · have := ih (k := k) (by simpa using h)
      rw [show (k + 1) * 3 = k * 3 + 1 + 1 + 1 from by omega, show k * 3 + 1 + 1 + 1 + 1 = (k * 3 + 1) + 1 + 1 + 1 from by omega, show k * 3 + 1 + 1 + 1 + 2 = (k * 3 + 2) + 1 + 1 + 1 from by omega]
      simpa [edgeCells] using this
theorem edgeCells_one {es : List E3} : ∀ u ∈ edgeCells es, u.oneCell' = true := by
  induction es with
  | nil => simp [edgeCells]
  | cons e es ih =>
    intro u hu
    simp only [edgeCells, List.mem_cons] at hu
    rcases hu with rfl | rfl | rfl | hu
    · rfl
    · rfl
    · rfl
    · exact ih u hu
theorem Reads.edge {w : World} {B n : Nat} {A : Option Addr} {es : List E3} {k : Nat} {e : E3} (h : Reads w B 3 A n (edgeCells es)) (he : es[k]? = some e) :
    ∃ b off, A = some ⟨b, off, none⟩ ∧ b < B ∧ w.cell? ⟨b, off + k * 3, none⟩ = some (.int .i64 e.1) ∧ w.cell? ⟨b, off + k * 3 + 1, none⟩ = some (.int .i64 e.2.1) ∧ w.cell? ⟨b, off + k * 3 + 1 + 1, none⟩ = some (.int .i64 e.2.2) := by
  have hk : k < es.length := (List.getElem?_eq_some_iff.1 he).1
  have hl := h.1
  rw [edgeCells_length] at hl
  obtain ⟨b, off, hA, hb, hc⟩ := h.2 (by omega)
  obtain ⟨h1, h2, h3⟩ := edgeCells_at he
  exact ⟨b, off, hA, hb, hc _ _ h1, by have := hc _ _ h2; rwa [show off + (k * 3 + 1) = off + k * 3 + 1 from by omega] at this, by have := hc _ _ h3; rwa [show off + (k * 3 + 2) = off + k * 3 + 1 + 1 from by omega] at this⟩

theorem info_edge : (Tryz.prog.info? 73).map (fun i => (i.zero, i.size, i.bytes)) = some (some (.agg #[.int .i64 0, .int .i64 0, .int .i64 0]), 3, 24) := by kernel_rfl

/-- The slice value is the call's own row of edges. -/
def OwnE (w : World) (base : Nat) (A : Option Addr) (c : Nat) (es : List E3) : Prop := w.ownsRow base 73 3 (.slice A es.length c) es.length (edgeCells es)
section
variable {w w' : World} {base : Nat} {A : Option Addr} {c : Nat} {es : List E3}
theorem OwnE.nil_ (w : World) (base : Nat) : OwnE w base none 0 [] := World.ownsRow_nil _ _ _ _
theorem OwnE.reads (h : OwnE w base A c es) : Reads w w.heap.size 3 A es.length (edgeCells es) := Reads.of_own h
theorem OwnE.alloc (h : OwnE w base A c es) (o : Obj) : OwnE (w.alloc o) base A c es := World.ownsRow.alloc h o
theorem OwnE.drewN (h : OwnE w base A c es) (n : Nat) : OwnE (w.drewN n) base A c es := h
theorem OwnE.lt (h : OwnE w base A c es) : ∀ k, blockOf A k → base ≤ k ∧ k < w.heap.size := fun k hk => World.ownsRow.lt h k (blockOf_own.2 hk)
theorem OwnE.kept (h : OwnE w base A c es) (hk : ∀ k, blockOf A k → w'.heap[k]? = w.heap[k]?) : OwnE w' base A c es := by
  obtain ⟨h1, h2⟩ := h
  refine ⟨h1, ?_⟩
  rcases h2 with h2 | ⟨g, cap, cur, hv, hg, hh, r⟩
  · exact .inl h2
  · have hgb : (Value.slice A es.length c).ownBlock = some g := by rw [hv]; rfl
    exact .inr ⟨g, cap, cur, hv, hg, (hk g (blockOf_own.1 hgb)).trans hh, r⟩
theorem OwnE.next (h : OwnE w base A c es) (hb : Below w.heap.size w w') : OwnE w' base A c es := h.kept fun k hk => hb.block k (h.lt k hk).2
theorem OwnE.mono {base' : Nat} (h : OwnE w base A c es) (hb : base' ≤ base) : OwnE w base' A c es := by
  obtain ⟨h1, h2⟩ := h
  refine ⟨h1, ?_⟩
  rcases h2 with h2 | ⟨g, cap, cur, hv, hg, r⟩
  · exact .inl h2
  · exact .inr ⟨g, cap, cur, hv, by omega, r⟩
theorem OwnE.set_blk {g : Nat} {t : TypeId} {cs : Array Value} (h : OwnE w base A c es) (hg : Blk w g t cs) (ht : 73 ≠ t) (o : Nat) (u : Value) : OwnE (w.setCell ⟨g, o, none⟩ u) base A c es := by
  have hne := own_blk_ne h hg ht
  refine h.kept fun k hk => Below.heap_setCell w ⟨g, o, none⟩ u k ?_
  rintro rfl
  exact hne (blockOf_own.2 hk).symm
end
/-- 'append(es, e)': behind the box of the one new edge. -/
theorem push_edge {ops : Array Oper} {rest : List Oper} {o : Oper} {a : Act} {Q : Exit → Act → World → Prop} {w : World} (hgd : o.guard = none) (s x : Operand) (t : TypeId)
    (ho : o.op = .call { callee := .builtin .append, args := #[s, x], argTypes := #[t, t] }) (ht : Tryz.prog.underlying t = some (.slice 73))
    (base : Nat) (A : Option Addr) (c : Nat) (es : List E3) (e1 e2 e3 : Int) (hs : a.eval s = .slice A es.length c) (hown : OwnE w base A c es)
    {g : Nat} (hx : a.eval x = .slice (some ⟨g, 0, none⟩) 1 1) (hgw : g = w.heap.size) (hn : es.length ≤ 1048000) (hbase : base ≤ w.heap.size)
    (h : ∀ A' c' w', OwnE w' base A' c' (es ++ [(e1, e2, e3)]) → (w.alloc (.cells #[.int .i64 e1, .int .i64 e2, .int .i64 e3] 73)).grownBy w' (Value.slice A es.length c).ownBlock → Below base w w' →
      wpList Tryz.prog ops Q rest (a.put o.dst (.slice A' (es.length + 1) c')) w') :
    wpList Tryz.prog ops Q (o :: rest) a (w.alloc (.cells #[.int .i64 e1, .int .i64 e2, .int .i64 e3] 73)) := by
  subst hgw
  refine append_go hgd s x t ho base 73 ht info_edge rfl (by omega) A c es.length (edgeCells es) hs (OwnE.alloc hown _) _ (edgeCells [(e1, e2, e3)]) hx (Reads.boxN w #[.int .i64 e1, .int .i64 e2, .int .i64 e3] 73) edgeCells_one (by omega) (by simp; omega) ?_
  intro A' c' w' hown' hg hB _
  exact h A' c' w' (by unfold OwnE; rw [List.length_append, edgeCells_append]; exact hown') hg (((Below.refl base w).alloc hbase _).trans hB)

end Go.Proofs.YtplgbapbgcipdaaGreat

/-! Slices of ints that are known whole. -/
namespace Go.Proofs.YtplgbapbgcipdaaGreat
open Go.RowKit

def intCells (l : List Int) : Array Value := (ints l).toArray
theorem intCells_get {l : List Int} {k : Nat} {x : Int} (h : l[k]? = some x) : (intCells l)[k]? = some (.int .i64 x) := by simp [intCells, ints, h]
theorem intCells_set (l : List Int) (k : Nat) (x : Int) : (intCells l).setIfInBounds k (.int .i64 x) = intCells (l.set k x) := by simp [intCells, ints, List.map_set]
theorem OwnI.of_blk {w : World} {base g : Nat} {l : List Int} (h : Blk w g 3 (intCells l)) (hb : base ≤ g) (hl : l.length ≤ maxLen) : OwnI w base (some ⟨g, 0, none⟩) l.length l :=
  ⟨by simp [ints], .inr ⟨g, l.length, intCells l, rfl, hb, h, Nat.le_refl _, hl, by simp [intCells, ints], by rw [Nat.mul_one]; show (ints l).take l.length = ints l; rw [← ints_length, List.take_length]⟩⟩
end Go.Proofs.YtplgbapbgcipdaaGreat

/-! The contracts of Lucky, Displacement, Count of package parking, and of slices.Equal on ints. -/
namespace Go.Proofs.YtplgbapbgcipdaaGreat
open Go.RowKit

end Go.Proofs.YtplgbapbgcipdaaGreat

/-! A slice of ints of the call's own: its block, and a store into it. -/
namespace Go.Proofs.YtplgbapbgcipdaaGreat
open Go.RowKit

theorem OwnI.block {w : World} {base : Nat} {A : Option Addr} {c : Nat} {xs : List Int} (h : OwnI w base A c xs) (hn : 0 < xs.length) : ∃ g, A = some ⟨g, 0, none⟩ ∧ base ≤ g ∧ (∀ i, w.frozen? ⟨g, i, none⟩ = false) ∧ ∀ (k : Nat) (x : Int), xs[k]? = some x → w.cell? ⟨g, k, none⟩ = some (.int .i64 x) := by
  obtain ⟨h1, h2⟩ := h
  rcases h2 with ⟨h2, h3⟩ | ⟨g, cap, cur, hv, hg, hh, r1, r2, r3, r4⟩
  · simp at h2; omega
  · injection hv with hv1 hv2 hv3
    have hb : Blk w g 3 cur := hh
    refine ⟨g, hv1, hg, hb.frozen, fun k x hk => ?_⟩
    rw [hb.cell k]
    have hk' : k < xs.length := (List.getElem?_eq_some_iff.1 hk).1
    have e1 : (cur.toList.take (xs.length * 1))[k]? = some (.int .i64 x) := by rw [r4, ints_at hk]
    rw [Nat.mul_one, List.getElem?_take_of_lt hk', Array.getElem?_toList] at e1
    exact e1
theorem OwnI.set {w : World} {base : Nat} {A : Option Addr} {c g : Nat} {xs : List Int} (h : OwnI w base A c xs) (hA : A = some ⟨g, 0, none⟩) (k : Nat) (x : Int) : OwnI (w.setCell ⟨g, k, none⟩ (.int .i64 x)) base A c (xs.set k x) := by
  obtain ⟨h1, h2⟩ := h
  rcases h2 with ⟨h2, h3⟩ | ⟨g', cap, cur, hv, hg, hh, r1, r2, r3, r4⟩
  · simp at h2; rw [hA] at h2; simp at h2
  · have hv1 : A = some ⟨g', 0, none⟩ := by injection hv
    rw [hA] at hv1
    have hgg : g = g' := by injection hv1 with hv1; injection hv1
    subst hgg
    refine ⟨by rw [ints_length]; simp, .inr ⟨g, cap, cur.setIfInBounds k (.int .i64 x), by rw [List.length_set]; exact hv, hg, (Blk.set_ (show Blk w g 3 cur from hh) k _), by rw [List.length_set]; exact r1, r2, by simpa using r3, ?_⟩⟩
    rw [Array.toList_setIfInBounds, List.take_set, List.length_set, r4]
    simp [ints, List.map_set]
theorem OwnI.at_ {w : World} {base c g : Nat} {xs : List Int} (h : OwnI w base (some ⟨g, 0, none⟩) c xs) (hn : 0 < xs.length) : base ≤ g ∧ g < w.heap.size ∧ (∀ i, w.frozen? ⟨g, i, none⟩ = false) ∧ ∀ (k : Nat) (x : Int), xs[k]? = some x → w.cell? ⟨g, k, none⟩ = some (.int .i64 x) := by
  obtain ⟨g', e, h1, h2, h3⟩ := h.block hn
  injection e with e
  injection e with e
  subst e
  exact ⟨h1, (own_lt h ⟨_, rfl, rfl⟩).2, h2, h3⟩
theorem OwnI.put {w : World} {base c g : Nat} {xs : List Int} (h : OwnI w base (some ⟨g, 0, none⟩) c xs) (k : Nat) (x : Int) : OwnI (w.setCell ⟨g, k, none⟩ (.int .i64 x)) base (some ⟨g, 0, none⟩) c (xs.set k x) := h.set rfl k x
theorem OwnI.kept {w w' : World} {base c g : Nat} {xs : List Int} (h : OwnI w base (some ⟨g, 0, none⟩) c xs) (hp : w'.heap[g]? = w.heap[g]?) : OwnI w' base (some ⟨g, 0, none⟩) c xs :=
  own_kept h fun k hk => by
    obtain ⟨a, ha, hk⟩ := hk
    injection ha with ha
    subst ha
    subst hk
    exact hp
end Go.Proofs.YtplgbapbgcipdaaGreat

