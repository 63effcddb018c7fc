/-
  Texts of this claim, put together: Sort, FireP.
-/
import Derived.Test.YtnbikkcalcpedaaGreatDoorK10
import Derived.Test.YtnbikkcalcpedaaGreatDoorK07
import Derived.Deep.QuietTactic
import Derived.BigQuiet
import Derived.Test.YtnbikkcalcpedaaGreatDoorK09
/-! slices.Sort on at most 12 ints of the call's own: they come out ascending. -/
namespace Go.Proofs.YtnbikkcalcpedaaGreatDoor
open Go.RowKit

set_option maxHeartbeats 400000 in
theorem less_any (x y : Int) (w : World) : Calls Tryz.prog 249 #[.int .i64 x, .int .i64 y] w fun e w' => e = .returned (.bool (decide (x < y))) ∧ w = w' := by
  by_cases h : x < y
  · have hd : decide (x < y) = true := decide_eq_true h
    rw [hd]
    go_enter Tryz.func249, Tryz.ntmps249
    go_wp2
    go_ret
    exact ⟨ret_bool (by simp), rfl⟩
  · have hd : decide (x < y) = false := decide_eq_false h
    rw [hd]
    go_enter Tryz.func249, Tryz.ntmps249
    go_wp2
    go_ret
    exact ⟨ret_bool (by simp), rfl⟩

theorem lessq_any (x y : Int) (w : World) : Calls Tryz.prog 249 #[.int .i64 x, .int .i64 y] w fun e w' => e = .returned (.bool (decide (x < y))) ∧ ∃ m, w' = w.drewN m :=
  (less_any x y w).mono fun _ _ ⟨he, hw⟩ => ⟨he, 0, hw.symm⟩

/-- All pairs up to i are in order, but for those whose second one is j. -/
def Srt (L : List Int) (i j : Nat) : Prop := ∀ p q, p < q → q ≤ i → q ≠ j → ∀ x y, L[p]? = some x → L[q]? = some y → x ≤ y
def swapL (L : List Int) (m : Nat) (a b : Int) : List Int := (L.set (m + 1) a).set m b
theorem swapL_perm {L : List Int} {m : Nat} {a b : Int} (ha : L[m]? = some a) (hb : L[m + 1]? = some b) : (swapL L m a b).Perm L := by
  obtain ⟨l1, e1⟩ := List.getElem?_eq_some_iff.1 ha
  obtain ⟨l2, e2⟩ := List.getElem?_eq_some_iff.1 hb
  have h : ((L.set (m + 1) L[m]).set m L[m + 1]).Perm L := List.set_set_perm l2 l1
  rw [e1, e2] at h
  exact h
theorem swapL_get {L : List Int} {m : Nat} {a b : Int} (h : m + 1 < L.length) (q : Nat) : (swapL L m a b)[q]? = if q = m then some b else if q = m + 1 then some a else L[q]? := by
  unfold swapL
  by_cases h1 : q = m
  · subst h1; rw [if_pos rfl, List.getElem?_set_self (by rw [List.length_set]; omega)]
  · rw [if_neg h1, List.getElem?_set_ne (fun e => h1 e.symm)]
    by_cases h2 : q = m + 1
    · subst h2; rw [if_pos rfl, List.getElem?_set_self h]
    · rw [if_neg h2, List.getElem?_set_ne (fun e => h2 e.symm)]
theorem Srt.swap {L : List Int} {i m : Nat} {a b : Int} (hs : Srt L i (m + 1)) (ha : L[m]? = some a) (hb : L[m + 1]? = some b) (hab : b < a) : Srt (swapL L m a b) i m := by
  have hl : m + 1 < L.length := (List.getElem?_eq_some_iff.1 hb).1
  intro p q hpq hq hqm x y hx hy
  rw [swapL_get hl] at hx hy
  rw [if_neg hqm] at hy
  by_cases h2 : q = m + 1
  · rw [if_pos h2] at hy
    injection hy with hy
    subst hy
    by_cases h3 : p = m
    · rw [if_pos h3] at hx; injection hx with hx; omega
    · rw [if_neg h3, if_neg (by omega)] at hx
      exact hs p m (by omega) (by omega) (by omega) x a hx ha
  · rw [if_neg h2] at hy
    by_cases h3 : p = m
    · rw [if_pos h3] at hx; injection hx with hx; subst hx
      exact hs (m + 1) q (by omega) hq h2 b y hb hy
    · rw [if_neg h3] at hx
      by_cases h4 : p = m + 1
      · rw [if_pos h4] at hx; injection hx with hx; subst hx
        exact hs m q (by omega) hq h2 a y ha hy
      · rw [if_neg h4] at hx
        exact hs p q hpq hq h2 x y hx hy
theorem Srt.done {L : List Int} {i m : Nat} {a b : Int} (hs : Srt L i (m + 1)) (_hi : m + 1 ≤ i) (ha : L[m]? = some a) (hb : L[m + 1]? = some b) (hab : a ≤ b) : Srt L i (i + 1) := by
  intro p q hpq hq _ x y hx hy
  by_cases h2 : q = m + 1
  · subst h2
    rw [hb] at hy; injection hy with hy; subst hy
    by_cases h3 : p = m
    · subst h3; rw [ha] at hx; injection hx with hx; omega
    · have := hs p m (by omega) (by omega) (by omega) x a hx ha; omega
  · exact hs p q hpq hq h2 x y hx hy
theorem Srt.zero {L : List Int} {i : Nat} (hs : Srt L i 0) : Srt L i (i + 1) := fun p q hpq hq _ x y hx hy => hs p q hpq hq (by omega) x y hx hy
theorem Srt.next {L : List Int} {i : Nat} (hs : Srt L i (i + 1)) : Srt L (i + 1) (i + 1) := fun p q hpq hq hne x y hx hy => hs p q hpq (by omega) hne x y hx hy

set_option maxRecDepth 100000 in
set_option maxHeartbeats 2000000 in
theorem insertion_any (A : Option Addr) (c : Nat) (xs : List Int) (h1 : 1 ≤ xs.length) (hn : xs.length ≤ 1048576) (w : World) (base : Nat) (h : OwnI w base A c xs) :
    Calls Tryz.prog 243 #[.slice A xs.length c, .int .i64 0, .int .i64 xs.length] w fun e w' => e = .returned (.tuple #[]) ∧ ∃ ys, ys.Perm xs ∧ Srt ys (ys.length - 1) ys.length ∧ OwnI w' base A c ys ∧ Below base w w' := by
  obtain ⟨g, hA, hg, hf, hcell⟩ := h.block (by omega)
  subst hA
  clear hf hcell
  go_enter Tryz.func243, Tryz.ntmps243
  go_wp2
  go_loopw [6] (fun i wr => ∃ (k : Nat) (L : List Int), i = .int .i64 ((k : Int) + 1) ∧ k + 1 ≤ xs.length ∧ L.length = xs.length ∧ Hid (L.Perm xs) ∧ Hid (Srt L k (k + 1)) ∧ OwnI wr base (some ⟨g, 0, none⟩) c L ∧ Below base w wr) (fun i _ => xs.length - (intOf i).toNat)
  case atStart => exact ⟨0, xs, by go_num, by omega, rfl, List.Perm.refl _, fun p q h1 h2 => by omega, h, Below.refl _ _⟩
  case round =>
    obtain ⟨k, L, rfl, hk, hL, HP, HS, hown, hbel⟩ := hrel
    by_cases hlt : k + 1 < xs.length
    · have hi : (k : Int) + 1 < (xs.length : Int) := by omega
      obtain ⟨wo, rfl⟩ : ∃ wo : World, wo = wr := ⟨_, rfl⟩
      go_wp2
      go_loopw [7] (fun i wr => ∃ (j : Nat) (L : List Int), i = .int .i64 j ∧ j ≤ k + 1 ∧ L.length = xs.length ∧ Hid (L.Perm xs) ∧ Hid (Srt L (k + 1) j) ∧ OwnI wr base (some ⟨g, 0, none⟩) c L ∧ Below base w wr) (fun i _ => (intOf i).toNat)
      case atStart => exact ⟨k + 1, L, by go_num, by omega, hL, HP, HS.out.next, hown, hbel⟩
      case round =>
        clear hL HP HS hown hbel
        obtain ⟨j, L, rfl, hj, hL, HP, HS, hown, hbel⟩ := hrel
        rcases j with _ | m
        · go_wp2
          go_quiet (fail)
          go_wp2
          go_roundw
          case rel => exact ⟨k + 1, L, by go_num, by omega, hL, HP, HS.out.zero, hown.drewN _, below_drewN hbel _⟩
          case measure => simp [intOf]; omega
        · obtain ⟨a, ha⟩ := get_of_lt (xs := L) (k := m) (by omega)
          obtain ⟨b, hb⟩ := get_of_lt (xs := L) (k := m + 1) (by omega)
          obtain ⟨g', hA, _, hfz, hcell⟩ := hown.block (by omega)
          have hgg : g = g' := by injection hA with hA; injection hA
          subst hgg
          have c1 := hcell m a ha
          have c2 := hcell (m + 1) b hb
          have i1 : (m : Int) < (xs.length : Int) := by omega
          have i2 : (m : Int) + 1 < (xs.length : Int) := by omega
          have i3 : (0 : Int) < (m : Int) + 1 := by omega
          have i4 : (0 : Int) ≤ (m : Int) := by omega
          have HA := Lib.hid ha
          have HB := Lib.hid hb
          have HL := Lib.hid (lessq_any b a)
          clear ha hb hA hcell
          by_cases hab : b < a
          · have hd : decide (b < a) = true := decide_eq_true hab
            have HAB := Lib.hid hab
            go_wp2
            go_quiet ((go_at_call 249; exact Calls.quiet_of (HL.out _)))
            go_wp2
            go_region
            all_goals (
              go_wp2
              go_roundw
              case rel => exact ⟨m, swapL L m a b, by go_num, by omega, by simp [swapL]; omega, (swapL_perm HA.out HB.out).trans HP.out, HS.out.swap HA.out HB.out HAB.out, ((hown.drewN _).set rfl (m + 1) a).set rfl m b, ((below_drewN hbel _).setCell (p := ⟨g, m + 1, none⟩) hg _).setCell (p := ⟨g, m, none⟩) hg _⟩
              case measure => simp [intOf])
          · have hd : decide (b < a) = false := decide_eq_false hab
            have HNAB : Hid (a ≤ b) := Lib.hid (by omega)
            clear hab
            go_wp2
            go_quiet ((go_at_call 249; exact Calls.quiet_of (HL.out _)))
            go_wp2
            go_roundw
            case rel => exact ⟨k + 1, L, by go_num, by omega, hL, HP, HS.out.done (by omega) HA.out HB.out HNAB.out, hown.drewN _, below_drewN hbel _⟩
            case measure => simp [intOf]; omega
    · have hi : ¬ (k : Int) + 1 < (xs.length : Int) := by omega
      go_wp2
      go_end0
      have hkk : k = L.length - 1 := by omega
      refine ⟨rfl, L, HP.out, ?_, hown, hbel⟩
      have := HS.out
      rw [show k + 1 = L.length from by omega, hkk] at this
      exact this

set_option maxHeartbeats 1000000 in
theorem pdq_any (A : Option Addr) (c : Nat) (xs : List Int) (lim : Int) (h1 : 1 ≤ xs.length) (hn : xs.length ≤ 12) (w : World) (base : Nat) (h : OwnI w base A c xs) :
    Calls Tryz.prog 189 #[.slice A xs.length c, .int .i64 0, .int .i64 xs.length, .int .i64 lim] w fun e w' => e = .returned (.tuple #[]) ∧ ∃ ys, ys.Perm xs ∧ Srt ys (ys.length - 1) ys.length ∧ OwnI w' base A c ys ∧ Below base w w' := by
  have HI := Lib.hid (insertion_any A c xs h1 (by omega) w base h)
  have h12 : (xs.length : Int) ≤ 12 := by omega
  go_enter Tryz.func189, Tryz.ntmps189
  go_wp2
  go_loopw [1, 2] (fun a b wr => a = .int .i64 0 ∧ b = .int .i64 xs.length ∧ wr = w) (fun _ _ _ => 0)
  case atStart => exact ⟨rfl, rfl, rfl⟩
  case round =>
    obtain ⟨rfl, rfl, rfl⟩ := hrel
    go_wp2_with (go_at_call 243; refine (HI.out).mono ?_; rintro e w1 ⟨rfl, ys, h1, h2, h3, h4⟩)
    refine bodyPost_ret (results_none rfl _ _ _) rfl ?_
    exact ⟨rfl, ys, h1, h2, h3, h4⟩

set_option maxRecDepth 100000 in
theorem bitsLen_any (n : Nat) (hn : n ≤ 12) (w : World) : Calls Tryz.prog 118 #[.int .u64 n] w fun e w' => (∃ v : Int, e = .returned (.int .i64 v)) ∧ w = w' := by
  have hc : n = 0 ∨ n = 1 ∨ n = 2 ∨ n = 3 ∨ n = 4 ∨ n = 5 ∨ n = 6 ∨ n = 7 ∨ n = 8 ∨ n = 9 ∨ n = 10 ∨ n = 11 ∨ n = 12 := by omega
  rcases hc with rfl | rfl | rfl | rfl | rfl | rfl | rfl | rfl | rfl | rfl | rfl | rfl | rfl
  all_goals (
    go_enter Tryz.func118, Tryz.ntmps118
    go_wp2
    go_ret
    exact ⟨⟨_, rfl⟩, rfl⟩)

set_option maxHeartbeats 1000000 in
theorem sort_any (A : Option Addr) (c : Nat) (xs : List Int) (h1 : 1 ≤ xs.length) (hn : xs.length ≤ 12) (w : World) (base : Nat) (h : OwnI w base A c xs) :
    Calls Tryz.prog 135 #[.slice A xs.length c] w fun e w' => e = .returned (.tuple #[]) ∧ ∃ ys, ys.Perm xs ∧ Srt ys (ys.length - 1) ys.length ∧ OwnI w' base A c ys ∧ Below base w w' := by
  have HB := Lib.hid (bitsLen_any xs.length hn w)
  have HP := Lib.hid (fun lim => pdq_any A c xs lim h1 hn w base h)
  have hw0 : (0 : Int) ≤ (xs.length : Int) := by omega
  have hw1 : (xs.length : Int) < 18446744073709551616 := by omega
  clear h
  go_enter Tryz.func135, Tryz.ntmps135
  go_wp2_with first
    | (go_at_call 118; refine (HB.out).mono ?_; rintro e w1 ⟨⟨v, rfl⟩, rfl⟩)
    | (go_at_call 189; refine (HP.out _).mono ?_; rintro e w1 ⟨rfl, ys, h1, h2, h3, h4⟩)
  go_end0
  exact ⟨rfl, ys, h1, h2, h3, h4⟩
end Go.Proofs.YtnbikkcalcpedaaGreatDoor

/-! Fires, plain laws: by a tree and by chips the same burns; what burns is a spanning tree. No program is in sight. -/
namespace Go.Proofs.YtnbikkcalcpedaaGreatDoor

def fire1 (n q : Nat) : FireS := ⟨[], [q], [], List.replicate n 0⟩
def incB (E : List (Nat × Nat)) (v e : Nat) : Bool := decide (Inc E e v)
/-- What holds of a fire. -/
structure FI (E : List (Nat × Nat)) (n q : Nat) (s : FireS) : Prop where
  nodup : s.steps.Nodup
  lt : ∀ e ∈ s.steps, e < E.length
  ond : s.order.Nodup
  olt : ∀ v ∈ s.order, v < n
  root : s.order.head? = some q
  tlen : s.times.length = n
  tsub : ∀ e ∈ s.tree, e ∈ s.steps
  tnd : s.tree.Nodup
  onum : s.order.length = s.tree.length + 1
  sum : (s.steps.length : Int) = s.tree.length + s.times.sum
  nn : ∀ v, 0 ≤ s.times.getD v 0
  cnt : ∀ v, v < n → v ∉ s.order → s.times.getD v 0 = ((s.steps.filter (incB E v)).length : Int)
  stend : ∀ e ∈ s.steps, ∀ v, Inc E e v → v ∉ s.order → oth (E.getD e (0, 0)) v ∈ s.order
  cn : ∀ v ∈ s.order, Cn (pk E s.tree) q v
  q0 : s.times.getD q 0 = 0
  par : ∀ v ∈ s.order, v ≠ q → ∃ e ∈ s.tree, Inc E e v ∧ ∃ pre post, s.order = pre ++ v :: post ∧ oth (E.getD e (0, 0)) v ∈ pre
  trend : ∀ e ∈ s.tree, (E.getD e (0, 0)).1 ∈ s.order ∧ (E.getD e (0, 0)).2 ∈ s.order
section
variable {E : List (Nat × Nat)} {lit lit' : Nat → Nat → Int → Bool} {n q e v : Nat} {s f : FireS}
theorem FI.qmem (h : FI E n q s) : q ∈ s.order := List.mem_of_mem_head? (by rw [h.root]; rfl)
/-- What the next single edge does. -/
theorem lead_facts (hb : BdP n E) (h : nextF E s = some e) : e < E.length ∧ e ∉ s.steps ∧ Inc E e (leadV E s e) ∧ leadV E s e ∉ s.order ∧ oth (E.getD e (0, 0)) (leadV E s e) ∈ s.order ∧ leadV E s e < n := by
  obtain ⟨h1, h2, _⟩ := next_some h
  have h3 := lead_new h2
  obtain ⟨h4, h5⟩ := cand_iff.1 h2
  have hbd := getD_bd hb h1
  refine ⟨h1, h4, ?_, h3, ?_, ?_⟩
  · unfold leadV Inc; split
    · exact .inr rfl
    · exact .inl rfl
  · unfold leadV at h3 ⊢
    split at h3
    · rename_i h6
      rw [if_pos h6]
      unfold oth
      by_cases hx : (E.getD e (0, 0)).1 = (E.getD e (0, 0)).2
      · rw [hx] at h6; exact absurd h6 h3
      · rw [if_neg hx]; exact h6
    · rename_i h6
      rw [if_neg h6]
      unfold oth
      rw [if_pos rfl]
      refine Classical.byContradiction fun h7 => h5 ⟨fun h => absurd h h6, fun h => absurd h h7⟩
  · unfold leadV; split
    · exact hbd.2
    · exact hbd.1
theorem sum_set : ∀ (l : List Int) (i : Nat) (x : Int), i < l.length → (l.set i x).sum = l.sum - l.getD i 0 + x
  | [], i, x, h => by simp at h
  | a :: l, 0, x, _ => by simp [List.set]; omega
  | a :: l, i + 1, x, h => by
    have := sum_set l i x (by simpa using h)
    simp only [List.set, List.sum_cons, List.getD_cons_succ, this]; omega
theorem FI.start (hq : q < n) : FI E n q (fire1 n q) := by
  refine { nodup := by simp [fire1], lt := by simp [fire1], ond := by simp [fire1], olt := by simp [fire1, hq], root := rfl, tlen := by simp [fire1], tsub := by simp [fire1], tnd := by simp [fire1], onum := rfl, sum := ?_, nn := ?_, cnt := ?_, stend := by simp [fire1], cn := ?_, q0 := ?_, par := ?_, trend := by simp [fire1] }
  · have : ∀ n : Nat, (List.replicate n (0 : Int)).sum = 0 := fun n => by
      induction n with
      | zero => rfl
      | succ n ih => rw [List.replicate_succ, List.sum_cons, ih]; rfl
    simp [fire1, this]
  · intro v; simp only [fire1, List.getD_eq_getElem?_getD, List.getElem?_replicate]; split <;> simp
  · intro v hv _; simp only [fire1, List.getD_eq_getElem?_getD, List.getElem?_replicate]; split <;> simp
  · intro v hv; simp [fire1] at hv; subst hv; exact .refl
  · simp only [fire1, List.getD_eq_getElem?_getD, List.getElem?_replicate]; split <;> simp
  · intro v hv hne; simp [fire1] at hv; exact absurd hv hne
theorem inc_oth_ne (hi : Inc E e v) {u : Nat} (hj : Inc E e u) (hne : u ≠ v) : u = oth (E.getD e (0, 0)) v := by
  unfold Inc at hi hj
  unfold oth
  rcases hi with hi | hi <;> rcases hj with hj | hj
  · exact absurd (hj.symm.trans hi) hne
  · rw [if_pos hi]; exact hj.symm
  · by_cases h : (E.getD e (0, 0)).1 = v
    · rw [if_pos h]; exact absurd (hj.symm.trans h) hne
    · rw [if_neg h]; exact hj.symm
  · exact absurd (hj.symm.trans hi) hne
theorem FI.one (hb : BdP n E) (h : FI E n q s) (hn : nextF E s = some e) : FI E n q (burnOne lit s e (leadV E s e)) := by
  obtain ⟨h1, h2, h3, h4, h5, h6⟩ := lead_facts hb hn
  obtain ⟨v, hv⟩ : ∃ v, leadV E s e = v := ⟨_, rfl⟩
  rw [hv] at h3 h4 h5 h6 ⊢
  have hnd : (s.steps ++ [e]).Nodup := by
    rw [List.nodup_append]
    exact ⟨h.nodup, by simp, fun a ha b hb => by rw [List.mem_singleton] at hb; subst hb; exact fun h => h2 (h ▸ ha)⟩
  have hlt : ∀ f ∈ s.steps ++ [e], f < E.length := fun f hf => by
    rcases List.mem_append.1 hf with hf | hf
    · exact h.lt f hf
    · rw [List.mem_singleton] at hf; exact hf ▸ h1
  have hstep : ∀ f ∈ s.steps ++ [e], ∀ u, Inc E f u → u ∉ s.order → u = v ∧ f = e ∨ oth (E.getD f (0, 0)) u ∈ s.order := fun f hf u hi hu => by
    rcases List.mem_append.1 hf with hf | hf
    · exact .inr (h.stend f hf u hi hu)
    · rw [List.mem_singleton] at hf; subst hf
      by_cases e1 : u = v
      · exact .inl ⟨e1, rfl⟩
      · have := inc_oth_ne h3 hi e1
        rw [this] at hu
        exact absurd h5 hu
  have hqm := h.qmem
  unfold burnOne
  split
  · refine { nodup := hnd, lt := hlt, ond := ?_, olt := ?_, root := ?_, tlen := h.tlen, tsub := ?_, tnd := ?_, onum := ?_, sum := ?_, nn := h.nn, cnt := ?_, stend := ?_, cn := ?_, q0 := h.q0, par := ?_, trend := ?_ }
    · rw [List.nodup_append]
      exact ⟨h.ond, by simp, fun a ha b hb => by rw [List.mem_singleton] at hb; subst hb; exact fun h => h4 (h ▸ ha)⟩
    · intro u hu
      rcases List.mem_append.1 hu with hu | hu
      · exact h.olt u hu
      · rw [List.mem_singleton] at hu; exact hu ▸ h6
    · show (s.order ++ [v]).head? = some q
      rw [List.head?_append, h.root]; rfl
    · intro f hf
      rcases List.mem_append.1 hf with hf | hf
      · exact List.mem_append_left _ (h.tsub f hf)
      · exact List.mem_append_right _ hf
    · show (s.tree ++ [e]).Nodup
      rw [List.nodup_append]
      exact ⟨h.tnd, by simp, fun a ha b hb => by rw [List.mem_singleton] at hb; subst hb; exact fun hx => h2 (hx ▸ h.tsub a ha)⟩
    · simp [h.onum]
    · have := h.sum; simp only [List.length_append, List.length_singleton]; omega
    · intro u hu hno
      have hno' : u ∉ s.order ∧ u ≠ v := by simpa [not_or] using hno
      have := h.cnt u hu hno'.1
      rw [List.filter_append, List.length_append]
      have he : incB E u e = false := by
        unfold incB; rw [decide_eq_false_iff_not]
        intro hi
        have := inc_oth_ne h3 hi hno'.2
        rw [this] at hno'
        exact hno'.1 h5
      rw [List.filter_cons, he, if_neg (by decide), List.filter_nil]
      exact this
    · intro f hf u hi hu
      have hu' : u ∉ s.order ∧ u ≠ v := by simpa [not_or] using hu
      rcases hstep f hf u hi hu'.1 with h7 | h7
      · exact absurd h7.1 hu'.2
      · exact List.mem_append_left _ h7
    · intro u hu
      have hsub : ∀ x ∈ s.tree, x ∈ s.tree ++ [e] := fun x hx => List.mem_append_left _ hx
      rcases List.mem_append.1 hu with hu | hu
      · exact cn_sub hsub (h.cn u hu)
      · rw [List.mem_singleton] at hu; subst hu
        exact (cn_sub hsub (h.cn _ h5)).trans (inc_cn (e := e) (by simp) h3).symm
    · intro u hu hne
      rcases List.mem_append.1 hu with hu | hu
      · obtain ⟨f, hf, hi, pre, post, hp, ho⟩ := h.par u hu hne
        exact ⟨f, List.mem_append_left _ hf, hi, pre, post ++ [v], by rw [hp]; simp, ho⟩
      · rw [List.mem_singleton] at hu; subst hu
        exact ⟨e, by simp, h3, s.order, [], rfl, h5⟩
    · intro f hf
      rcases List.mem_append.1 hf with hf | hf
      · exact ⟨List.mem_append_left _ (h.trend f hf).1, List.mem_append_left _ (h.trend f hf).2⟩
      · rw [List.mem_singleton] at hf; subst hf
        rcases inc_cases h3 with ⟨a, b⟩ | ⟨a, b⟩
        · rw [a, b]; exact ⟨by simp, List.mem_append_left _ h5⟩
        · rw [a, b]; exact ⟨List.mem_append_left _ h5, by simp⟩
  · have hvl : v < s.times.length := by rw [h.tlen]; exact h6
    have hget : ∀ u, (s.times.set v (s.times.getD v 0 + 1)).getD u 0 = if u = v then s.times.getD v 0 + 1 else s.times.getD u 0 := fun u => by
      rw [List.getD_eq_getElem?_getD, List.getElem?_set]
      by_cases hu : u = v
      · subst hu; rw [if_pos rfl, if_pos hvl, if_pos rfl]; rfl
      · rw [if_neg (fun e => hu e.symm), if_neg hu, List.getD_eq_getElem?_getD]
    refine { nodup := hnd, lt := hlt, ond := h.ond, olt := h.olt, root := h.root, tlen := by simp [h.tlen], tsub := fun f hf => List.mem_append_left _ (h.tsub f hf), tnd := h.tnd, onum := h.onum, sum := ?_, nn := ?_, cnt := ?_, stend := ?_, cn := h.cn, q0 := ?_, par := h.par, trend := h.trend }
    · have := h.sum
      have h7 := sum_set s.times v (s.times.getD v 0 + 1) hvl
      simp only [List.length_append, List.length_singleton]
      rw [h7]; omega
    · intro u
      show 0 ≤ (s.times.set v (s.times.getD v 0 + 1)).getD u 0
      rw [hget]
      have h7 := h.nn u
      have h8 := h.nn v
      split <;> omega
    · intro u hu hno
      show (s.times.set v (s.times.getD v 0 + 1)).getD u 0 = _
      rw [hget, List.filter_append, List.length_append]
      have := h.cnt u hu hno
      by_cases e1 : u = v
      · subst e1
        have he : incB E u e = true := by unfold incB; rw [decide_eq_true_eq]; exact h3
        rw [if_pos rfl, this, List.filter_cons, he, if_pos rfl, List.filter_nil]; simp
      · have he : incB E u e = false := by
          unfold incB; rw [decide_eq_false_iff_not]
          intro hi
          have := inc_oth_ne h3 hi e1
          rw [this] at hno
          exact hno h5
        rw [if_neg e1, this, List.filter_cons, he, if_neg (by decide), List.filter_nil]; simp
    · intro f hf u hi hu
      rcases hstep f hf u hi hu with ⟨h7, h8⟩ | h7
      · subst h7; subst h8; exact h5
      · exact h7
    · show (s.times.set v (s.times.getD v 0 + 1)).getD q 0 = 0
      rw [hget, if_neg (fun hx : q = v => h4 (hx ▸ hqm)), h.q0]
theorem run_inv {I : FireS → Prop} (hI : ∀ s e, I s → nextF E s = some e → I (burnOne lit s e (leadV E s e))) : ∀ (k : Nat) (s : FireS), I s → I (runF E lit k s)
  | 0, s, h => h
  | k + 1, s, h => by
    rw [runF]
    rcases hn : nextF E s with _ | e
    · have e1 : stepF E lit s = s := by unfold stepF; rw [hn]
      rw [e1]; exact run_inv hI k s h
    · rw [run_next hn]; exact run_inv hI k _ (hI s e h hn)
/-- Behind as many rounds as there are single edges nothing burns any more. -/
theorem run_end (hb : BdP n E) (h : FI E n q s) (hs : s.steps = []) : nextF E (runF E lit E.length s) = none := by
  have key : ∀ k, nextF E (runF E lit k s) = none ∨ (runF E lit k s).steps.length = k := by
    intro k
    induction k with
    | zero => right; simp [runF, hs]
    | succ k ih =>
      rw [runF_succ]
      rcases hn : nextF E (runF E lit k s) with _ | e
      · left; unfold stepF; rw [hn]; exact hn
      · right
        rw [run_next hn, one_steps, List.length_append]
        rcases ih with ih | ih
        · rw [hn] at ih; cases ih
        · simp [ih]
  rcases hn : nextF E (runF E lit E.length s) with _ | e
  · rfl
  · rcases key E.length with h1 | h1
    · rw [hn] at h1; cases h1
    · have hF := run_inv (lit := lit) (I := FI E n q) (fun s e h hn => h.one hb hn) E.length s h
      obtain ⟨h2, h3, _⟩ := lead_facts hb hn
      have h4 := nodup_sub_le (l := e :: (runF E lit E.length s).steps) (m := List.range E.length) (List.nodup_cons.2 ⟨h3, hF.nodup⟩) (fun x hx => List.mem_range.2 (by
        rcases List.mem_cons.1 hx with rfl | hx
        · exact h2
        · exact hF.lt x hx))
      rw [List.length_cons, h1, List.length_range] at h4; omega
/-- What comes later. -/
structure LaterF (s f : FireS) : Prop where
  times : ∀ v, s.times.getD v 0 ≤ f.times.getD v 0
  same : ∀ v ∈ s.order, f.times.getD v 0 = s.times.getD v 0
  order : ∀ v ∈ s.order, v ∈ f.order
  tree : ∀ e ∈ s.tree, e ∈ f.tree
  steps : ∀ e ∈ s.steps, e ∈ f.steps
  dark : ∀ e ∈ s.steps, e ∉ s.tree → e ∉ f.tree
theorem LaterF.refl (s : FireS) : LaterF s s := ⟨fun _ => Int.le_refl _, fun _ _ => rfl, fun _ h => h, fun _ h => h, fun _ h => h, fun _ _ h => h⟩
theorem LaterF.trans {t : FireS} (h : LaterF s f) (h' : LaterF f t) : LaterF s t :=
  ⟨fun v => Int.le_trans (h.times v) (h'.times v), fun v hv => (h'.same v (h.order v hv)).trans (h.same v hv), fun v hv => h'.order v (h.order v hv), fun e he => h'.tree e (h.tree e he), fun e he => h'.steps e (h.steps e he), fun e he hn => h'.dark e (h.steps e he) (h.dark e he hn)⟩
theorem FI.run (hb : BdP n E) (hq : q < n) : FI E n q (runF E lit E.length (fire1 n q)) ∧ nextF E (runF E lit E.length (fire1 n q)) = none :=
  ⟨run_inv (fun _ _ h hn => h.one hb hn) _ _ (.start hq), run_end hb (.start hq) rfl⟩
/-- A list of single edges, ascending. -/
def ascN (m : Nat) (l : List Nat) : List Nat := (List.range m).filter fun e => decide (e ∈ l)
theorem mem_asc {m x : Nat} {l : List Nat} : x ∈ ascN m l ↔ x < m ∧ x ∈ l := by unfold ascN; rw [List.mem_filter, List.mem_range, decide_eq_true_eq]
theorem asc_set (m : Nat) (l : List Nat) : SetN m (ascN m l) := by
  refine ⟨?_, fun e he => (mem_asc.1 he).1⟩
  unfold ascN
  exact (List.pairwise_lt_range (n := m)).sublist List.filter_sublist
theorem setN_ext {m : Nat} {l k : List Nat} (h1 : SetN m l) (h2 : SetN m k) (h : ∀ x, x ∈ l ↔ x ∈ k) : l = k := by
  have hp := perm_of_mem h1.nodup h2.nodup h
  exact hp.eq_of_pairwise (fun a b _ _ h3 h4 => by omega) h1.1 h2.1
theorem asc_perm {m : Nat} {l : List Nat} (hn : l.Nodup) (hl : ∀ e ∈ l, e < m) : (ascN m l).Perm l :=
  perm_of_mem (asc_set m l).nodup hn fun x => ⟨fun h => (mem_asc.1 h).2, fun h => mem_asc.2 ⟨hl x h, h⟩⟩
end
end Go.Proofs.YtnbikkcalcpedaaGreatDoor

