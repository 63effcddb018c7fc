/-
  Texts of this claim, put together: Sort, SrtI, TCycM, CloneI.
-/
import Derived.Test.YtepmfbgmkfkmkaaK14
import Derived.Test.YtepmfbgmkfkmkaaK04
import Derived.Deep.QuietTactic
import Derived.BigQuiet
import Derived.Test.YtepmfbgmkfkmkaaK09
import Derived.Deep.RegionLaw
import Derived.Deep.DeepMust
/-! slices.Sort on at most 12 ints of the call's own: they come out ascending. -/
namespace Go.Proofs.Ytepmfbgmkfkmkaa
open Go.RowKit

set_option maxHeartbeats 400000 in
theorem less_any (x y : Int) (w : World) : Calls Try.prog 103 #[.int .i64 x, .int .i64 y] w fun e w' => e = .returned (.bool (decide (x < y))) ∧ w = w' := by
  by_cases h : x < y
  · have hd : decide (x < y) = true := decide_eq_true h
    rw [hd]
    go_enter Try.func103, Try.ntmps103
    go_wp2
    go_ret
    exact ⟨ret_bool (by simp), rfl⟩
  · have hd : decide (x < y) = false := decide_eq_false h
    rw [hd]
    go_enter Try.func103, Try.ntmps103
    go_wp2
    go_ret
    exact ⟨ret_bool (by simp), rfl⟩

theorem lessq_any (x y : Int) (w : World) : Calls Try.prog 103 #[.int .i64 x, .int .i64 y] w fun e w' => e = .returned (.bool (decide (x < y))) ∧ ∃ m, w' = w.drewN m :=
  (less_any x y w).mono fun _ _ ⟨he, hw⟩ => ⟨he, 0, hw.symm⟩

/-- All pairs up to i are in order, but for those whose second one is j. -/
def Srt (L : List Int) (i j : Nat) : Prop := ∀ p q, p < q → q ≤ i → q ≠ j → ∀ x y, L[p]? = some x → L[q]? = some y → x ≤ y
def swapL (L : List Int) (m : Nat) (a b : Int) : List Int := (L.set (m + 1) a).set m b
theorem swapL_perm {L : List Int} {m : Nat} {a b : Int} (ha : L[m]? = some a) (hb : L[m + 1]? = some b) : (swapL L m a b).Perm L := by
  obtain ⟨l1, e1⟩ := List.getElem?_eq_some_iff.1 ha
  obtain ⟨l2, e2⟩ := List.getElem?_eq_some_iff.1 hb
  have h : ((L.set (m + 1) L[m]).set m L[m + 1]).Perm L := List.set_set_perm l2 l1
  rw [e1, e2] at h
  exact h
theorem swapL_get {L : List Int} {m : Nat} {a b : Int} (h : m + 1 < L.length) (q : Nat) : (swapL L m a b)[q]? = if q = m then some b else if q = m + 1 then some a else L[q]? := by
  unfold swapL
  by_cases h1 : q = m
  · subst h1; rw [if_pos rfl, List.getElem?_set_self (by rw [List.length_set]; omega)]
  · rw [if_neg h1, List.getElem?_set_ne (fun e => h1 e.symm)]
    by_cases h2 : q = m + 1
    · subst h2; rw [if_pos rfl, List.getElem?_set_self h]
    · rw [if_neg h2, List.getElem?_set_ne (fun e => h2 e.symm)]
theorem Srt.swap {L : List Int} {i m : Nat} {a b : Int} (hs : Srt L i (m + 1)) (ha : L[m]? = some a) (hb : L[m + 1]? = some b) (hab : b < a) : Srt (swapL L m a b) i m := by
  have hl : m + 1 < L.length := (List.getElem?_eq_some_iff.1 hb).1
  intro p q hpq hq hqm x y hx hy
  rw [swapL_get hl] at hx hy
  rw [if_neg hqm] at hy
  by_cases h2 : q = m + 1
  · rw [if_pos h2] at hy
    injection hy with hy
    subst hy
    by_cases h3 : p = m
    · rw [if_pos h3] at hx; injection hx with hx; omega
    · rw [if_neg h3, if_neg (by omega)] at hx
      exact hs p m (by omega) (by omega) (by omega) x a hx ha
  · rw [if_neg h2] at hy
    by_cases h3 : p = m
    · rw [if_pos h3] at hx; injection hx with hx; subst hx
      exact hs (m + 1) q (by omega) hq h2 b y hb hy
    · rw [if_neg h3] at hx
      by_cases h4 : p = m + 1
      · rw [if_pos h4] at hx; injection hx with hx; subst hx
        exact hs m q (by omega) hq h2 a y ha hy
      · rw [if_neg h4] at hx
        exact hs p q hpq hq h2 x y hx hy
theorem Srt.done {L : List Int} {i m : Nat} {a b : Int} (hs : Srt L i (m + 1)) (_hi : m + 1 ≤ i) (ha : L[m]? = some a) (hb : L[m + 1]? = some b) (hab : a ≤ b) : Srt L i (i + 1) := by
  intro p q hpq hq _ x y hx hy
  by_cases h2 : q = m + 1
  · subst h2
    rw [hb] at hy; injection hy with hy; subst hy
    by_cases h3 : p = m
    · subst h3; rw [ha] at hx; injection hx with hx; omega
    · have := hs p m (by omega) (by omega) (by omega) x a hx ha; omega
  · exact hs p q hpq hq h2 x y hx hy
theorem Srt.zero {L : List Int} {i : Nat} (hs : Srt L i 0) : Srt L i (i + 1) := fun p q hpq hq _ x y hx hy => hs p q hpq hq (by omega) x y hx hy
theorem Srt.next {L : List Int} {i : Nat} (hs : Srt L i (i + 1)) : Srt L (i + 1) (i + 1) := fun p q hpq hq hne x y hx hy => hs p q hpq (by omega) hne x y hx hy

set_option maxRecDepth 100000 in
set_option maxHeartbeats 2000000 in
theorem insertion_any (A : Option Addr) (c : Nat) (xs : List Int) (h1 : 1 ≤ xs.length) (hn : xs.length ≤ 1048576) (w : World) (base : Nat) (h : OwnI w base A c xs) :
    Calls Try.prog 97 #[.slice A xs.length c, .int .i64 0, .int .i64 xs.length] w fun e w' => e = .returned (.tuple #[]) ∧ ∃ ys, ys.Perm xs ∧ Srt ys (ys.length - 1) ys.length ∧ OwnI w' base A c ys ∧ Below base w w' := by
  obtain ⟨g, hA, hg, hf, hcell⟩ := h.block (by omega)
  subst hA
  clear hf hcell
  go_enter Try.func97, Try.ntmps97
  go_wp2
  go_loopw [6] (fun i wr => ∃ (k : Nat) (L : List Int), i = .int .i64 ((k : Int) + 1) ∧ k + 1 ≤ xs.length ∧ L.length = xs.length ∧ Hid (L.Perm xs) ∧ Hid (Srt L k (k + 1)) ∧ OwnI wr base (some ⟨g, 0, none⟩) c L ∧ Below base w wr) (fun i _ => xs.length - (intOf i).toNat)
  case atStart => exact ⟨0, xs, by go_num, by omega, rfl, List.Perm.refl _, fun p q h1 h2 => by omega, h, Below.refl _ _⟩
  case round =>
    obtain ⟨k, L, rfl, hk, hL, HP, HS, hown, hbel⟩ := hrel
    by_cases hlt : k + 1 < xs.length
    · have hi : (k : Int) + 1 < (xs.length : Int) := by omega
      obtain ⟨wo, rfl⟩ : ∃ wo : World, wo = wr := ⟨_, rfl⟩
      go_wp2
      go_loopw [7] (fun i wr => ∃ (j : Nat) (L : List Int), i = .int .i64 j ∧ j ≤ k + 1 ∧ L.length = xs.length ∧ Hid (L.Perm xs) ∧ Hid (Srt L (k + 1) j) ∧ OwnI wr base (some ⟨g, 0, none⟩) c L ∧ Below base w wr) (fun i _ => (intOf i).toNat)
      case atStart => exact ⟨k + 1, L, by go_num, by omega, hL, HP, HS.out.next, hown, hbel⟩
      case round =>
        clear hL HP HS hown hbel
        obtain ⟨j, L, rfl, hj, hL, HP, HS, hown, hbel⟩ := hrel
        rcases j with _ | m
        · go_wp2
          go_quiet (fail)
          go_wp2
          go_roundw
          case rel => exact ⟨k + 1, L, by go_num, by omega, hL, HP, HS.out.zero, hown.drewN _, below_drewN hbel _⟩
          case measure => simp [intOf]; omega
        · obtain ⟨a, ha⟩ := get_of_lt (xs := L) (k := m) (by omega)
          obtain ⟨b, hb⟩ := get_of_lt (xs := L) (k := m + 1) (by omega)
          obtain ⟨g', hA, _, hfz, hcell⟩ := hown.block (by omega)
          have hgg : g = g' := by injection hA with hA; injection hA
          subst hgg
          have c1 := hcell m a ha
          have c2 := hcell (m + 1) b hb
          have i1 : (m : Int) < (xs.length : Int) := by omega
          have i2 : (m : Int) + 1 < (xs.length : Int) := by omega
          have i3 : (0 : Int) < (m : Int) + 1 := by omega
          have i4 : (0 : Int) ≤ (m : Int) := by omega
          have HA := Lib.hid ha
          have HB := Lib.hid hb
          have HL := Lib.hid (lessq_any b a)
          clear ha hb hA hcell
          by_cases hab : b < a
          · have hd : decide (b < a) = true := decide_eq_true hab
            have HAB := Lib.hid hab
            go_wp2
            go_quiet ((go_at_call 103; exact Calls.quiet_of (HL.out _)))
            go_wp2
            go_region
            all_goals (
              go_wp2
              go_roundw
              case rel => exact ⟨m, swapL L m a b, by go_num, by omega, by simp [swapL]; omega, (swapL_perm HA.out HB.out).trans HP.out, HS.out.swap HA.out HB.out HAB.out, ((hown.drewN _).set rfl (m + 1) a).set rfl m b, ((below_drewN hbel _).setCell (p := ⟨g, m + 1, none⟩) hg _).setCell (p := ⟨g, m, none⟩) hg _⟩
              case measure => simp [intOf])
          · have hd : decide (b < a) = false := decide_eq_false hab
            have HNAB : Hid (a ≤ b) := Lib.hid (by omega)
            clear hab
            go_wp2
            go_quiet ((go_at_call 103; exact Calls.quiet_of (HL.out _)))
            go_wp2
            go_roundw
            case rel => exact ⟨k + 1, L, by go_num, by omega, hL, HP, HS.out.done (by omega) HA.out HB.out HNAB.out, hown.drewN _, below_drewN hbel _⟩
            case measure => simp [intOf]; omega
    · have hi : ¬ (k : Int) + 1 < (xs.length : Int) := by omega
      go_wp2
      go_end0
      have hkk : k = L.length - 1 := by omega
      refine ⟨rfl, L, HP.out, ?_, hown, hbel⟩
      have := HS.out
      rw [show k + 1 = L.length from by omega, hkk] at this
      exact this

set_option maxHeartbeats 1000000 in
theorem pdq_any (A : Option Addr) (c : Nat) (xs : List Int) (lim : Int) (h1 : 1 ≤ xs.length) (hn : xs.length ≤ 12) (w : World) (base : Nat) (h : OwnI w base A c xs) :
    Calls Try.prog 81 #[.slice A xs.length c, .int .i64 0, .int .i64 xs.length, .int .i64 lim] w fun e w' => e = .returned (.tuple #[]) ∧ ∃ ys, ys.Perm xs ∧ Srt ys (ys.length - 1) ys.length ∧ OwnI w' base A c ys ∧ Below base w w' := by
  have HI := Lib.hid (insertion_any A c xs h1 (by omega) w base h)
  have h12 : (xs.length : Int) ≤ 12 := by omega
  go_enter Try.func81, Try.ntmps81
  go_wp2
  go_loopw [1, 2] (fun a b wr => a = .int .i64 0 ∧ b = .int .i64 xs.length ∧ wr = w) (fun _ _ _ => 0)
  case atStart => exact ⟨rfl, rfl, rfl⟩
  case round =>
    obtain ⟨rfl, rfl, rfl⟩ := hrel
    go_wp2_with (go_at_call 97; refine (HI.out).mono ?_; rintro e w1 ⟨rfl, ys, h1, h2, h3, h4⟩)
    refine bodyPost_ret (results_none rfl _ _ _) rfl ?_
    exact ⟨rfl, ys, h1, h2, h3, h4⟩

set_option maxRecDepth 100000 in
theorem bitsLen_any (n : Nat) (hn : n ≤ 12) (w : World) : Calls Try.prog 82 #[.int .u64 n] w fun e w' => (∃ v : Int, e = .returned (.int .i64 v)) ∧ w = w' := by
  have hc : n = 0 ∨ n = 1 ∨ n = 2 ∨ n = 3 ∨ n = 4 ∨ n = 5 ∨ n = 6 ∨ n = 7 ∨ n = 8 ∨ n = 9 ∨ n = 10 ∨ n = 11 ∨ n = 12 := by omega
  rcases hc with rfl | rfl | rfl | rfl | rfl | rfl | rfl | rfl | rfl | rfl | rfl | rfl | rfl
  all_goals (
    go_enter Try.func82, Try.ntmps82
    go_wp2
    go_ret
    exact ⟨⟨_, rfl⟩, rfl⟩)

set_option maxHeartbeats 1000000 in
theorem sort_any (A : Option Addr) (c : Nat) (xs : List Int) (h1 : 1 ≤ xs.length) (hn : xs.length ≤ 12) (w : World) (base : Nat) (h : OwnI w base A c xs) :
    Calls Try.prog 55 #[.slice A xs.length c] w fun e w' => e = .returned (.tuple #[]) ∧ ∃ ys, ys.Perm xs ∧ Srt ys (ys.length - 1) ys.length ∧ OwnI w' base A c ys ∧ Below base w w' := by
  have HB := Lib.hid (bitsLen_any xs.length hn w)
  have HP := Lib.hid (fun lim => pdq_any A c xs lim h1 hn w base h)
  have hw0 : (0 : Int) ≤ (xs.length : Int) := by omega
  have hw1 : (xs.length : Int) < 18446744073709551616 := by omega
  clear h
  go_enter Try.func55, Try.ntmps55
  go_wp2_with first
    | (go_at_call 82; refine (HB.out).mono ?_; rintro e w1 ⟨⟨v, rfl⟩, rfl⟩)
    | (go_at_call 81; refine (HP.out _).mono ?_; rintro e w1 ⟨rfl, ys, h1, h2, h3, h4⟩)
  go_end0
  exact ⟨rfl, ys, h1, h2, h3, h4⟩
end Go.Proofs.Ytepmfbgmkfkmkaa

/-! slices.Sort in the words of sortG. -/
namespace Go.Proofs.Ytepmfbgmkfkmkaa
open Go.RowKit

theorem srt_eq {ys xs : List Int} (hp : ys.Perm xs) (hs : Srt ys (ys.length - 1) ys.length) : ys = sortG ltI xs := by
  refine (sortI_eq hp.symm ?_).symm
  rw [List.pairwise_iff_getElem]
  intro i j hi hj hij
  exact hs i j hij (by omega) (by omega) _ _ (List.getElem?_eq_getElem hi) (List.getElem?_eq_getElem hj)
theorem sortx_any (A : Option Addr) (c : Nat) (xs : List Int) (h1 : 1 ≤ xs.length) (hn : xs.length ≤ 12) (w : World) (base : Nat) (h : OwnI w base A c xs) :
    Calls Try.prog 55 #[.slice A xs.length c] w fun e w' => e = .returned (.tuple #[]) ∧ OwnI w' base A c (sortG ltI xs) ∧ Below base w w' := by
  refine (sort_any A c xs h1 hn w base h).mono ?_
  rintro e w' ⟨rfl, ys, h1, h2, h3, h4⟩
  rw [srt_eq h1 h2] at h3
  exact ⟨rfl, h3, h4⟩
end Go.Proofs.Ytepmfbgmkfkmkaa

/-! Package tree: Cycle, the way and the sorted cycle; Cycle for all arguments. -/
namespace Go.Proofs.Ytepmfbgmkfkmkaa
open Go.RowKit

theorem own_len {w : World} {base : Nat} {A : Option Addr} {c : Nat} {xs : List Int} {n : Nat} (h : OwnI w base A c xs) (hn : xs.length = n) : w.ownsRow base 3 1 (.slice A n c) n (ints xs) := by subst hn; exact h
set_option maxRecDepth 100000 in
set_option maxHeartbeats 8000000 in
theorem tcycle_main (m : Nat) (A : Option Addr) (c : Nat) (es : List E3) (hn : es.length ≤ 10000) (B : Option Addr) (d : Nat) (t : List Nat) (hR : TreeR m es t) (ht : t.length ≤ 11) (x : Nat) (w : World) (h : Reads w w.heap.size 3 A es.length (edgeCells es)) (h' : Reads w w.heap.size 1 B (nI t).length (ints (nI t))) (hj : treeErr m es (nI t) = 0) (hx : x < (endsL es).length) (hi : (x : Int) ∉ nI t) :
    Calls Try.prog 22 #[.agg #[.int .i64 m, .slice A es.length c], .slice B (nI t).length d, .int .i64 x] w fun e w' => ∃ A' c', e = .returned (.tuple #[.slice A' (cycleE m es (nI t) x).1.length c', .int .i64 (cycleE m es (nI t) x).2]) ∧ OwnI w' w.heap.size A' c' (cycleE m es (nI t) x).1 ∧ Below w.heap.size w w' := by
  have hnl := nI_length t
  have hm : (nI t).length ≤ 1048576 := by omega
  have GC := Lib.hid (fun (W : World) (hB : Below w.heap.size w W) => checked_any m A c es hn B d (nI t) hm W ((h.below hB).more hB.size) ((h'.below hB).more hB.size))
  have g0 := Blk.new w 24 #[.int .i64 m, .slice A es.length c]
  have hb0 : Below w.heap.size w (w.alloc (.cells #[.int .i64 m, .slice A es.length c] 24)) := (Below.refl _ _).alloc (Nat.le_refl _) _
  have c0 := g0.cell 0
  have c1 := g0.cell 1
  rw [hj] at GC
  obtain ⟨ab, hab⟩ := get_of_lt hx
  obtain ⟨p, q⟩ := ab
  have hpq := bd_ends hR.hG _ (List.mem_of_getElem? hab)
  have HE : Hid (cycleE m es (nI t) x = (sortG ltI (nI (pathL (endsL es) t p q) ++ [(x : Int)]), 0)) := by
    unfold Hid cycleE
    rw [if_neg (fun hc => hc hj), if_neg (by omega), if_neg hi, toN_nI, Int.toNat_natCast, hab]
  rw [HE.out]
  have CC := Lib.hid (fun (W : World) (hB : Below w.heap.size w W) => contains_any B d (nI t) hm (x : Int) W ((h'.below hB).more hB.size))
  rw [decide_eq_false hi] at CC
  have WC := Lib.hid (fun (Ar : Option Addr) (cr : Nat) (W : World) (hB : Below w.heap.size w W) (hr : Reads W W.heap.size 2 Ar (endsL es).length (pair2 (endsL es))) => way_any m hR.hi p q hpq.1 (endsL es) t hR.hT hR.len (hR.cn hpq.1 hpq.2) Ar cr B d W hr (by rw [← hnl]; exact (h'.below hB).more hB.size))
  have hPl := path_len hR.hT (hR.cn hpq.1 hpq.2)
  obtain ⟨R, hRR⟩ : ∃ R, pathL (endsL es) t p q = R := ⟨_, rfl⟩
  rw [hRR] at WC hPl ⊢
  have hd0 : ¬ (x : Int) < 0 := by omega
  clear hi
  obtain ⟨E, hE⟩ : ∃ E, endsL es = E := ⟨_, rfl⟩
  rw [hE] at GC WC hx hab
  have hRl : (nI R).length = R.length := nI_length R
  have SC : Hid (∀ (A' : Option Addr) (c' : Nat) (W : World), OwnI W w.heap.size A' c' (nI R ++ [(x : Int)]) → Calls Try.prog 55 #[.slice A' (R.length + 1) c'] W fun e w' => e = .returned (.tuple #[]) ∧ OwnI w' w.heap.size A' c' (sortG ltI (nI R ++ [(x : Int)])) ∧ Below w.heap.size W w') := by
    intro A' c' W hO
    have h1 : (nI R ++ [(x : Int)]).length = R.length + 1 := by simp [nI_length]
    have := sortx_any A' c' (nI R ++ [(x : Int)]) (by omega) (by omega) W w.heap.size hO
    rw [h1] at this
    exact this
  have hSl : Hid ((sortG ltI (nI R ++ [(x : Int)])).length = R.length + 1) := by
    unfold Hid
    rw [(sortG_perm _).length_eq]; simp [nI_length]
  obtain ⟨Z, hZ⟩ : ∃ Z, sortG ltI (nI R ++ [(x : Int)]) = Z := ⟨_, rfl⟩
  rw [hZ] at SC hSl ⊢
  have HRl := Lib.hid hRl
  have HX := Lib.hid hab
  have HPl := Lib.hid hPl
  have Hxl := Lib.hid hx
  rw [hnl] at GC CC h' ⊢
  clear hj hR hE HE hZ hRR hpq hRl hab hPl hx hnl hm h h'
  go_enter Try.func22, Try.ntmps22
  go_wp2_with fail
  refine (GC.out _ hb0).mono ?_
  rintro e w1 ⟨Ar, lr, cr, rfl, hg1, _, hb1⟩
  obtain ⟨rfl, HQ⟩ := hg1 rfl
  have HQ : Hid (OwnQ w1 w.heap.size Ar cr E) := own_rebase2 HQ hb0.size
  have hd : ¬ (E.length : Int) ≤ (x : Int) := by have := Hxl.out; omega
  have B1 := Lib.hid (hb0.trans (hb1.mono hb0.size))
  clear hb1 hb0 g0 c0 c1 GC
  go_wp2_with fail
  refine (CC.out _ B1.out).mono ?_
  rintro e w2 ⟨rfl, rfl⟩
  obtain ⟨bA, oA, hA, hbA, q0, q1⟩ := (HQ.out.reads).pairAt HX.out
  subst hA
  have hx0 : (0 : Int) ≤ (x : Int) := by omega
  have hx1 : (x : Int) < (E.length : Int) := by have := Hxl.out; omega
  have hx2 : x < E.length := Hxl.out
  have WC1 := Lib.hid (WC.out (some ⟨bA, oA, none⟩) cr w1.drew (by exact below_drewN B1.out 1) (by exact OwnQ.reads HQ.out))
  have HR2 : Hid (∀ o, Reads (w1.alloc o) (w1.alloc o).heap.size 2 (some ⟨bA, oA, none⟩) E.length (pair2 E)) := fun o => (OwnQ.reads (HQ.out)).next ((Below.refl _ _).alloc (Nat.le_refl _) o)
  have WC2 := Lib.hid (fun o => WC.out (some ⟨bA, oA, none⟩) cr (w1.alloc o).drew (by exact below_drewN (B1.out.alloc B1.out.size o) 1) (by exact HR2.out o))
  have q0a : ∀ o, (w1.alloc o).cell? ⟨bA, oA + x * 2, none⟩ = some (.int .i64 (p : Int)) := fun o => (World.cell?_alloc_lt w1 o _ hbA).trans q0
  have q1a : ∀ o, (w1.alloc o).cell? ⟨bA, oA + x * 2 + 1, none⟩ = some (.int .i64 (q : Int)) := fun o => (World.cell?_alloc_lt w1 o _ hbA).trans q1
  clear WC CC
  go_wp2_with fail
  have hRi := ints_one (xs := nI R)
  have hx9 : ∀ u ∈ [Value.int .i64 (x : Int)], u.oneCell' = true := by simp [Value.oneCell']
  have hR11 : R.length + 1 ≤ 1048576 := by have := HPl.out; omega
  have hbs := B1.out.size
  have B00 : Hid (Below w.heap.size w (w1.alloc (.cells #[.int .i64 (x : Int)] 3)).drew) := below_drewN (B1.out.alloc hbs (.cells #[.int .i64 (x : Int)] 3)) 1
  have RB0 : Hid (∀ W, Below (w1.alloc (.cells #[.int .i64 (x : Int)] 3)).drew.heap.size (w1.alloc (.cells #[.int .i64 (x : Int)] 3)).drew W → Reads W (w1.alloc (.cells #[.int .i64 (x : Int)] 3)).drew.heap.size 1 (some ⟨w1.heap.size, 0, none⟩) 1 [.int .i64 (x : Int)]) := by
    intro W hW
    refine Reads.below ?_ hW
    exact ((Reads.box w1 (.int .i64 (x : Int)) 3).more (by show w1.heap.size + 1 ≤ (w1.alloc (.cells #[.int .i64 (x : Int)] 3)).heap.size; simp))
  go_region_law (first
    | (go_simp; go_at_call 53; (with_reducible refine (WC1.out).mono ?_); rintro e w4 ⟨A4, c4, rfl, o4, hb4⟩
       have o5 := (o4.mono hbs).alloc (.cells #[.int .i64 (x : Int)] 3)
       have o5 := own_len o5 HRl.out
       have B4 := (below_drewN B1.out 1).trans (hb4.mono hbs)
       have B5 := (below_drewN B1.out 1).trans ((hb4.mono hbs).trans ((Below.refl _ _).alloc (Nat.le_refl _) (.cells #[.int .i64 (x : Int)] 3) |>.mono B4.size))
       have rb := Reads.box w4 (.int .i64 (x : Int)) 3
       have hz := B5.size)
    | (go_simp; go_at_call 53; (with_reducible refine (WC2.out _).mono ?_); rintro e w4 ⟨A4, c4, rfl, o4, hb4⟩
       have B0 := B00.out
       have o5 := o4.mono B0.size
       have o5 := own_len o5 HRl.out
       have B5 := B0.trans (hb4.mono B0.size)
       have rb := RB0.out _ hb4
       have hz := B5.size)
    | (refine append_step2 rfl (.tmp 46) (.tmp 48) _ _ rfl w.heap.size 3 3 Try.underlying25 Try.underlying25 info_int rfl (by omega) A4 c4 R.length (ints (nI R)) rfl o5 _ [.int .i64 (x : Int)] rfl rb hx9 hR11 hz ?_
       intro A6 c6 w6 own6 _ b6 _
       have B6 := B5.trans b6))
  all_goals (
    have O6 : Hid (OwnI w6 w.heap.size A6 c6 (nI R ++ [(x : Int)])) := by
      unfold Hid OwnI
      rw [List.length_append, HRl.out, ints_snoc]
      exact own6
    have S6 := Lib.hid (SC.out A6 c6 w6 O6.out)
    have B6 := Lib.hid B6
    clear own6 O6 rb o5 hz hb4 o4 B5
    go_wp2_with fail
    refine (S6.out).mono ?_
    rintro e w7 ⟨rfl, o7, b7⟩
    go_wp2
    go_ret2
    exact ⟨A6, c6, by rw [hSl.out]; rfl, o7, B6.out.trans b7⟩)

theorem tcycle_any (n : Int) (A : Option Addr) (c : Nat) (es : List E3) (hn : es.length ≤ 10000) (B : Option Addr) (d : Nat) (xs : List Int) (hm : xs.length ≤ 11) (x : Int) (w : World) (h : Reads w w.heap.size 3 A es.length (edgeCells es)) (h' : Reads w w.heap.size 1 B xs.length (ints xs)) :
    Calls Try.prog 22 #[.agg #[.int .i64 n, .slice A es.length c], .slice B xs.length d, .int .i64 x] w fun e w' => ∃ A' c', e = .returned (.tuple #[.slice A' (cycleE n es xs x).1.length c', .int .i64 (cycleE n es xs x).2]) ∧ OwnI w' w.heap.size A' c' (cycleE n es xs x).1 ∧ Below w.heap.size w w' := by
  have hm' : xs.length ≤ 1048576 := by omega
  by_cases hj : treeErr n es xs = 0
  · by_cases h0 : x < 0
    · exact tcycle_neg n A c es hn B d xs hm' x w h h' hj h0
    · by_cases h1 : ((endsL es).length : Int) ≤ x
      · exact tcycle_big n A c es hn B d xs hm' x w h h' hj (by omega) h1
      · by_cases hi : x ∈ xs
        · exact tcycle_in n A c es hn B d xs hm' x w h h' hj (by omega) (by omega) hi
        · obtain ⟨m, t, rfl, rfl, hR⟩ := treeR_of hj
          obtain ⟨k, rfl⟩ := Int.eq_ofNat_of_zero_le (show 0 ≤ x by omega)
          exact tcycle_main m A c es hn B d t hR (by rw [nI_length] at hm; exact hm) k w h h' hj (by omega) hi
  · exact tcycle_err n A c es hn B d xs hm' x w h h' hj
end Go.Proofs.Ytepmfbgmkfkmkaa

/-! slices.Clone on ints. -/
namespace Go.Proofs.Ytepmfbgmkfkmkaa
open Go.RowKit

set_option maxHeartbeats 400000 in
/-- slices.Clone on ints. -/
theorem clone_any (A : Option Addr) (c : Nat) (xs : List Int) (hn : xs.length ≤ 1048000) (w : World) (h : Reads w w.heap.size 1 A xs.length (ints xs)) :
    Calls Try.prog 29 #[.slice A xs.length c] w fun e w' =>
      ∃ A' c', e = .returned (.slice A' xs.length c') ∧ OwnI w' w.heap.size A' c' xs ∧ Below w.heap.size w w' := by
  have q22 : ∀ (w : World) (a : Option Addr) (n c n' c' : Nat), (binOp .eql 25 (.slice a n c) (.slice none n' c')).run Try.prog w = .ok (.bool a.isNone) w := fun w a n c n' c' => Lib.run_eql_slice_nil w _ _ a n c n' c' Try.underlying25
  rcases A with _ | ad
  · have hx : xs = [] := by
      rcases xs with _ | ⟨x, xs⟩
      · rfl
      · obtain ⟨_, _, h, _⟩ := h.2 (by simp)
        cases h
    subst hx
    go_enter Try.func29, Try.ntmps29
    go_wp2
    go_ret
    exact ⟨none, 0, rfl, OwnI.nil_ _ _, Below.refl _ _⟩
  · go_enter Try.func29, Try.ntmps29
    have hown0 : (w.alloc (.cells #[] 3)).ownsRow w.heap.size 3 1 (.slice (some ⟨w.heap.size, 0, none⟩) 0 0) 0 [] := World.ownsRow_made w #[] 0 (Nat.le_refl _) (by simp [maxLen]) (by simp)
    have hr := h.alloc (Nat.le_refl _) (.cells #[] 3)
    go_wp2_with (at_builtin; refine append_go rfl (.tmp 5) (.tmp 6) _ rfl w.heap.size 3 Try.underlying25 info_int rfl (by omega) (some ⟨w.heap.size, 0, none⟩) 0 0 [] rfl hown0 w.heap.size (ints xs) rfl hr (by simp [ints, Value.oneCell']) (by omega) (by simp) ?_; intro A' c' w' hown' _ hb' _)
    go_ret
    refine ⟨A', c', rfl, ?_, ((Below.refl _ _).alloc (Nat.le_refl _) _).trans hb'⟩
    rw [Nat.zero_add, List.nil_append] at hown'
    exact hown'

end Go.Proofs.Ytepmfbgmkfkmkaa

