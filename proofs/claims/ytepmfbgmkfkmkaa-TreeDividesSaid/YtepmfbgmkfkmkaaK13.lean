/-
  Texts of this claim, put together: Way, Graph2.
-/
import Derived.Test.YtepmfbgmkfkmkaaK11
import Derived.Test.YtepmfbgmkfkmkaaK12
import Derived.Laws.EntriesVeiled
import Derived.Test.YtepmfbgmkfkmkaaK06
/-! Package tree: way, a search in depth by a closure that calls itself. -/
namespace Go.Proofs.Ytepmfbgmkfkmkaa
open Go.RowKit

abbrev wayF (bb bt be bf : Nat) : Value := .func (.func 80) #[] #[.pointer (some ⟨bb, 0, none⟩), .pointer (some ⟨bt, 0, none⟩), .pointer (some ⟨be, 0, none⟩), .pointer (some ⟨bf, 0, none⟩)]
/-- What the closure has captured. -/
structure WayW (W : World) (b : Nat) (E : List (Nat × Nat)) (t : List Nat) (Ar : Option Addr) (cr : Nat) (B : Option Addr) (d bb bt be bf base : Nat) : Prop where
  h1 : Blk W bb 3 #[.int .i64 b]
  h2 : Blk W bt 25 #[.slice B t.length d]
  h3 : Blk W be 45 #[.slice Ar E.length cr]
  h4 : Blk W bf 95 #[wayF bb bt be bf]
  r1 : Reads W base 2 Ar E.length (pair2 E)
  r2 : Reads W base 1 B t.length (ints (nI t))
  lo : base ≤ W.heap.size
theorem WayW.next {W W' : World} {b : Nat} {E : List (Nat × Nat)} {t : List Nat} {Ar : Option Addr} {cr : Nat} {B : Option Addr} {d bb bt be bf base : Nat} (h : WayW W b E t Ar cr B d bb bt be bf base) (hb : Below W.heap.size W W') : WayW W' b E t Ar cr B d bb bt be bf base :=
  ⟨h.h1.next hb, h.h2.next hb, h.h3.next hb, h.h4.next hb, h.r1.keep fun p hp => hb.cell (by have := h.lo; omega), h.r2.keep fun p hp => hb.cell (by have := h.lo; omega), Nat.le_trans h.lo hb.size⟩
/-- Where one comes from, as an int. -/
def fromI : Option Nat → Int
  | none => -1
  | some f => f
/-- What the search answers. -/
def dfsB (E : List (Nat × Nat)) (t : List Nat) (b v : Nat) (o : Option Nat) : Bool := decide (Cn (pk E (lessO t o)) v b)
def dfsR (E : List (Nat × Nat)) (t : List Nat) (b v : Nat) (o : Option Nat) : List Nat := if dfsB E t b v o then pathL E t v b else []
theorem dfs_self (E : List (Nat × Nat)) (t : List Nat) (b : Nat) (o : Option Nat) : dfsB E t b b o = true ∧ dfsR E t b b o = [] := by
  have h : dfsB E t b b o = true := decide_eq_true .refl
  refine ⟨h, ?_⟩
  unfold dfsR; rw [if_pos h, pathL_self]

set_option maxRecDepth 100000 in
set_option maxHeartbeats 8000000 in
theorem walk_any (n : Nat) (hn : n ≤ 12) (b : Nat) (E : List (Nat × Nat)) (t : List Nat) (hT : FoE n E t) (htl : t.length ≤ 12) (Ar : Option Addr) (cr : Nat) (B : Option Addr) (d bb bt be bf base : Nat) :
    ∀ (k v : Nat) (o : Option Nat), v < n → FromOk E t v o → cmpN E t v o ≤ k → ∀ W, WayW W b E t Ar cr B d bb bt be bf base →
    Calls Try.prog 80 #[.int .i64 v, .int .i64 (fromI o), .pointer (some ⟨bb, 0, none⟩), .pointer (some ⟨bt, 0, none⟩), .pointer (some ⟨be, 0, none⟩), .pointer (some ⟨bf, 0, none⟩)] W fun e W' =>
      ∃ A' c', e = .returned (.tuple #[.slice A' (dfsR E t b v o).length c', .bool (dfsB E t b v o)]) ∧ OwnI W' W.heap.size A' c' (nI (dfsR E t b v o)) ∧ Below W.heap.size W W' := by
  have eg := enters_of (P := Try.prog) Try.func80 (by kernel_rfl) rfl
  intro k
  induction k using Nat.strongRecOn with
  | _ k ih =>
  intro v o hv ho hk W hW
  have HT := Lib.hid hT
  have HO := Lib.hid ho
  have IH : Hid (∀ (e : Nat), e ∈ t → Inc E e v → o ≠ some e → ∀ W', WayW W' b E t Ar cr B d bb bt be bf base → Calls Try.prog 80 #[.int .i64 ((oth (E.getD e (0, 0)) v : Nat) : Int), .int .i64 e, .pointer (some ⟨bb, 0, none⟩), .pointer (some ⟨bt, 0, none⟩), .pointer (some ⟨be, 0, none⟩), .pointer (some ⟨bf, 0, none⟩)] W' fun e' W'' =>
      ∃ A' c', e' = .returned (.tuple #[.slice A' (dfsR E t b (oth (E.getD e (0, 0)) v) (some e)).length c', .bool (dfsB E t b (oth (E.getD e (0, 0)) v) (some e))]) ∧ OwnI W'' W'.heap.size A' c' (nI (dfsR E t b (oth (E.getD e (0, 0)) v) (some e))) ∧ Below W'.heap.size W' W'') := by
    intro e he hi hne W' hW'
    have hlt := cmp_less hT ho he hi hne
    have hwn : oth (E.getD e (0, 0)) v < n := (inc_cn he hi).lt (bd_pk hT.bd hT.lt) hv
    exact ih (cmpN E t (oth (E.getD e (0, 0)) v) (some e)) (by omega) _ (some e) hwn (fun f hf => by injection hf with hf; subst hf; exact ⟨he, (inc_oth hi).1⟩) (Nat.le_refl _) W' hW'
  clear ih ho hk
  have HW := Lib.hid hW
  by_cases hvb : v = b
  · obtain ⟨s1, s2⟩ := dfs_self E t b o
    rw [hvb]
    rw [s1, s2]
    have a0 := hW.h1.cell 0
    have hq : ((b : Int) == (b : Int)) = true := by simp
    clear hvb s1 s2 hT IH hW
    go_enter Try.func80, Try.ntmps80
    go_wp2
    go_ret2
    exact ⟨none, 0, rfl, OwnI.nil_ _ _, Below.refl _ _⟩
  · have HVB := Lib.hid hvb
    have hq : ((v : Int) == (b : Int)) = false := by simp; omega
    obtain ⟨R, hR⟩ : ∃ R, dfsR E t b v o = R := ⟨_, rfl⟩
    obtain ⟨S, hS⟩ : ∃ S, dfsB E t b v o = S := ⟨_, rfl⟩
    rw [hR, hS]
    have HR := Lib.hid hR
    have HS := Lib.hid hS
    have a0 := hW.h1.cell 0
    have b0 := hW.h2.cell 0
    clear hvb hR hS hT hW
    go_enter Try.func80, Try.ntmps80
    go_wp2_with fail
    go_loopw [11, 12, 13, 14, 20] (fun _ _ _ _ i wr => ∃ j : Nat, j ≤ t.length ∧ i = .int .i64 j ∧ Hid (∀ e ∈ t.take j, Inc E e v → o ≠ some e → ¬ Cn (pk E (lessL t e)) (oth (E.getD e (0, 0)) v) b) ∧ Hid (Below W.heap.size W wr)) (fun _ _ _ _ i _ => t.length - (intOf i).toNat)
    case atStart => exact ⟨0, by omega, rfl, by simp [Hid], Below.refl _ _⟩
    case round =>
      obtain ⟨j, hj, rfl, HN, HB⟩ := hrel
      have hwz := HB.out.size
      have HW1 := HW.out.next HB.out
      by_cases hlt : j < t.length
      · obtain ⟨e, hx⟩ := get_of_lt hlt
        have he := List.mem_of_getElem? hx
        have hel := HT.out.lt e he
        have hab := getD_bd HT.out.bd hel
        obtain ⟨bB, oB, hB, hbB, hcell⟩ := HW1.r2.at_ (ints_at (nI_at hx))
        subst hB
        obtain ⟨bA, oA, hA, hbA, q0, q1⟩ := HW1.r1.pairAt (getD_some hel)
        subst hA
        have e0 := HW1.h3.cell 0
        have f0 := HW1.h4.cell 0
        have hi : (j : Int) < (t.length : Int) := by omega
        have hie : (e : Int) < (E.length : Int) := by omega
        have htk := take_snoc hx
        obtain ⟨⟨x, y⟩, hp⟩ : ∃ p, E.getD e (0, 0) = p := ⟨_, rfl⟩
        rw [hp] at q0 q1 hab
        dsimp only at q0 q1 hab
        have HP := Lib.hid hp
        have HE := Lib.hid he
        have HB2 := Lib.hid (HB.out.alloc hwz (.cells #[.int .i64 x, .int .i64 y] 31))
        have HW2 := Lib.hid (HW1.next ((Below.refl _ _).alloc (Nat.le_refl _) (.cells #[.int .i64 x, .int .i64 y] 31)))
        have f2 := HW2.out.h4.cell 0
        have p2 := Blk.new wr 31 #[.int .i64 x, .int .i64 y]
        have p0 := p2.cell 0
        have p1 := p2.cell 1
        -- when the single edge is passed by
        have skip : (Inc E e v → o ≠ some e → ¬ Cn (pk E (lessL t e)) (oth (E.getD e (0, 0)) v) b) → Hid (∀ x ∈ t.take (j + 1), Inc E x v → o ≠ some x → ¬ Cn (pk E (lessL t x)) (oth (E.getD x (0, 0)) v) b) := by
          intro h x hx'
          rw [htk] at hx'
          rcases List.mem_append.1 hx' with hx' | hx'
          · exact HN.out x hx'
          · rw [List.mem_singleton] at hx'
            subst hx'
            exact h
        by_cases hfr : o = some e
        · have hfi : fromI o = (e : Int) := by rw [hfr]; rfl
          have hqe : ((e : Int) == fromI o) = true := by rw [hfi]; simp
          have HN2 := skip fun _ h => absurd hfr h
          clear hx htk hfr hfi he HW1 hp skip p2
          go_wp2
          go_roundw
          case rel => exact ⟨j + 1, by omega, by go_num, HN2, HB2⟩
          case measure => simp [intOf]; omega
        · have hqe : ((e : Int) == fromI o) = false := by
            cases o with
            | none => unfold fromI; simp only [beq_eq_false_iff_ne, ne_eq]; omega
            | some f =>
              have : f ≠ e := fun h => hfr (by rw [h])
              unfold fromI; simp only [beq_eq_false_iff_ne, ne_eq]; omega
          by_cases hxy : x ≠ v ∧ y ≠ v
          · have n1 : ((x : Int) != (v : Int)) = true := by rw [bne_iff_ne]; omega
            have n2 : ((y : Int) != (v : Int)) = true := by rw [bne_iff_ne]; omega
            have HN2 := skip fun h _ => by
              unfold Inc at h
              rw [hp] at h
              dsimp only at h
              exact absurd h (by omega)
            clear hx htk hfr he HW1 hp skip p2 hxy
            go_wp2
            go_roundw
            case rel => exact ⟨j + 1, by omega, by go_num, HN2, HB2⟩
            case measure => simp [intOf]; omega
          · have hinc : Inc E e v := by unfold Inc; rw [hp]; dsimp only; omega
            have IC := IH.out e he hinc hfr _ HW2.out
            have hsum := inc_sum hinc
            obtain ⟨u, hu⟩ : ∃ u, oth (E.getD e (0, 0)) v = u := ⟨_, rfl⟩
            have hyes : dfsB E t b u (some e) = true → S = true ∧ R = e :: dfsR E t b u (some e) := by
              intro h
              have hc : Cn (pk E (lessL t e)) u b := of_decide_eq_true h
              rw [← hu] at hc
              obtain ⟨y1, y2⟩ := dfs_yes HT.out HO.out he hinc hfr hc
              have hS1 : dfsB E t b v o = true := decide_eq_true y1
              refine ⟨by rw [← HS.out]; exact hS1, ?_⟩
              rw [← HR.out]
              unfold dfsR
              rw [if_pos hS1, if_pos h, y2, hu]
            have hno : dfsB E t b u (some e) = false → Hid (∀ x ∈ t.take (j + 1), Inc E x v → o ≠ some x → ¬ Cn (pk E (lessL t x)) (oth (E.getD x (0, 0)) v) b) := fun h => skip fun _ _ => by rw [hu]; exact of_decide_eq_false h
            rw [hp] at hsum
            dsimp only at hsum
            rw [hu] at IC
            rw [← hp, hu] at hsum
            have w1 : IntKind.i64.wrap ((x : Int) + (y : Int)) = (x : Int) + (y : Int) := IntWalk.i64_in _ (by omega)
            have w2 : IntKind.i64.wrap ((x : Int) + (y : Int) - (v : Int)) = (u : Int) := by rw [IntWalk.i64_in _ (by omega)]; omega
            have HYES := Lib.hid hyes
            have HNO := Lib.hid hno
            have hl12 : (dfsR E t b u (some e)).length ≤ 12 := by
              unfold dfsR
              split
              · rename_i hd
                have hc : Cn (pk E (lessL t e)) u b := of_decide_eq_true hd
                exact Nat.le_trans (path_len HT.out (cn_less hc)) htl
              · simp
            obtain ⟨S', hS'⟩ : ∃ S', dfsB E t b u (some e) = S' := ⟨_, rfl⟩
            obtain ⟨R', hR'⟩ : ∃ R', dfsR E t b u (some e) = R' := ⟨_, rfl⟩
            rw [hS', hR'] at IC HYES
            rw [hS'] at HNO
            rw [hR'] at hl12
            have IC := Lib.hid IC
            have hn1 : ((x : Int) != (v : Int)) = false ∨ (((x : Int) != (v : Int)) = true ∧ ((y : Int) != (v : Int)) = false) := by
              by_cases hxv : x = v
              · exact .inl (by simp [hxv])
              · refine .inr ⟨by rw [bne_iff_ne]; omega, ?_⟩
                have : y = v := by omega
                simp [this]
            clear hx htk hfr he HW1 hp skip p2 hxy hinc hsum hyes hno hS' hR' hu
            cases S'
            · have HN2 := HNO.out rfl
              rcases hn1 with n1 | ⟨n1, n2⟩
              · go_wp2_with fail
                refine (IC.out).mono ?_
                rintro e' w6 ⟨A3, c3, rfl, o3, hb3⟩
                have HB3 := Lib.hid (HB2.out.trans (hb3.mono HB2.out.size))
                go_wp2
                go_roundw
                case rel => exact ⟨j + 1, by omega, by go_num, HN2, HB3⟩
                case measure => simp [intOf]; omega
              · go_wp2_with fail
                refine (IC.out).mono ?_
                rintro e' w6 ⟨A3, c3, rfl, o3, hb3⟩
                have HB3 := Lib.hid (HB2.out.trans (hb3.mono HB2.out.size))
                go_wp2
                go_roundw
                case rel => exact ⟨j + 1, by omega, by go_num, HN2, HB3⟩
                case measure => simp [intOf]; omega
            · obtain ⟨rfl, hRR⟩ := HYES.out rfl
              have HRR := Lib.hid hRR
              clear hRR
              rcases hn1 with n1 | ⟨n1, n2⟩
              · go_wp2_with fail
                refine (IC.out).mono ?_
                rintro e' w6 ⟨A3, c3, rfl, o3, hb3⟩
                have HB3 := HB2.out.trans (hb3.mono HB2.out.size)
                have hs6 := HB3.size
                have r3 := o3.reads
                rw [nI_length] at r3
                have r4 := Lib.hid (r3.alloc (Nat.le_refl _) (.cells #[.int .i64 e] 3))
                have o4 : Hid ((w6.alloc (.cells #[.int .i64 e] 3)).ownsRow W.heap.size 3 1 (.slice (some ⟨w6.heap.size, 0, none⟩) 1 1) 1 [.int .i64 (e : Int)]) := OwnI.of_blk (l := [(e : Int)]) (Blk.new w6 3 (intCells [(e : Int)])) hs6 (by simp [maxLen])
                have hone : ∀ u ∈ ints (nI R'), u.oneCell' = true := ints_one
                have hs7 : W.heap.size ≤ (w6.alloc (.cells #[.int .i64 e] 3)).heap.size := by simp; omega
                have HB4 := Lib.hid (HB3.alloc hs6 (.cells #[.int .i64 e] 3))
                clear o3 r3
                go_wp2_with (at_builtin; refine append_go rfl (.tmp 58) (.tmp 59) _ rfl W.heap.size 3 Try.underlying25 info_int rfl (by omega) (some ⟨w6.heap.size, 0, none⟩) 1 1 [.int .i64 (e : Int)] rfl o4.out _ (ints (nI R')) rfl r4.out hone (by omega) hs7 ?_; intro A4 c4 w7 hown7 hg7 hb7 _)
                go_ret2
                refine ⟨A4, c4, ?_, ?_, HB4.out.trans hb7⟩
                · rw [HRR.out, List.length_cons, Nat.add_comm]; rfl
                · rw [HRR.out]
                  unfold OwnI
                  have e1 : (nI (e :: R')).length = 1 + R'.length := by rw [nI_length, List.length_cons, Nat.add_comm]
                  rw [e1]
                  exact hown7
              · go_wp2_with fail
                refine (IC.out).mono ?_
                rintro e' w6 ⟨A3, c3, rfl, o3, hb3⟩
                have HB3 := HB2.out.trans (hb3.mono HB2.out.size)
                have hs6 := HB3.size
                have r3 := o3.reads
                rw [nI_length] at r3
                have r4 := Lib.hid (r3.alloc (Nat.le_refl _) (.cells #[.int .i64 e] 3))
                have o4 : Hid ((w6.alloc (.cells #[.int .i64 e] 3)).ownsRow W.heap.size 3 1 (.slice (some ⟨w6.heap.size, 0, none⟩) 1 1) 1 [.int .i64 (e : Int)]) := OwnI.of_blk (l := [(e : Int)]) (Blk.new w6 3 (intCells [(e : Int)])) hs6 (by simp [maxLen])
                have hone : ∀ u ∈ ints (nI R'), u.oneCell' = true := ints_one
                have hs7 : W.heap.size ≤ (w6.alloc (.cells #[.int .i64 e] 3)).heap.size := by simp; omega
                have HB4 := Lib.hid (HB3.alloc hs6 (.cells #[.int .i64 e] 3))
                clear o3 r3
                go_wp2_with (at_builtin; refine append_go rfl (.tmp 58) (.tmp 59) _ rfl W.heap.size 3 Try.underlying25 info_int rfl (by omega) (some ⟨w6.heap.size, 0, none⟩) 1 1 [.int .i64 (e : Int)] rfl o4.out _ (ints (nI R')) rfl r4.out hone (by omega) hs7 ?_; intro A4 c4 w7 hown7 hg7 hb7 _)
                go_ret2
                refine ⟨A4, c4, ?_, ?_, HB4.out.trans hb7⟩
                · rw [HRR.out, List.length_cons, Nat.add_comm]; rfl
                · rw [HRR.out]
                  unfold OwnI
                  have e1 : (nI (e :: R')).length = 1 + R'.length := by rw [nI_length, List.length_cons, Nat.add_comm]
                  rw [e1]
                  exact hown7
      · obtain rfl : j = t.length := by omega
        have hno : ¬ Cn (pk E (lessO t o)) v b := dfs_no HT.out HVB.out (by have := HN.out; rwa [List.take_length] at this)
        have hS0 : S = false := by rw [← HS.out]; exact decide_eq_false hno
        have hR0 : R = [] := by
          rw [← HR.out]; unfold dfsR
          rw [show dfsB E t b v o = false from decide_eq_false hno]; rfl
        subst hS0 hR0
        clear hno
        go_wp2
        go_ret2
        exact ⟨none, 0, rfl, OwnI.nil_ _ _, HB.out⟩

set_option maxRecDepth 100000 in
set_option maxHeartbeats 4000000 in
theorem way_any (n : Nat) (hn : n ≤ 12) (a b : Nat) (ha : a < n) (E : List (Nat × Nat)) (t : List Nat) (hT : FoE n E t) (htl : t.length ≤ 12) (hc : Cn (pk E t) a b) (Ar : Option Addr) (cr : Nat) (B : Option Addr) (d : Nat) (w : World)
    (h : Reads w w.heap.size 2 Ar E.length (pair2 E)) (h' : Reads w w.heap.size 1 B t.length (ints (nI t))) :
    Calls Try.prog 53 #[.slice Ar E.length cr, .slice B t.length d, .int .i64 a, .int .i64 b] w fun e w' => ∃ A' c', e = .returned (.slice A' (pathL E t a b).length c') ∧ OwnI w' w.heap.size A' c' (nI (pathL E t a b)) ∧ Below w.heap.size w w' := by
  have eg := enters_of (P := Try.prog) Try.func80 (by kernel_rfl) rfl
  have hmf : ∀ (fn : Fn) (first cap : Array Value) (w : World), (Instr.makeFunc fn first cap).run Try.prog w = .ok (.func fn first cap) w := fun _ _ _ _ => rfl
  have hS : dfsB E t b a none = true := decide_eq_true hc
  have hR : dfsR E t b a none = pathL E t a b := by unfold dfsR; rw [if_pos hS]
  obtain ⟨W0, hW0⟩ : ∃ W0, (((w.alloc (.cells #[.slice Ar E.length cr] 45)).alloc (.cells #[.slice B t.length d] 25)).alloc (.cells #[.int .i64 b] 3)).alloc (.cells #[wayF (w.heap.size + 1 + 1) (w.heap.size + 1) w.heap.size (w.heap.size + 1 + 1 + 1)] 95) = W0 := ⟨_, rfl⟩
  have hB0 : Below w.heap.size w W0 := by
    rw [← hW0]
    exact ((((Below.refl _ _).alloc (Nat.le_refl _) _).alloc (by simp) _).alloc (by simp; omega) _).alloc (by simp; omega) _
  have hWW : WayW W0 b E t Ar cr B d (w.heap.size + 1 + 1) (w.heap.size + 1) w.heap.size (w.heap.size + 1 + 1 + 1) w.heap.size := by
    refine ⟨?_, ?_, ?_, ?_, h.below hB0, h'.below hB0, hB0.size⟩
    · rw [← hW0]
      have := Blk.new ((w.alloc (.cells #[.slice Ar E.length cr] 45)).alloc (.cells #[.slice B t.length d] 25)) 3 #[.int .i64 b]
      rw [show ((w.alloc (.cells #[.slice Ar E.length cr] 45)).alloc (.cells #[.slice B t.length d] 25)).heap.size = w.heap.size + 1 + 1 from by simp] at this
      exact this.alloc _
    · rw [← hW0]
      have := Blk.new (w.alloc (.cells #[.slice Ar E.length cr] 45)) 25 #[.slice B t.length d]
      rw [show (w.alloc (.cells #[.slice Ar E.length cr] 45)).heap.size = w.heap.size + 1 from by simp] at this
      exact (this.alloc _).alloc _
    · rw [← hW0]
      exact (((Blk.new w 45 #[.slice Ar E.length cr]).alloc _).alloc _).alloc _
    · rw [← hW0]
      have := Blk.new (((w.alloc (.cells #[.slice Ar E.length cr] 45)).alloc (.cells #[.slice B t.length d] 25)).alloc (.cells #[.int .i64 b] 3)) 95 #[wayF (w.heap.size + 1 + 1) (w.heap.size + 1) w.heap.size (w.heap.size + 1 + 1 + 1)]
      rw [show (((w.alloc (.cells #[.slice Ar E.length cr] 45)).alloc (.cells #[.slice B t.length d] 25)).alloc (.cells #[.int .i64 b] 3)).heap.size = w.heap.size + 1 + 1 + 1 from by simp] at this
      exact this
  have WC := walk_any n hn b E t hT htl Ar cr B d (w.heap.size + 1 + 1) (w.heap.size + 1) w.heap.size (w.heap.size + 1 + 1 + 1) w.heap.size _ a none ha (fun f hf => by cases hf) (Nat.le_refl _) W0 hWW
  rw [hR, hS] at WC
  have f0 := hWW.h4.cell 0
  obtain ⟨R, hRR⟩ : ∃ R, pathL E t a b = R := ⟨_, rfl⟩
  rw [hRR] at WC ⊢
  have WC := Lib.hid WC
  have HW0 := Lib.hid hW0
  clear hR hRR hWW hS hW0 hT hc
  go_enter Try.func53, Try.ntmps53
  go_wp2_with fail
  try rw [HW0.out]
  refine (WC.out).mono ?_
  rintro e w1 ⟨A1, c1, rfl, o1, hb1⟩
  go_wp2
  go_ret
  exact ⟨A1, c1, rfl, o1.mono hB0.size, hB0.trans (hb1.mono hB0.size)⟩
end Go.Proofs.Ytepmfbgmkfkmkaa

/-! The error of a graph, as the reference finds it: ref08.Check. -/
namespace Go.Proofs.Ytepmfbgmkfkmkaa
open Go.RowKit

set_option maxHeartbeats 400000 in
theorem rvertex_any (n v : Int) (A : Option Addr) (k c : Nat) (w : World) :
    Calls Try.prog 16 #[.agg #[.int .i64 n, .slice A k c], .int .i64 v] w fun e w' => e = .returned (.bool (vertB n v)) ∧ w.alloc (.cells #[.int .i64 n, .slice A k c] 24) = w' := by
  go_enter Try.func16, Try.ntmps16
  go_wp2
  all_goals (go_ret; exact ⟨by simp only [vertB]; simp [*]; try omega, rfl⟩)

/-- The cases of an edge's error, as the reference asks. -/
theorem redge_cases (n : Int) (p : Option E3) (e : E3) :
    (vertB n e.1 = false ∧ edgeErr n p e = 2) ∨ (vertB n e.1 = true ∧ vertB n e.2.1 = false ∧ edgeErr n p e = 2) ∨
    (vertB n e.1 = true ∧ vertB n e.2.1 = true ∧ e.2.2 < 1 ∧ edgeErr n p e = 2) ∨ (vertB n e.1 = true ∧ vertB n e.2.1 = true ∧ 50 < e.2.2 ∧ ¬ e.2.2 < 1 ∧ edgeErr n p e = 2) ∨
    (vertB n e.1 = true ∧ vertB n e.2.1 = true ∧ ¬ e.2.2 < 1 ∧ ¬ 50 < e.2.2 ∧ e.2.1 < e.1 ∧ edgeErr n p e = 9) ∨
    (vertB n e.1 = true ∧ vertB n e.2.1 = true ∧ ¬ e.2.2 < 1 ∧ ¬ 50 < e.2.2 ∧ ¬ e.2.1 < e.1 ∧ edgeErr n p e = match p with | none => 0 | some y => if e.1 < y.1 ∨ (e.1 = y.1 ∧ e.2.1 ≤ y.2.1) then 9 else 0) := by
  have v1 := vertB_true (n := n) (v := e.1)
  have v2 := vertB_true (n := n) (v := e.2.1)
  cases g1 : vertB n e.1
  · refine .inl ⟨rfl, ?_⟩
    rw [vertB_false] at g1
    unfold edgeErr; rw [if_pos (by omega)]
  rw [g1] at v1
  have v1 := v1.1 rfl
  cases g2 : vertB n e.2.1
  · refine .inr (.inl ⟨rfl, rfl, ?_⟩)
    rw [vertB_false] at g2
    unfold edgeErr; rw [if_pos (by omega)]
  rw [g2] at v2
  have v2 := v2.1 rfl
  by_cases h1 : e.2.2 < 1
  · refine .inr (.inr (.inl ⟨rfl, rfl, h1, ?_⟩))
    unfold edgeErr; rw [if_pos (by omega)]
  by_cases h2 : 50 < e.2.2
  · refine .inr (.inr (.inr (.inl ⟨rfl, rfl, h2, h1, ?_⟩)))
    unfold edgeErr; rw [if_pos (by omega)]
  by_cases h4 : e.2.1 < e.1
  · refine .inr (.inr (.inr (.inr (.inl ⟨rfl, rfl, h1, h2, h4, ?_⟩))))
    unfold edgeErr; rw [if_neg (by omega), if_pos h4]
  · refine .inr (.inr (.inr (.inr (.inr ⟨rfl, rfl, h1, h2, h4, ?_⟩))))
    unfold edgeErr; rw [if_neg (by omega), if_neg h4]; cases p <;> rfl

set_option maxRecDepth 100000 in
set_option maxHeartbeats 4000000 in
/-- ref08.edge -/
theorem redge_any (n : Int) (A : Option Addr) (c : Nat) (es : List E3) (hn : es.length ≤ 1048576) (k : Nat) (e : E3) (hx : es[k]? = some e) (w : World) (h : Reads w w.heap.size 3 A es.length (edgeCells es)) :
    Calls Try.prog 93 #[.agg #[.int .i64 n, .slice A es.length c], .int .i64 k] w fun e' w' => e' = .returned (.int .i64 (edgeErr n (prevOf es k) e)) ∧ Below w.heap.size w w' := by
  have hcs := redge_cases n (prevOf es k) e
  have hlt := (List.getElem?_eq_some_iff.1 hx).1
  obtain ⟨r, hr⟩ : ∃ r, edgeErr n (prevOf es k) e = r := ⟨_, rfl⟩
  rw [hr] at hcs ⊢
  have HR := Lib.hid hr
  clear hr
  obtain ⟨a, b, m⟩ := e
  obtain ⟨bb, off, rfl, hb, q1, q2, q3⟩ := h.edge hx
  have HX := Lib.hid hx
  have H := Lib.hid h
  have hi : (k : Int) < (es.length : Int) := by omega
  dsimp only at hcs q1 q2 q3
  clear hx h
  rcases hcs with ⟨v1, rfl⟩ | ⟨v1, v2, rfl⟩ | ⟨v1, v2, h3, rfl⟩ | ⟨v1, v2, h3, h4, rfl⟩ | ⟨v1, v2, h3, h4, h5, rfl⟩ | ⟨v1, v2, h3, h4, h5, hE⟩
  · go_enter Try.func93, Try.ntmps93
    go_wp2_with (go_at_call 16; refine (rvertex_any _ _ _ _ _ _).mono ?_; rintro e w' ⟨rfl, rfl⟩)
    go_ret
    refine ⟨rfl, ?_⟩
    repeat first | exact Below.refl _ _ | refine Below.alloc ?_ (by first | exact Nat.le_refl _ | (simp; done) | (simp; omega)) _
  · go_enter Try.func93, Try.ntmps93
    go_wp2_with (go_at_call 16; refine (rvertex_any _ _ _ _ _ _).mono ?_; rintro e w' ⟨rfl, rfl⟩)
    go_ret
    refine ⟨rfl, ?_⟩
    repeat first | exact Below.refl _ _ | refine Below.alloc ?_ (by first | exact Nat.le_refl _ | (simp; done) | (simp; omega)) _
  · go_enter Try.func93, Try.ntmps93
    go_wp2_with (go_at_call 16; refine (rvertex_any _ _ _ _ _ _).mono ?_; rintro e w' ⟨rfl, rfl⟩)
    go_ret
    refine ⟨rfl, ?_⟩
    repeat first | exact Below.refl _ _ | refine Below.alloc ?_ (by first | exact Nat.le_refl _ | (simp; done) | (simp; omega)) _
  · go_enter Try.func93, Try.ntmps93
    go_wp2_with (go_at_call 16; refine (rvertex_any _ _ _ _ _ _).mono ?_; rintro e w' ⟨rfl, rfl⟩)
    go_ret
    refine ⟨rfl, ?_⟩
    repeat first | exact Below.refl _ _ | refine Below.alloc ?_ (by first | exact Nat.le_refl _ | (simp; done) | (simp; omega)) _
  · go_enter Try.func93, Try.ntmps93
    go_wp2_with (go_at_call 16; refine (rvertex_any _ _ _ _ _ _).mono ?_; rintro e w' ⟨rfl, rfl⟩)
    go_ret
    refine ⟨rfl, ?_⟩
    repeat first | exact Below.refl _ _ | refine Below.alloc ?_ (by first | exact Nat.le_refl _ | (simp; done) | (simp; omega)) _
  · rcases k with _ | k
    · have hE' : r = 0 := by rw [hE]; simp [prevOf]
      subst hE'
      clear hE
      rw [show ((0 : Nat) : Int) = 0 from rfl] at hi ⊢
      simp only [Nat.zero_mul, Nat.add_zero] at q1 q2 q3
      go_enter Try.func93, Try.ntmps93
      go_wp2_with (go_at_call 16; refine (rvertex_any _ _ _ _ _ _).mono ?_; rintro e w' ⟨rfl, rfl⟩)
      go_ret
      refine ⟨rfl, ?_⟩
      repeat first | exact Below.refl _ _ | refine Below.alloc ?_ (by first | exact Nat.le_refl _ | (simp; done) | (simp; omega)) _
    · obtain ⟨⟨a1, b1, m1⟩, hy⟩ := get_of_lt (xs := es) (k := k) (by omega)
      obtain ⟨bb', off', hA', hb', p1, p2, p3⟩ := H.out.edge hy
      injection hA' with hA'; injection hA' with e1 e2; subst e1 e2
      have hE' : r = if a < a1 ∨ (a = a1 ∧ b ≤ b1) then 9 else 0 := by rw [hE, prevOf_succ, hy]
      rw [show ((k + 1 : Nat) : Int) = (k : Int) + 1 from by omega] at hi ⊢
      have hk1 : ((k : Int) + 1 - 1) = (k : Int) := by omega
      have hk2 : 0 < (k : Int) + 1 := by omega
      have hk3 : (k : Int) < (es.length : Int) := by omega
      have h6 : (a = a1 ↔ a = a1) := Iff.rfl
      clear hE hy H h6
      dsimp only at p1 p2 p3
      have hb4 : Below w.heap.size w ((((w.alloc (.cells #[.int .i64 n, .slice (some ⟨bb, off, none⟩) es.length c] 24)).alloc (.cells #[.int .i64 a, .int .i64 b, .int .i64 m] 82)).alloc (.cells #[.int .i64 n, .slice (some ⟨bb, off, none⟩) es.length c] 24)).alloc (.cells #[.int .i64 n, .slice (some ⟨bb, off, none⟩) es.length c] 24)) :=
        ((((Below.refl _ _).alloc (Nat.le_refl _) _).alloc (by simp) _).alloc (by simp; omega) _).alloc (by simp; omega) _
      have P1 := (hb4.cell (p := ⟨bb, off + k * 3, none⟩) hb').trans p1
      have P2 := (hb4.cell (p := ⟨bb, off + k * 3 + 1, none⟩) hb').trans p2
      have P3 := (hb4.cell (p := ⟨bb, off + k * 3 + 1 + 1, none⟩) hb').trans p3
      clear hb4
      by_cases g1 : a < a1
      · rw [if_pos (.inl g1)] at hE'
        subst hE'
        have hd1 : decide (a < a1) = true := decide_eq_true g1
        go_enter Try.func93, Try.ntmps93
        go_wp2_with (go_at_call 16; refine (rvertex_any _ _ _ _ _ _).mono ?_; rintro e w' ⟨rfl, rfl⟩)
        go_ret
        refine ⟨rfl, ?_⟩
        repeat first | exact Below.refl _ _ | refine Below.alloc ?_ (by first | exact Nat.le_refl _ | (simp; done) | (simp; omega)) _
      · have hd1 : decide (a < a1) = false := decide_eq_false g1
        by_cases g2 : a = a1
        · subst g2
          have hd2 : (a == a) = true := by simp
          by_cases g3 : b ≤ b1
          · rw [if_pos (.inr ⟨rfl, g3⟩)] at hE'
            subst hE'
            have hd3 : decide (b ≤ b1) = true := decide_eq_true g3
            go_enter Try.func93, Try.ntmps93
            go_wp2_with (go_at_call 16; refine (rvertex_any _ _ _ _ _ _).mono ?_; rintro e w' ⟨rfl, rfl⟩)
            go_ret
            refine ⟨rfl, ?_⟩
            repeat first | exact Below.refl _ _ | refine Below.alloc ?_ (by first | exact Nat.le_refl _ | (simp; done) | (simp; omega)) _
          · rw [if_neg (by omega)] at hE'
            subst hE'
            have hd3 : decide (b ≤ b1) = false := decide_eq_false g3
            go_enter Try.func93, Try.ntmps93
            go_wp2_with (go_at_call 16; refine (rvertex_any _ _ _ _ _ _).mono ?_; rintro e w' ⟨rfl, rfl⟩)
            go_ret
            refine ⟨rfl, ?_⟩
            repeat first | exact Below.refl _ _ | refine Below.alloc ?_ (by first | exact Nat.le_refl _ | (simp; done) | (simp; omega)) _
        · have hd2 : (a == a1) = false := by simpa using g2
          rw [if_neg (by omega)] at hE'
          subst hE'
          clear g2
          go_enter Try.func93, Try.ntmps93
          go_wp2_with (go_at_call 16; refine (rvertex_any _ _ _ _ _ _).mono ?_; rintro e w' ⟨rfl, rfl⟩)
          go_ret
          refine ⟨rfl, ?_⟩
          repeat first | exact Below.refl _ _ | refine Below.alloc ?_ (by first | exact Nat.le_refl _ | (simp; done) | (simp; omega)) _

set_option maxRecDepth 100000 in
set_option maxHeartbeats 2000000 in
/-- ref08.Check -/
theorem rgcheck_any (n : Int) (A : Option Addr) (c : Nat) (es : List E3) (hn : es.length ≤ 1048576) (w : World) (h : Reads w w.heap.size 3 A es.length (edgeCells es)) :
    Calls Try.prog 73 #[.agg #[.int .i64 n, .slice A es.length c]] w fun e w' => e = .returned (.int .i64 (checkG n es)) ∧ Below w.heap.size w w' := by
  by_cases h1 : n < 1
  · have hd : checkG n es = 2 := by unfold checkG; rw [if_pos (.inl h1)]
    rw [hd]
    go_enter Try.func73, Try.ntmps73
    go_wp2
    go_ret
    exact ⟨rfl, (Below.refl _ _).alloc (Nat.le_refl _) _⟩
  by_cases h2 : 12 < n
  · have hd : checkG n es = 2 := by unfold checkG; rw [if_pos (.inr h2)]
    rw [hd]
    go_enter Try.func73, Try.ntmps73
    go_wp2
    go_ret
    exact ⟨rfl, (Below.refl _ _).alloc (Nat.le_refl _) _⟩
  have hd : checkG n es = edgesErr n none es := by unfold checkG; rw [if_neg (by omega)]
  rw [hd]
  obtain ⟨r, hr⟩ : ∃ r, edgesErr n none es = r := ⟨_, rfl⟩
  rw [hr]
  have HR := Lib.hid hr
  clear hr hd
  go_enter Try.func73, Try.ntmps73
  go_wp2
  go_loopw [3] (fun i wr => ∃ k : Nat, k ≤ es.length ∧ i = .int .i64 k ∧ Below w.heap.size w wr ∧ Blk wr w.heap.size 24 #[.int .i64 n, .slice A es.length c] ∧ Hid (edgesErr n none es = edgesErr n (prevOf es k) (es.drop k))) (fun i _ => es.length - (intOf i).toNat)
  case atStart => exact ⟨0, by omega, rfl, (Below.refl _ _).alloc (Nat.le_refl _) _, Blk.new _ _ _, by simp [Hid, prevOf]⟩
  case round =>
    obtain ⟨k, hk, rfl, hbel, g1, HS⟩ := hrel
    have c0 := g1.cell 0
    have c1 := g1.cell 1
    have hsz := hbel.size
    by_cases hlt : k < es.length
    · obtain ⟨e, hx⟩ := get_of_lt hlt
      have hi : (k : Int) < (es.length : Int) := by omega
      have HE := Lib.hid (redge_any n A c es hn k e hx wr ((h.below hbel).more hsz))
      have HX := Lib.hid hx
      have HB := Lib.hid hbel
      clear hx h hbel
      by_cases h0 : edgeErr n (prevOf es k) e = 0
      · have HN := Lib.hid (edgesErr_go HX.out h0 HS.out)
        rw [h0] at HE
        clear h0
        go_wp2_with (go_at_call 93; refine (HE.out).mono ?_; rintro e' w' ⟨rfl, hb'⟩)
        go_roundw
        case rel => exact ⟨k + 1, by omega, by go_num, HB.out.trans (hb'.mono hsz), g1.next hb', HN.out⟩
        case measure => simp [intOf]; omega
      · have HN := Lib.hid (edgesErr_stop HX.out rfl h0 HS.out)
        obtain ⟨q, hq⟩ : ∃ q, edgeErr n (prevOf es k) e = q := ⟨_, rfl⟩
        rw [hq] at HE HN h0
        have hb0 : (q != 0) = true := by simpa using h0
        clear hq h0
        go_wp2_with (go_at_call 93; refine (HE.out).mono ?_; rintro e' w' ⟨rfl, hb'⟩)
        go_ret
        exact ⟨ret_int (by rw [← HR.out, HN.out]), HB.out.trans (hb'.mono hsz)⟩
    · go_wp2
      go_ret
      refine ⟨ret_int ?_, hbel⟩
      have e : edgesErr n none es = 0 := by rw [HS.out, List.drop_eq_nil_of_le (by omega)]; rfl
      rw [← HR.out, e]
end Go.Proofs.Ytepmfbgmkfkmkaa

