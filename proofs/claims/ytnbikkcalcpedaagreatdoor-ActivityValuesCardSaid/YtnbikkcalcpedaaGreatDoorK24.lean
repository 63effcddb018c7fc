/-
  Texts of this claim, put together: Way, RowsN, TGrow, TreeX.
-/
import Derived.Test.YtnbikkcalcpedaaGreatDoorK22
import Derived.Test.YtnbikkcalcpedaaGreatDoorK10
import Derived.Laws.EntriesVeiled
import Derived.Test.YtnbikkcalcpedaaGreatDoorK07
import Derived.Test.YtnbikkcalcpedaaGreatDoorK23
import Derived.Test.YtnbikkcalcpedaaGreatDoorK09
import Derived.Stop.RegionWithIn
/-! Package tree: way, a search in depth by a closure that calls itself. -/
namespace Go.Proofs.YtnbikkcalcpedaaGreatDoor
open Go.RowKit

abbrev wayF (bb bt be bf : Nat) : Value := .func (.func 188) #[] #[.pointer (some ⟨bb, 0, none⟩), .pointer (some ⟨bt, 0, none⟩), .pointer (some ⟨be, 0, none⟩), .pointer (some ⟨bf, 0, none⟩)]
/-- What the closure has captured. -/
structure WayW (W : World) (b : Nat) (E : List (Nat × Nat)) (t : List Nat) (Ar : Option Addr) (cr : Nat) (B : Option Addr) (d bb bt be bf base : Nat) : Prop where
  h1 : Blk W bb 3 #[.int .i64 b]
  h2 : Blk W bt 25 #[.slice B t.length d]
  h3 : Blk W be 48 #[.slice Ar E.length cr]
  h4 : Blk W bf 225 #[wayF bb bt be bf]
  r1 : Reads W base 2 Ar E.length (pair2 E)
  r2 : Reads W base 1 B t.length (ints (nI t))
  lo : base ≤ W.heap.size
theorem WayW.next {W W' : World} {b : Nat} {E : List (Nat × Nat)} {t : List Nat} {Ar : Option Addr} {cr : Nat} {B : Option Addr} {d bb bt be bf base : Nat} (h : WayW W b E t Ar cr B d bb bt be bf base) (hb : Below W.heap.size W W') : WayW W' b E t Ar cr B d bb bt be bf base :=
  ⟨h.h1.next hb, h.h2.next hb, h.h3.next hb, h.h4.next hb, h.r1.keep fun p hp => hb.cell (by have := h.lo; omega), h.r2.keep fun p hp => hb.cell (by have := h.lo; omega), Nat.le_trans h.lo hb.size⟩
/-- Where one comes from, as an int. -/
def fromI : Option Nat → Int
  | none => -1
  | some f => f
/-- What the search answers. -/
def dfsB (E : List (Nat × Nat)) (t : List Nat) (b v : Nat) (o : Option Nat) : Bool := decide (Cn (pk E (lessO t o)) v b)
def dfsR (E : List (Nat × Nat)) (t : List Nat) (b v : Nat) (o : Option Nat) : List Nat := if dfsB E t b v o then pathL E t v b else []
theorem dfs_self (E : List (Nat × Nat)) (t : List Nat) (b : Nat) (o : Option Nat) : dfsB E t b b o = true ∧ dfsR E t b b o = [] := by
  have h : dfsB E t b b o = true := decide_eq_true .refl
  refine ⟨h, ?_⟩
  unfold dfsR; rw [if_pos h, pathL_self]

set_option maxRecDepth 100000 in
set_option maxHeartbeats 8000000 in
theorem walk_any (n : Nat) (hn : n ≤ 12) (b : Nat) (E : List (Nat × Nat)) (t : List Nat) (hT : FoE n E t) (htl : t.length ≤ 12) (Ar : Option Addr) (cr : Nat) (B : Option Addr) (d bb bt be bf base : Nat) :
    ∀ (k v : Nat) (o : Option Nat), v < n → FromOk E t v o → cmpN E t v o ≤ k → ∀ W, WayW W b E t Ar cr B d bb bt be bf base →
    Calls Tryz.prog 188 #[.int .i64 v, .int .i64 (fromI o), .pointer (some ⟨bb, 0, none⟩), .pointer (some ⟨bt, 0, none⟩), .pointer (some ⟨be, 0, none⟩), .pointer (some ⟨bf, 0, none⟩)] W fun e W' =>
      ∃ A' c', e = .returned (.tuple #[.slice A' (dfsR E t b v o).length c', .bool (dfsB E t b v o)]) ∧ OwnI W' W.heap.size A' c' (nI (dfsR E t b v o)) ∧ Below W.heap.size W W' := by
  have eg := enters_of (P := Tryz.prog) Tryz.func188 (by kernel_rfl) rfl
  intro k
  induction k using Nat.strongRecOn with
  | _ k ih =>
  intro v o hv ho hk W hW
  have HT := Lib.hid hT
  have HO := Lib.hid ho
  have IH : Hid (∀ (e : Nat), e ∈ t → Inc E e v → o ≠ some e → ∀ W', WayW W' b E t Ar cr B d bb bt be bf base → Calls Tryz.prog 188 #[.int .i64 ((oth (E.getD e (0, 0)) v : Nat) : Int), .int .i64 e, .pointer (some ⟨bb, 0, none⟩), .pointer (some ⟨bt, 0, none⟩), .pointer (some ⟨be, 0, none⟩), .pointer (some ⟨bf, 0, none⟩)] W' fun e' W'' =>
      ∃ A' c', e' = .returned (.tuple #[.slice A' (dfsR E t b (oth (E.getD e (0, 0)) v) (some e)).length c', .bool (dfsB E t b (oth (E.getD e (0, 0)) v) (some e))]) ∧ OwnI W'' W'.heap.size A' c' (nI (dfsR E t b (oth (E.getD e (0, 0)) v) (some e))) ∧ Below W'.heap.size W' W'') := by
    intro e he hi hne W' hW'
    have hlt := cmp_less hT ho he hi hne
    have hwn : oth (E.getD e (0, 0)) v < n := (inc_cn he hi).lt (bd_pk hT.bd hT.lt) hv
    exact ih (cmpN E t (oth (E.getD e (0, 0)) v) (some e)) (by omega) _ (some e) hwn (fun f hf => by injection hf with hf; subst hf; exact ⟨he, (inc_oth hi).1⟩) (Nat.le_refl _) W' hW'
  clear ih ho hk
  have HW := Lib.hid hW
  by_cases hvb : v = b
  · obtain ⟨s1, s2⟩ := dfs_self E t b o
    rw [hvb]
    rw [s1, s2]
    have a0 := hW.h1.cell 0
    have hq : ((b : Int) == (b : Int)) = true := by simp
    clear hvb s1 s2 hT IH hW
    go_enter Tryz.func188, Tryz.ntmps188
    go_wp2
    go_ret2
    exact ⟨none, 0, rfl, OwnI.nil_ _ _, Below.refl _ _⟩
  · have HVB := Lib.hid hvb
    have hq : ((v : Int) == (b : Int)) = false := by simp; omega
    obtain ⟨R, hR⟩ : ∃ R, dfsR E t b v o = R := ⟨_, rfl⟩
    obtain ⟨S, hS⟩ : ∃ S, dfsB E t b v o = S := ⟨_, rfl⟩
    rw [hR, hS]
    have HR := Lib.hid hR
    have HS := Lib.hid hS
    have a0 := hW.h1.cell 0
    have b0 := hW.h2.cell 0
    clear hvb hR hS hT hW
    go_enter Tryz.func188, Tryz.ntmps188
    go_wp2_with fail
    go_loopw [11, 12, 13, 14, 20] (fun _ _ _ _ i wr => ∃ j : Nat, j ≤ t.length ∧ i = .int .i64 j ∧ Hid (∀ e ∈ t.take j, Inc E e v → o ≠ some e → ¬ Cn (pk E (lessL t e)) (oth (E.getD e (0, 0)) v) b) ∧ Hid (Below W.heap.size W wr)) (fun _ _ _ _ i _ => t.length - (intOf i).toNat)
    case atStart => exact ⟨0, by omega, rfl, by simp [Hid], Below.refl _ _⟩
    case round =>
      obtain ⟨j, hj, rfl, HN, HB⟩ := hrel
      have hwz := HB.out.size
      have HW1 := HW.out.next HB.out
      by_cases hlt : j < t.length
      · obtain ⟨e, hx⟩ := get_of_lt hlt
        have he := List.mem_of_getElem? hx
        have hel := HT.out.lt e he
        have hab := getD_bd HT.out.bd hel
        obtain ⟨bB, oB, hB, hbB, hcell⟩ := HW1.r2.at_ (ints_at (nI_at hx))
        subst hB
        obtain ⟨bA, oA, hA, hbA, q0, q1⟩ := HW1.r1.pairAt (getD_some hel)
        subst hA
        have e0 := HW1.h3.cell 0
        have f0 := HW1.h4.cell 0
        have hi : (j : Int) < (t.length : Int) := by omega
        have hie : (e : Int) < (E.length : Int) := by omega
        have htk := take_snoc hx
        obtain ⟨⟨x, y⟩, hp⟩ : ∃ p, E.getD e (0, 0) = p := ⟨_, rfl⟩
        rw [hp] at q0 q1 hab
        dsimp only at q0 q1 hab
        have HP := Lib.hid hp
        have HE := Lib.hid he
        have HB2 := Lib.hid (HB.out.alloc hwz (.cells #[.int .i64 x, .int .i64 y] 50))
        have HW2 := Lib.hid (HW1.next ((Below.refl _ _).alloc (Nat.le_refl _) (.cells #[.int .i64 x, .int .i64 y] 50)))
        have f2 := HW2.out.h4.cell 0
        have p2 := Blk.new wr 50 #[.int .i64 x, .int .i64 y]
        have p0 := p2.cell 0
        have p1 := p2.cell 1
        -- when the single edge is passed by
        have skip : (Inc E e v → o ≠ some e → ¬ Cn (pk E (lessL t e)) (oth (E.getD e (0, 0)) v) b) → Hid (∀ x ∈ t.take (j + 1), Inc E x v → o ≠ some x → ¬ Cn (pk E (lessL t x)) (oth (E.getD x (0, 0)) v) b) := by
          intro h x hx'
          rw [htk] at hx'
          rcases List.mem_append.1 hx' with hx' | hx'
          · exact HN.out x hx'
          · rw [List.mem_singleton] at hx'
            subst hx'
            exact h
        by_cases hfr : o = some e
        · have hfi : fromI o = (e : Int) := by rw [hfr]; rfl
          have hqe : ((e : Int) == fromI o) = true := by rw [hfi]; simp
          have HN2 := skip fun _ h => absurd hfr h
          clear hx htk hfr hfi he HW1 hp skip p2
          go_wp2
          go_roundw
          case rel => exact ⟨j + 1, by omega, by go_num, HN2, HB2⟩
          case measure => simp [intOf]; omega
        · have hqe : ((e : Int) == fromI o) = false := by
            cases o with
            | none => unfold fromI; simp only [beq_eq_false_iff_ne, ne_eq]; omega
            | some f =>
              have : f ≠ e := fun h => hfr (by rw [h])
              unfold fromI; simp only [beq_eq_false_iff_ne, ne_eq]; omega
          by_cases hxy : x ≠ v ∧ y ≠ v
          · have n1 : ((x : Int) != (v : Int)) = true := by rw [bne_iff_ne]; omega
            have n2 : ((y : Int) != (v : Int)) = true := by rw [bne_iff_ne]; omega
            have HN2 := skip fun h _ => by
              unfold Inc at h
              rw [hp] at h
              dsimp only at h
              exact absurd h (by omega)
            clear hx htk hfr he HW1 hp skip p2 hxy
            go_wp2
            go_roundw
            case rel => exact ⟨j + 1, by omega, by go_num, HN2, HB2⟩
            case measure => simp [intOf]; omega
          · have hinc : Inc E e v := by unfold Inc; rw [hp]; dsimp only; omega
            have IC := IH.out e he hinc hfr _ HW2.out
            have hsum := inc_sum hinc
            obtain ⟨u, hu⟩ : ∃ u, oth (E.getD e (0, 0)) v = u := ⟨_, rfl⟩
            have hyes : dfsB E t b u (some e) = true → S = true ∧ R = e :: dfsR E t b u (some e) := by
              intro h
              have hc : Cn (pk E (lessL t e)) u b := of_decide_eq_true h
              rw [← hu] at hc
              obtain ⟨y1, y2⟩ := dfs_yes HT.out HO.out he hinc hfr hc
              have hS1 : dfsB E t b v o = true := decide_eq_true y1
              refine ⟨by rw [← HS.out]; exact hS1, ?_⟩
              rw [← HR.out]
              unfold dfsR
              rw [if_pos hS1, if_pos h, y2, hu]
            have hno : dfsB E t b u (some e) = false → Hid (∀ x ∈ t.take (j + 1), Inc E x v → o ≠ some x → ¬ Cn (pk E (lessL t x)) (oth (E.getD x (0, 0)) v) b) := fun h => skip fun _ _ => by rw [hu]; exact of_decide_eq_false h
            rw [hp] at hsum
            dsimp only at hsum
            rw [hu] at IC
            rw [← hp, hu] at hsum
            have w1 : IntKind.i64.wrap ((x : Int) + (y : Int)) = (x : Int) + (y : Int) := IntWalk.i64_in _ (by omega)
            have w2 : IntKind.i64.wrap ((x : Int) + (y : Int) - (v : Int)) = (u : Int) := by rw [IntWalk.i64_in _ (by omega)]; omega
            have HYES := Lib.hid hyes
            have HNO := Lib.hid hno
            have hl12 : (dfsR E t b u (some e)).length ≤ 12 := by
              unfold dfsR
              split
              · rename_i hd
                have hc : Cn (pk E (lessL t e)) u b := of_decide_eq_true hd
                exact Nat.le_trans (path_len HT.out (cn_less hc)) htl
              · simp
            obtain ⟨S', hS'⟩ : ∃ S', dfsB E t b u (some e) = S' := ⟨_, rfl⟩
            obtain ⟨R', hR'⟩ : ∃ R', dfsR E t b u (some e) = R' := ⟨_, rfl⟩
            rw [hS', hR'] at IC HYES
            rw [hS'] at HNO
            rw [hR'] at hl12
            have IC := Lib.hid IC
            have hn1 : ((x : Int) != (v : Int)) = false ∨ (((x : Int) != (v : Int)) = true ∧ ((y : Int) != (v : Int)) = false) := by
              by_cases hxv : x = v
              · exact .inl (by simp [hxv])
              · refine .inr ⟨by rw [bne_iff_ne]; omega, ?_⟩
                have : y = v := by omega
                simp [this]
            clear hx htk hfr he HW1 hp skip p2 hxy hinc hsum hyes hno hS' hR' hu
            cases S'
            · have HN2 := HNO.out rfl
              rcases hn1 with n1 | ⟨n1, n2⟩
              · go_wp2_with fail
                refine (IC.out).mono ?_
                rintro e' w6 ⟨A3, c3, rfl, o3, hb3⟩
                have HB3 := Lib.hid (HB2.out.trans (hb3.mono HB2.out.size))
                go_wp2
                go_roundw
                case rel => exact ⟨j + 1, by omega, by go_num, HN2, HB3⟩
                case measure => simp [intOf]; omega
              · go_wp2_with fail
                refine (IC.out).mono ?_
                rintro e' w6 ⟨A3, c3, rfl, o3, hb3⟩
                have HB3 := Lib.hid (HB2.out.trans (hb3.mono HB2.out.size))
                go_wp2
                go_roundw
                case rel => exact ⟨j + 1, by omega, by go_num, HN2, HB3⟩
                case measure => simp [intOf]; omega
            · obtain ⟨rfl, hRR⟩ := HYES.out rfl
              have HRR := Lib.hid hRR
              clear hRR
              rcases hn1 with n1 | ⟨n1, n2⟩
              · go_wp2_with fail
                refine (IC.out).mono ?_
                rintro e' w6 ⟨A3, c3, rfl, o3, hb3⟩
                have HB3 := HB2.out.trans (hb3.mono HB2.out.size)
                have hs6 := HB3.size
                have r3 := o3.reads
                rw [nI_length] at r3
                have r4 := Lib.hid (r3.alloc (Nat.le_refl _) (.cells #[.int .i64 e] 3))
                have o4 : Hid ((w6.alloc (.cells #[.int .i64 e] 3)).ownsRow W.heap.size 3 1 (.slice (some ⟨w6.heap.size, 0, none⟩) 1 1) 1 [.int .i64 (e : Int)]) := OwnI.of_blk (l := [(e : Int)]) (Blk.new w6 3 (intCells [(e : Int)])) hs6 (by simp [maxLen])
                have hone : ∀ u ∈ ints (nI R'), u.oneCell' = true := ints_one
                have hs7 : W.heap.size ≤ (w6.alloc (.cells #[.int .i64 e] 3)).heap.size := by simp; omega
                have HB4 := Lib.hid (HB3.alloc hs6 (.cells #[.int .i64 e] 3))
                clear o3 r3
                go_wp2_with (at_builtin; refine append_go rfl (.tmp 58) (.tmp 59) _ rfl W.heap.size 3 Tryz.underlying25 info_int rfl (by omega) (some ⟨w6.heap.size, 0, none⟩) 1 1 [.int .i64 (e : Int)] rfl o4.out _ (ints (nI R')) rfl r4.out hone (by omega) hs7 ?_; intro A4 c4 w7 hown7 hg7 hb7 _)
                go_ret2
                refine ⟨A4, c4, ?_, ?_, HB4.out.trans hb7⟩
                · rw [HRR.out, List.length_cons, Nat.add_comm]; rfl
                · rw [HRR.out]
                  unfold OwnI
                  have e1 : (nI (e :: R')).length = 1 + R'.length := by rw [nI_length, List.length_cons, Nat.add_comm]
                  rw [e1]
                  exact hown7
              · go_wp2_with fail
                refine (IC.out).mono ?_
                rintro e' w6 ⟨A3, c3, rfl, o3, hb3⟩
                have HB3 := HB2.out.trans (hb3.mono HB2.out.size)
                have hs6 := HB3.size
                have r3 := o3.reads
                rw [nI_length] at r3
                have r4 := Lib.hid (r3.alloc (Nat.le_refl _) (.cells #[.int .i64 e] 3))
                have o4 : Hid ((w6.alloc (.cells #[.int .i64 e] 3)).ownsRow W.heap.size 3 1 (.slice (some ⟨w6.heap.size, 0, none⟩) 1 1) 1 [.int .i64 (e : Int)]) := OwnI.of_blk (l := [(e : Int)]) (Blk.new w6 3 (intCells [(e : Int)])) hs6 (by simp [maxLen])
                have hone : ∀ u ∈ ints (nI R'), u.oneCell' = true := ints_one
                have hs7 : W.heap.size ≤ (w6.alloc (.cells #[.int .i64 e] 3)).heap.size := by simp; omega
                have HB4 := Lib.hid (HB3.alloc hs6 (.cells #[.int .i64 e] 3))
                clear o3 r3
                go_wp2_with (at_builtin; refine append_go rfl (.tmp 58) (.tmp 59) _ rfl W.heap.size 3 Tryz.underlying25 info_int rfl (by omega) (some ⟨w6.heap.size, 0, none⟩) 1 1 [.int .i64 (e : Int)] rfl o4.out _ (ints (nI R')) rfl r4.out hone (by omega) hs7 ?_; intro A4 c4 w7 hown7 hg7 hb7 _)
                go_ret2
                refine ⟨A4, c4, ?_, ?_, HB4.out.trans hb7⟩
                · rw [HRR.out, List.length_cons, Nat.add_comm]; rfl
                · rw [HRR.out]
                  unfold OwnI
                  have e1 : (nI (e :: R')).length = 1 + R'.length := by rw [nI_length, List.length_cons, Nat.add_comm]
                  rw [e1]
                  exact hown7
      · obtain rfl : j = t.length := by omega
        have hno : ¬ Cn (pk E (lessO t o)) v b := dfs_no HT.out HVB.out (by have := HN.out; rwa [List.take_length] at this)
        have hS0 : S = false := by rw [← HS.out]; exact decide_eq_false hno
        have hR0 : R = [] := by
          rw [← HR.out]; unfold dfsR
          rw [show dfsB E t b v o = false from decide_eq_false hno]; rfl
        subst hS0 hR0
        clear hno
        go_wp2
        go_ret2
        exact ⟨none, 0, rfl, OwnI.nil_ _ _, HB.out⟩

set_option maxRecDepth 100000 in
set_option maxHeartbeats 4000000 in
theorem way_any (n : Nat) (hn : n ≤ 12) (a b : Nat) (ha : a < n) (E : List (Nat × Nat)) (t : List Nat) (hT : FoE n E t) (htl : t.length ≤ 12) (hc : Cn (pk E t) a b) (Ar : Option Addr) (cr : Nat) (B : Option Addr) (d : Nat) (w : World)
    (h : Reads w w.heap.size 2 Ar E.length (pair2 E)) (h' : Reads w w.heap.size 1 B t.length (ints (nI t))) :
    Calls Tryz.prog 134 #[.slice Ar E.length cr, .slice B t.length d, .int .i64 a, .int .i64 b] w fun e w' => ∃ A' c', e = .returned (.slice A' (pathL E t a b).length c') ∧ OwnI w' w.heap.size A' c' (nI (pathL E t a b)) ∧ Below w.heap.size w w' := by
  have eg := enters_of (P := Tryz.prog) Tryz.func188 (by kernel_rfl) rfl
  have hmf : ∀ (fn : Fn) (first cap : Array Value) (w : World), (Instr.makeFunc fn first cap).run Tryz.prog w = .ok (.func fn first cap) w := fun _ _ _ _ => rfl
  have hS : dfsB E t b a none = true := decide_eq_true hc
  have hR : dfsR E t b a none = pathL E t a b := by unfold dfsR; rw [if_pos hS]
  obtain ⟨W0, hW0⟩ : ∃ W0, (((w.alloc (.cells #[.slice Ar E.length cr] 48)).alloc (.cells #[.slice B t.length d] 25)).alloc (.cells #[.int .i64 b] 3)).alloc (.cells #[wayF (w.heap.size + 1 + 1) (w.heap.size + 1) w.heap.size (w.heap.size + 1 + 1 + 1)] 225) = W0 := ⟨_, rfl⟩
  have hB0 : Below w.heap.size w W0 := by
    rw [← hW0]
    exact ((((Below.refl _ _).alloc (Nat.le_refl _) _).alloc (by simp) _).alloc (by simp; omega) _).alloc (by simp; omega) _
  have hWW : WayW W0 b E t Ar cr B d (w.heap.size + 1 + 1) (w.heap.size + 1) w.heap.size (w.heap.size + 1 + 1 + 1) w.heap.size := by
    refine ⟨?_, ?_, ?_, ?_, h.below hB0, h'.below hB0, hB0.size⟩
    · rw [← hW0]
      have := Blk.new ((w.alloc (.cells #[.slice Ar E.length cr] 48)).alloc (.cells #[.slice B t.length d] 25)) 3 #[.int .i64 b]
      rw [show ((w.alloc (.cells #[.slice Ar E.length cr] 48)).alloc (.cells #[.slice B t.length d] 25)).heap.size = w.heap.size + 1 + 1 from by simp] at this
      exact this.alloc _
    · rw [← hW0]
      have := Blk.new (w.alloc (.cells #[.slice Ar E.length cr] 48)) 25 #[.slice B t.length d]
      rw [show (w.alloc (.cells #[.slice Ar E.length cr] 48)).heap.size = w.heap.size + 1 from by simp] at this
      exact (this.alloc _).alloc _
    · rw [← hW0]
      exact (((Blk.new w 48 #[.slice Ar E.length cr]).alloc _).alloc _).alloc _
    · rw [← hW0]
      have := Blk.new (((w.alloc (.cells #[.slice Ar E.length cr] 48)).alloc (.cells #[.slice B t.length d] 25)).alloc (.cells #[.int .i64 b] 3)) 225 #[wayF (w.heap.size + 1 + 1) (w.heap.size + 1) w.heap.size (w.heap.size + 1 + 1 + 1)]
      rw [show (((w.alloc (.cells #[.slice Ar E.length cr] 48)).alloc (.cells #[.slice B t.length d] 25)).alloc (.cells #[.int .i64 b] 3)).heap.size = w.heap.size + 1 + 1 + 1 from by simp] at this
      exact this
  have WC := walk_any n hn b E t hT htl Ar cr B d (w.heap.size + 1 + 1) (w.heap.size + 1) w.heap.size (w.heap.size + 1 + 1 + 1) w.heap.size _ a none ha (fun f hf => by cases hf) (Nat.le_refl _) W0 hWW
  rw [hR, hS] at WC
  have f0 := hWW.h4.cell 0
  obtain ⟨R, hRR⟩ : ∃ R, pathL E t a b = R := ⟨_, rfl⟩
  rw [hRR] at WC ⊢
  have WC := Lib.hid WC
  have HW0 := Lib.hid hW0
  clear hR hRR hWW hS hW0 hT hc
  go_enter Tryz.func134, Tryz.ntmps134
  go_wp2_with fail
  try rw [HW0.out]
  refine (WC.out).mono ?_
  rintro e w1 ⟨A1, c1, rfl, o1, hb1⟩
  go_wp2
  go_ret
  exact ⟨A1, c1, rfl, o1.mono hB0.size, hB0.trans (hb1.mono hB0.size)⟩
end Go.Proofs.YtnbikkcalcpedaaGreatDoor

/-! A slice of slices of ints that reads as lists of numbers: its rows, and what a later world keeps. -/
namespace Go.Proofs.YtnbikkcalcpedaaGreatDoor
open Go.RowKit

theorem RowsR.row {W : World} {B : Nat} {A : Option Addr} {T : List (List Nat)} {j : Nat} {x : List Nat} (h : RowsR W B A (T.map nI)) (hx : T[j]? = some x) :
    ∃ b off A0 c0, A = some ⟨b, off, none⟩ ∧ W.cell? ⟨b, off + j, none⟩ = some (.slice A0 x.length c0) ∧ Reads W B 1 A0 x.length (ints (nI x)) ∧ b < B := by
  obtain ⟨vs, h1, h2⟩ := h
  obtain ⟨A0, c0, e0, r0⟩ := h2 j (nI x) (by simp [hx])
  rw [nI_length] at e0 r0
  obtain ⟨b, off, e, hb, hc⟩ := h1.at_ e0
  exact ⟨b, off, A0, c0, e, hc, r0, hb⟩
end Go.Proofs.YtnbikkcalcpedaaGreatDoor

/-! Package tree: the closure that grows trees: what it has captured; a list that is a tree is yielded. -/
namespace Go.Proofs.YtnbikkcalcpedaaGreatDoor
open Go.RowKit Go.Shelf
attribute [local go_sem] Oper.semAt_some

/-- A yielded tree. -/
def ArgT (t : List Nat) (args : Array Value) (O : Nat → Prop) (W : World) : Prop := ∃ A c, args = #[.slice A t.length c] ∧ OwnI W 0 A c (nI t) ∧ ∀ k, blockOf A k → O k
abbrev growF (bN bY bE bG : Nat) : Value := .func (.func 160) #[] #[.pointer (some ⟨bN, 0, none⟩), .pointer (some ⟨bY, 0, none⟩), .pointer (some ⟨bE, 0, none⟩), .pointer (some ⟨bG, 0, none⟩)]
/-- The blocks that the closure leans on. -/
def Fix5 (bN bY bE bG : Nat) (Ar : Option Addr) (k : Nat) : Prop := k = bN ∨ k = bY ∨ k = bE ∨ k = bG ∨ blockOf Ar k
/-- What the closure has captured. -/
structure GrowW (W : World) (n : Nat) (E : List (Nat × Nat)) (Ar : Option Addr) (cr l bN bY bE bG base : Nat) : Prop where
  h1 : Blk W bN 3 #[.int .i64 n]
  h2 : Blk W bY 194 #[.func (.yield l) #[] #[]]
  h3 : Blk W bE 48 #[.slice Ar E.length cr]
  h4 : Blk W bG 195 #[growF bN bY bE bG]
  rd : Reads W base 2 Ar E.length (pair2 E)
  lo : base ≤ W.heap.size
  cap : E.length ≤ cr
theorem GrowW.only {W W' : World} {n : Nat} {E : List (Nat × Nat)} {Ar : Option Addr} {cr l bN bY bE bG base : Nat} {D : Nat → Prop} (h : GrowW W n E Ar cr l bN bY bE bG base) (ho : Only D W W') (hd : ∀ k, Fix5 bN bY bE bG Ar k → ¬ D k) : GrowW W' n E Ar cr l bN bY bE bG base :=
  ⟨h.h1.only ho (hd _ (.inl rfl)), h.h2.only ho (hd _ (.inr (.inl rfl))), h.h3.only ho (hd _ (.inr (.inr (.inl rfl)))), h.h4.only ho (hd _ (.inr (.inr (.inr (.inl rfl))))), reads_onlyN h.rd ho h.lo fun _ hk => hd _ (.inr (.inr (.inr (.inr hk)))), Nat.le_trans h.lo ho.size, h.cap⟩
/-- The rest of the list of trees that a list of single edges grows to. -/
def growL (n : Nat) (E : List (Nat × Nat)) (t : List Nat) (e : Nat) : List (List Nat) := if t.length + 1 = n then [t] else treesG n E (E.length - e) t e
/-- What grow does: it yields L. -/
def GrowR (L xs pre : List (List Nat)) (J Jx : List (List Nat) → (Nat → Prop) → World → Prop) (base : Nat) (C : Nat → Prop) (A : Option Addr) (c : Nat) (t : List Nat) (W : World) (e : Ending) (W' : World) : Prop :=
  ∃ C' b, e = .returned (.bool b) ∧ Only (fun k => C k ∨ blockOf A k) W W' ∧ Grows C (fun _ => False) C' W W' ∧ (b = true → J (pre ++ L) C' W' ∧ OwnI W' base A c (nI t)) ∧ (b = false → ∃ pre', pre' <+: xs ∧ Jx pre' C' W')
/-- What a round is to be. -/
def Rounds (P : Program) (l : Nat) (J Jx : List (List Nat) → (Nat → Prop) → World → Prop) (xs : List (List Nat)) (base : Nat) : Prop :=
  ∀ pre x C W1 args O, pre ++ [x] <+: xs → J pre C W1 → base ≤ W1.heap.size → (∀ k, C k → k < W1.heap.size) → (∀ k, O k → ¬ C k ∧ k < W1.heap.size ∧ base ≤ k) → ArgT x args O W1 → Round P l J Jx pre x C O W1 args

theorem Only.tail {D D' : Nat → Prop} {a b c : World} (h : Only D a b) (k : Only D' b c) (hd : ∀ i, i < a.heap.size → D' i → D i) : Only D a c :=
  ⟨k.os.trans h.os, k.tape.trans h.tape, k.output.trans h.output, Nat.le_trans h.size k.size, fun i hi hn => (k.block i (Nat.lt_of_lt_of_le hi h.size) (fun hdi => hn (hd i hi hdi))).trans (h.block i hi hn)⟩
theorem Grows.tail {C C1 C2 O O' : Nat → Prop} {a b c : World} (h : Grows C O C1 a b) (k : Grows C1 O' C2 b c) (hs : a.heap.size ≤ b.heap.size) (hs2 : b.heap.size ≤ c.heap.size) (ho : ∀ i, O' i → a.heap.size ≤ i ∧ i < c.heap.size) : Grows C O C2 a c := fun i hi => by
  rcases k i hi with h1 | h1 | h1
  · rcases h i h1 with h2 | h2 | h2
    · exact .inl h2
    · exact .inr (.inl h2)
    · exact .inr (.inr ⟨h2.1, by omega⟩)
  · exact .inr (.inr (ho i h1))
  · exact .inr (.inr ⟨by omega, h1.2⟩)
theorem Grows.refl (C O : Nat → Prop) (a b : World) : Grows C O C a b := fun _ h => .inl h
set_option maxRecDepth 100000 in
set_option maxHeartbeats 4000000 in
theorem grow_leaf (n : Nat) (hn1 : 1 ≤ n) (hn : n ≤ 12) (E : List (Nat × Nat)) (Ar : Option Addr) (cr l bN bY bE bG base : Nat) (xs : List (List Nat)) (J Jx : List (List Nat) → (Nat → Prop) → World → Prop)
    (hY : Rounds Tryz.prog l J Jx xs base) (hJ : Bears base (fun _ => False) J)
    (t : List Nat) (ht : t.length + 1 = n) (e : Nat) (a0 a1 a2 a3 a4 a5 a6 a7 a8 a9 a10 a11 : Nat) (A : Option Addr) (c : Nat) (C : Nat → Prop) (pre : List (List Nat)) (W : World)
    (hW : GrowW W n E Ar cr l bN bY bE bG base) (hA : OwnI W base A c (nI t)) (hC : ∀ k, C k → k < W.heap.size ∧ ¬ Fix5 bN bY bE bG Ar k ∧ ¬ blockOf A k)
    (hp : pre ++ growL n E t e <+: xs) (h0 : J pre C W) :
    Calls Tryz.prog 160 #[.slice A t.length c, .int .i64 e, .agg #[.int .i64 a0, .int .i64 a1, .int .i64 a2, .int .i64 a3, .int .i64 a4, .int .i64 a5, .int .i64 a6, .int .i64 a7, .int .i64 a8, .int .i64 a9, .int .i64 a10, .int .i64 a11], .pointer (some ⟨bN, 0, none⟩), .pointer (some ⟨bY, 0, none⟩), .pointer (some ⟨bE, 0, none⟩), .pointer (some ⟨bG, 0, none⟩)] W
      fun en W' => GrowR (growL n E t e) xs pre J Jx base C A c t W en W' := by
  have hg : growL n E t e = [t] := if_pos ht
  rw [hg] at hp ⊢
  obtain ⟨W1, hW1⟩ : ∃ W1, W.alloc (.cells #[.int .i64 a0, .int .i64 a1, .int .i64 a2, .int .i64 a3, .int .i64 a4, .int .i64 a5, .int .i64 a6, .int .i64 a7, .int .i64 a8, .int .i64 a9, .int .i64 a10, .int .i64 a11] 174) = W1 := ⟨_, rfl⟩
  have ho1 : Only (fun _ => False) W W1 := by rw [← hW1]; exact (Only.refl _ W).alloc _
  have hG1 := hW.only ho1 (fun _ _ h => h)
  have hA1 : OwnI W1 base A c (nI t) := by rw [← hW1]; exact hA.alloc _
  have k1 := hG1.h1.cell 0
  have k2 := hG1.h2.cell 0
  have hnl := nI_length t
  have CL : Hid (∀ W2 : World, Reads W2 W2.heap.size 1 A (nI t).length (ints (nI t)) → Calls Tryz.prog 92 #[.slice A t.length c] W2 fun e w' => ∃ A' c', e = .returned (.slice A' t.length c') ∧ OwnI w' W2.heap.size A' c' (nI t) ∧ Below W2.heap.size W2 w') := by
    intro W2 hr
    have := clone_any A c (nI t) (by omega) W2 hr
    rw [hnl] at this
    exact this
  have hwn : IntKind.i64.wrap ((n : Int) - 1) = (n : Int) - 1 := IntWalk.i64_in _ (by omega)
  have hq : ((t.length : Int) == (n : Int) - 1) = true := by simp; omega
  have HY := Lib.hid hY
  have HP := Lib.hid hp
  have HJ := Lib.hid hJ
  have J1 := Lib.hid (hJ _ _ _ _ h0 (Stays.of_only ho1 (fun _ _ h => h.elim)))
  have HC := Lib.hid hC
  have HO1 := Lib.hid ho1
  have HA := Lib.hid hA
  have HA1 := Lib.hid hA1
  have HNL := Lib.hid hnl
  have hlo := hW.lo
  have HH2 := Lib.hid hG1.h2
  clear hY hp hJ h0 hC ho1 hA1 hA hnl hG1 hW ht hg
  refine (callsIn_wide (n := 3)).1 ?_
  refine callsIn_of_wp Tryz.func160 rfl trivial ?_
  simp only [Tryz.ntmps160, List.size_toArray, List.length_cons, List.length_nil, Nat.reduceAdd, Nat.reduceSub, Array.replicate_succ, Array.replicate_zero, List.push_toArray, List.append_toArray, List.nil_append, List.cons_append]
  gi_wp2_with fail
  clear hW1
  gi_region_with (first
    | (refine ⟨trivial, ?_⟩; gi_at_call 92; refine (inW (CL.out W1.drew (by exact HA1.out.reads))).mono ?_; rintro e w2 ⟨A', c', rfl, hown, hbel⟩
       have ho2 : Only (fun _ => False) W1 w2 := ((Only.refl _ W1).drew).trans (Only.of_new hbel)
       have cy : w2.cell? ⟨bY, 0, none⟩ = some (.func (.yield l) #[] #[]) := (HH2.out.only ho2 id).cell 0
       have hs1 := HO1.out.size
       have hs2 := ho2.size
       have hOw : Hid (∀ k, blockOf A' k → W1.heap.size ≤ k ∧ k < w2.heap.size) := fun k hk => hown.lt k (blockOf_own.2 hk)
       obtain ⟨fn, tmps, assign, body, hy, hR⟩ := HY.out pre t C w2 #[.slice A' t.length c'] (blockOf A') HP.out (HJ.out _ _ _ _ J1.out (Stays.of_only ho2 (fun _ _ h => h.elim))) (by omega) (fun k hk => by have := (HC.out k hk).1; omega) (fun k hk => ⟨fun h => by have := (HC.out k h).1; have := (hOw.out k hk).1; omega, (hOw.out k hk).2, by have := (hOw.out k hk).1; omega⟩) ⟨A', c', rfl, hown.mono (Nat.zero_le _), fun k hk => hk⟩)
    | (refine (roundIn_wide hR).mono ?_; rintro e w3 ⟨C2, b2, ho3, hg3, rfl, hj2, hx2⟩))
  all_goals (
    have EN : Hid (GrowR [t] xs pre J Jx base C A c t W (.returned (.bool b2)) w3) := by
      have hol : Only (fun _ => False) W w2 := HO1.out.trans ho2
      refine ⟨C2, b2, rfl, ?_, ?_, fun hb => ⟨hj2 hb, ?_⟩, fun hb => ⟨_, HP.out, hx2 hb⟩⟩
      · refine (hol.mono (fun _ _ h => h.elim)).tail ho3 fun i hi hd => ?_
        rcases hd with hd | hd
        · exact .inl hd
        · have := (hOw.out i hd).1; omega
      · exact (Grows.refl C _ W w2).tail hg3 hol.size ho3.size fun i hi => ⟨by have := (hOw.out i hi).1; omega, by have := (hOw.out i hi).2; have := ho3.size; omega⟩
      · refine (HA.out.only hol (fun _ _ h => h)).only ho3 fun k hk hd => ?_
        rcases hd with hd | hd
        · exact (HC.out k hd).2.2 hk
        · have h1 := (hOw.out k hd).1
          have h2 := (World.ownsRow.lt HA.out k (blockOf_own.2 hk)).2
          omega
    clear hj2 hx2 hR hy ho3 hg3 ho2 hown hbel
    gi_wp2
    go_ret
    exact EN.out)
end Go.Proofs.YtnbikkcalcpedaaGreatDoor

/-! A connected graph has a spanning tree. No program is in sight. -/
namespace Go.Proofs.YtnbikkcalcpedaaGreatDoor
/-- A connected graph has a spanning tree. -/
theorem tree_ex {n : Nat} {E : List (Nat × Nat)} (hb : BdP n E) (hc : partsP n E = 1) : ∃ t, IsTr n E t := by
  have key : ∀ k, k ≤ E.length → ∃ t : List Nat, t.Pairwise (· < ·) ∧ (∀ e ∈ t, e < k) ∧ Fo (pk E t) ∧ ∀ a b, Cn (pk E t) a b ↔ Cn (E.take k) a b := by
    intro k
    induction k with
    | zero => exact fun _ => ⟨[], .nil, by simp, trivial, fun a b => Iff.rfl⟩
    | succ k ih =>
      intro hk
      obtain ⟨t, h1, h2, h3, h4⟩ := ih (by omega)
      have hE := getD_some (E := E) (e := k) (by omega)
      have htk : E.take (k + 1) = E.take k ++ [E.getD k (0, 0)] := by rw [List.take_add_one, hE]; rfl
      have hsn : ∀ (ps : List (Nat × Nat)) (p : Nat × Nat) (a b : Nat), Cn (ps ++ [p]) a b ↔ Cn (p :: ps) a b := fun ps p a b => cn_same fun q => by simp [or_comm]
      by_cases hc : Cn (pk E t) (E.getD k (0, 0)).1 (E.getD k (0, 0)).2
      · refine ⟨t, h1, fun e he => by have := h2 e he; omega, h3, fun a b => ?_⟩
        rw [htk, hsn, cn_cons_of ((h4 _ _).1 hc), h4]
      · have hpk : pk E (t ++ [k]) = pk E t ++ [E.getD k (0, 0)] := by simp [pk]
        refine ⟨t ++ [k], ?_, ?_, ?_, fun a b => ?_⟩
        · rw [List.pairwise_append]
          exact ⟨h1, List.pairwise_singleton _ _, fun a ha b hb => by rw [List.mem_singleton] at hb; subst hb; exact h2 a ha⟩
        · intro e he
          rcases List.mem_append.1 he with he | he
          · have := h2 e he; omega
          · rw [List.mem_singleton] at he; omega
        · rw [hpk]
          refine (fo_append_snoc (n := n) ?_).2 ⟨h3, hc⟩
          rw [← hpk]
          exact bd_pk hb fun e he => by
            rcases List.mem_append.1 he with he | he
            · have := h2 e he; omega
            · rw [List.mem_singleton] at he; omega
        · rw [hpk, htk, hsn, hsn, cn_cons, cn_cons, h4, h4, h4, h4, h4]
  obtain ⟨t, h1, h2, h3, h4⟩ := key E.length (Nat.le_refl _)
  rw [List.take_length] at h4
  have hp : partsP n (pk E t) = 1 := by rw [partsP_congr h4]; exact hc
  have hl := (tree_of_fo (bd_pk hb h2) h3).1 hp
  rw [pk_length] at hl
  exact ⟨t, ⟨h1, h2⟩, hl, h3⟩
end Go.Proofs.YtnbikkcalcpedaaGreatDoor

