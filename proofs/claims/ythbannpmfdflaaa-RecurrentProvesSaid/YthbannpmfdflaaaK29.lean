/-
  Texts of this claim, put together: Legal.
-/
import Derived.Test.YthbannpmfdflaaaK28
import Derived.Test.YthbannpmfdflaaaK12
import Derived.Deep.QuietTactic
import Derived.BigQuiet
import Derived.BigRegion
import Derived.Test.YthbannpmfdflaaaK11
/-! Package firing: may a set fire legally? -/
/-! Sets of vertices: graph.Subset; slices.Index and Contains on ints; firing.given and subset. -/
namespace Go.Proofs.Ythbannpmfdflaaa
open Go.RowKit

/-- The error of a set of vertices. -/
def setFrom (n : Int) : Option Int → List Int → Int
  | _, [] => 0
  | p, x :: xs => if vertB n x = false then 2 else match p with
    | none => setFrom n (some x) xs
    | some y => if x ≤ y then 9 else setFrom n (some x) xs
def prevI (xs : List Int) (k : Nat) : Option Int := if k = 0 then none else xs[k - 1]?
theorem setFrom_drop {n : Int} {xs : List Int} {k : Nat} {x : Int} (h : xs[k]? = some x) :
    setFrom n (prevI xs k) (xs.drop k) = if vertB n x = false then 2 else match prevI xs k with
      | none => setFrom n (prevI xs (k + 1)) (xs.drop (k + 1))
      | some y => if x ≤ y then 9 else setFrom n (prevI xs (k + 1)) (xs.drop (k + 1)) := by
  obtain ⟨l1, e1⟩ := List.getElem?_eq_some_iff.1 h
  have hp : prevI xs (k + 1) = some x := by simp [prevI, h]
  rw [List.drop_eq_getElem_cons l1, e1, setFrom.eq_def, hp]
def setErr (n : Int) (xs : List Int) : Int := setFrom n none xs
/-- .. of a graph with a set of vertices. -/
def subErr (n : Int) (es : List E3) (xs : List Int) : Int := if checkG n es ≠ 0 then checkG n es else setErr n xs

set_option maxRecDepth 100000 in
set_option maxHeartbeats 4000000 in
theorem subset_any (n : Int) (A : Option Addr) (c : Nat) (es : List E3) (hn : es.length ≤ 1048576) (B : Option Addr) (d : Nat) (xs : List Int) (hm : xs.length ≤ 1048576) (w : World) (h : Reads w w.heap.size 3 A es.length (edgeCells es)) (h' : Reads w w.heap.size 1 B xs.length (ints xs)) :
    Calls Try.prog 72 #[.agg #[.int .i64 n, .slice A es.length c], .slice B xs.length d] w fun e w' => e = .returned (.int .i64 (subErr n es xs)) ∧ Below w.heap.size w w' := by
  have GC := gcheck_any n A c es hn
  have g0 := Blk.new w 24 #[.int .i64 n, .slice A es.length c]
  by_cases h1 : checkG n es = 0
  · have hd : subErr n es xs = setErr n xs := by unfold subErr; rw [if_neg (fun hc => hc h1)]
    rw [hd]
    rw [h1] at GC
    have GC := Lib.hid GC
    obtain ⟨r, hr⟩ : ∃ r, setErr n xs = r := ⟨_, rfl⟩
    rw [hr]
    have HR := Lib.hid hr
    clear h1 hd hr
    go_enter Try.func72, Try.ntmps72
    go_wp2_with fail
    refine (GC.out _ ((h.alloc (Nat.le_refl _) _).more (by simp))).mono ?_
    rintro e w1 ⟨rfl, hb1⟩
    have hbel1 : Below w.heap.size w w1 := ((Below.refl _ _).alloc (Nat.le_refl _) _).trans (hb1.mono (by simp))
    have g1 := g0.next hb1
    have c0 := g1.cell 0
    have hr1 := h'.below hbel1
    go_wp2
    go_loop [15] (fun i => ∃ k : Nat, k ≤ xs.length ∧ i = .int .i64 k ∧ Hid (setErr n xs = setFrom n (prevI xs k) (xs.drop k))) (fun i => xs.length - (intOf i).toNat)
    case atStart => exact ⟨0, by omega, rfl, rfl⟩
    case round =>
      obtain ⟨k, hk, rfl, HS⟩ := hrel
      by_cases hlt : k < xs.length
      · obtain ⟨x, hx⟩ := get_of_lt hlt
        obtain ⟨b, off, rfl, hb', hcell⟩ := hr1.at_ (ints_at hx)
        have hi : (k : Int) < (xs.length : Int) := by omega
        have hd := setFrom_drop (n := n) hx
        rw [← HS.out] at hd
        cases hv : vertB n x
        · rw [hv] at hd
          have HD := Lib.hid hd
          clear hd hx h h'
          go_wp2_with (go_at_call 123; refine (vertex_any _ _ _).mono ?_; rintro e w' ⟨rfl, rfl⟩)
          go_ret
          exact ⟨ret_int (by rw [← HR.out, HD.out]; rfl), hbel1⟩
        · rw [hv] at hd
          simp only [Bool.true_eq_false, if_false] at hd
          rcases k with _ | k
          · have hd2 : setErr n xs = setFrom n (prevI xs (0 + 1)) (xs.drop (0 + 1)) := hd
            have HD := Lib.hid hd2
            have h0 : ¬ (0 : Int) < ((0 : Nat) : Int) := by omega
            rw [Nat.add_zero] at hcell
            clear hd hd2 hx h h'
            go_wp2_with (go_at_call 123; refine (vertex_any _ _ _).mono ?_; rintro e w' ⟨rfl, rfl⟩)
            go_round
            case rel => exact ⟨1, by omega, by go_num, HD.out⟩
            case measure => simp [intOf]; omega
          · obtain ⟨y, hy⟩ := get_of_lt (xs := xs) (k := k) (by omega)
            obtain ⟨b2, off2, hA2, hb2, hcell2⟩ := hr1.at_ (ints_at hy)
            injection hA2 with hA2; injection hA2 with e1 e2; subst e1 e2
            have hpk : prevI xs (k + 1) = some y := by simp [prevI, hy]
            rw [hpk] at hd
            dsimp only at hd
            have hk1 : (((k + 1 : Nat) : Int) - 1) = (k : Int) := by omega
            have hk2 : (k : Int) + 1 - 1 = (k : Int) := by omega
            have hk3 : (k : Int) < (xs.length : Int) := by omega
            have hk4 : (0 : Int) < (k : Int) + 1 := by omega
            by_cases hxy : x ≤ y
            · rw [if_pos hxy] at hd
              have HD := Lib.hid hd
              clear hd hx hy h h' hpk
              go_wp2_with (go_at_call 123; refine (vertex_any _ _ _).mono ?_; rintro e w' ⟨rfl, rfl⟩)
              go_ret
              exact ⟨ret_int (by rw [← HR.out, HD.out]), hbel1⟩
            · rw [if_neg hxy] at hd
              have HD := Lib.hid hd
              clear hd hx hy h h' hpk
              go_wp2_with (go_at_call 123; refine (vertex_any _ _ _).mono ?_; rintro e w' ⟨rfl, rfl⟩)
              go_round
              case rel => exact ⟨k + 1 + 1, by omega, by go_num, HD.out⟩
              case measure => simp [intOf]; omega
      · obtain rfl : k = xs.length := by omega
        go_wp2
        go_ret
        exact ⟨ret_int (by rw [← HR.out, HS.out, List.drop_length]; rfl), hbel1⟩
  · have hd : subErr n es xs = checkG n es := by unfold subErr; rw [if_pos h1]
    rw [hd]
    obtain ⟨q, hq⟩ : ∃ q, checkG n es = q := ⟨_, rfl⟩
    rw [hq] at GC h1 ⊢
    have hb : (q != 0) = true := by simpa using h1
    have GC := Lib.hid GC
    clear h1 hd hq
    go_enter Try.func72, Try.ntmps72
    go_wp2_with fail
    refine (GC.out _ ((h.alloc (Nat.le_refl _) _).more (by simp))).mono ?_
    rintro e w1 ⟨rfl, hb1⟩
    have hbel1 : Below w.heap.size w w1 := ((Below.refl _ _).alloc (Nat.le_refl _) _).trans (hb1.mono (by simp))
    go_wp2
    go_ret
    exact ⟨rfl, hbel1⟩

set_option maxHeartbeats 1000000 in
theorem index_any (A : Option Addr) (c : Nat) (xs : List Int) (hn : xs.length ≤ 1048576) (v : Int) (w : World) (h : Reads w w.heap.size 1 A xs.length (ints xs)) :
    Calls Try.prog 75 #[.slice A xs.length c, .int .i64 v] w fun e w' => ∃ r : Int, e = .returned (.int .i64 r) ∧ Hid (0 ≤ r ↔ v ∈ xs) ∧ w = w' := by
  go_enter Try.func75, Try.ntmps75
  go_wp2
  go_loop [8] (fun i => ∃ k : Nat, k ≤ xs.length ∧ i = .int .i64 k ∧ Hid (v ∉ xs.take k)) (fun i => xs.length - (intOf i).toNat)
  case atStart => exact ⟨0, by omega, rfl, by simp [Hid]⟩
  case round =>
    obtain ⟨k, hk, rfl, HS⟩ := hrel
    by_cases hlt : k < xs.length
    · obtain ⟨x, hx⟩ := get_of_lt hlt
      obtain ⟨b, off, rfl, hb, hcell⟩ := h.at_ (ints_at hx)
      have hi : (k : Int) < (xs.length : Int) := by omega
      have htk := take_snoc hx
      by_cases hv : v = x
      · have e : (v == x) = true := by simpa using hv
        have HT : Hid (v ∈ xs) := by rw [hv]; exact List.mem_of_getElem? hx
        clear hx htk hv
        go_wp2
        go_ret
        exact ⟨k, rfl, ⟨fun _ => HT.out, fun _ => by omega⟩, rfl⟩
      · have e : (v == x) = false := by simpa using hv
        have HN : Hid (v ∉ xs.take (k + 1)) := by
          rw [htk, Hid, List.mem_append]
          rintro (hc | hc)
          · exact HS.out hc
          · exact hv (List.mem_singleton.1 hc)
        clear hx htk hv
        go_wp2
        go_round
        case rel => exact ⟨k + 1, by omega, by go_num, HN⟩
        case measure => simp [intOf]; omega
    · obtain rfl : k = xs.length := by omega
      rw [List.take_length] at HS
      go_wp2
      go_ret
      exact ⟨-1, rfl, ⟨fun h => absurd h (by decide), fun h => absurd h HS.out⟩, rfl⟩
set_option maxHeartbeats 1000000 in
theorem contains_any (A : Option Addr) (c : Nat) (xs : List Int) (hn : xs.length ≤ 1048576) (v : Int) (w : World) (h : Reads w w.heap.size 1 A xs.length (ints xs)) :
    Calls Try.prog 24 #[.slice A xs.length c, .int .i64 v] w fun e w' => e = .returned (.bool (decide (v ∈ xs))) ∧ w = w' := by
  have IC := Lib.hid (index_any A c xs hn v w h)
  go_enter Try.func24, Try.ntmps24
  go_wp2_with fail
  refine (IC.out).mono ?_
  rintro e w1 ⟨r, rfl, HR, rfl⟩
  go_wp2
  go_ret
  exact ⟨ret_bool (by rw [Bool.eq_iff_iff]; simp [HR.out]), rfl⟩

/-- The error of a graph with a divisor on its vertices. -/
def givErr (n : Int) (es : List E3) (cs : List Int) : Int := if checkG n es ≠ 0 then checkG n es else divErr cs n
set_option maxHeartbeats 1000000 in
theorem given_any (n : Int) (A : Option Addr) (c : Nat) (es : List E3) (hn : es.length ≤ 1048576) (B : Option Addr) (d : Nat) (cs : List Int) (hm : cs.length ≤ 1048576) (w : World) (h : Reads w w.heap.size 3 A es.length (edgeCells es)) (h' : Reads w w.heap.size 1 B cs.length (ints cs)) :
    Calls Try.prog 85 #[.agg #[.int .i64 n, .slice A es.length c], .slice B cs.length d] w fun e w' => e = .returned (.int .i64 (givErr n es cs)) ∧ Below w.heap.size w w' := by
  have GC := gcheck_any n A c es hn
  have DC := Lib.hid (dcheck_any B d cs hm n)
  have g0 := Blk.new w 24 #[.int .i64 n, .slice A es.length c]
  unfold givErr
  obtain ⟨q, hq⟩ : ∃ q, checkG n es = q := ⟨_, rfl⟩
  rw [hq] at GC ⊢
  have GC := Lib.hid GC
  by_cases h1 : q = 0
  · rw [if_neg (fun hc => hc h1)]
    subst h1
    go_enter Try.func85, Try.ntmps85
    go_wp2_with fail
    refine (GC.out _ ((h.alloc (Nat.le_refl _) _).more (by simp))).mono ?_
    rintro e w1 ⟨rfl, hb1⟩
    have hbel1 : Below w.heap.size w w1 := ((Below.refl _ _).alloc (Nat.le_refl _) _).trans (hb1.mono (by simp))
    have g1 := g0.next hb1
    have c0 := g1.cell 0
    go_wp2_with fail
    refine (DC.out _ ((h'.below hbel1).more hbel1.size)).mono ?_
    rintro e w2 ⟨rfl, rfl⟩
    go_wp2
    go_ret
    exact ⟨rfl, hbel1⟩
  · rw [if_pos h1]
    have hb : (q != 0) = true := by simpa using h1
    clear h1 hq
    go_enter Try.func85, Try.ntmps85
    go_wp2_with fail
    refine (GC.out _ ((h.alloc (Nat.le_refl _) _).more (by simp))).mono ?_
    rintro e w1 ⟨rfl, hb1⟩
    have hbel1 : Below w.heap.size w w1 := ((Below.refl _ _).alloc (Nat.le_refl _) _).trans (hb1.mono (by simp))
    go_wp2
    go_ret
    exact ⟨rfl, hbel1⟩
end Go.Proofs.Ythbannpmfdflaaa

namespace Go.Proofs.Ythbannpmfdflaaa
open Go.RowKit

/-- The vertex of a set from which an edge leads out of the set. -/
def goesE (S : List Int) (e : E3) : Option Int := if e.1 ∈ S ∧ e.2.1 ∉ S then some e.1 else if e.2.1 ∈ S ∧ e.1 ∉ S then some e.2.1 else none
def lostE : List E3 → List Int → Int → Int
  | [], _, _ => 0
  | e :: es, S, v => (if goesE S e = some v then e.2.2 else 0) + lostE es S v
def leavesE (es : List E3) (S : List Int) : Bool := es.any fun e => (goesE S e).isSome
theorem lostE_append (es fs : List E3) (S : List Int) (v : Int) : lostE (es ++ fs) S v = lostE es S v + lostE fs S v := by
  induction es with
  | nil => simp [lostE]
  | cons e es ih => rw [List.cons_append, lostE, lostE, ih]; omega
theorem lostE_take {es : List E3} {k : Nat} {e : E3} (h : es[k]? = some e) (S : List Int) (v : Int) : lostE (es.take (k + 1)) S v = lostE (es.take k) S v + if goesE S e = some v then e.2.2 else 0 := by
  rw [take_snoc h, lostE_append, lostE, lostE]; omega
theorem lostE_bd {N : Int} {es : List E3} (h : ∀ e ∈ es, okE N e) (S : List Int) (v : Int) : 0 ≤ lostE es S v ∧ lostE es S v ≤ 50 * es.length := by
  induction es with
  | nil => simp [lostE]
  | cons e es ih =>
    have h1 := h e (by simp)
    have h2 := ih fun x hx => h x (by simp [hx])
    unfold okE at h1
    rw [lostE]
    simp only [List.length_cons]
    split <;> omega
/-- What all vertices lose. -/
def lostL (n : Nat) (es : List E3) (S : List Int) : List Int := (List.range n).map fun v : Nat => lostE es S v
theorem lostL_length (n : Nat) (es : List E3) (S : List Int) : (lostL n es S).length = n := by simp [lostL]
theorem lostL_get {n : Nat} {es : List E3} {S : List Int} {v : Nat} (h : v < n) : (lostL n es S)[v]? = some (lostE es S v) := by
  unfold lostL; rw [List.getElem?_map, List.getElem?_range h]; rfl
theorem lostL_same {n : Nat} {es : List E3} {k : Nat} {e : E3} {S : List Int} (h : es[k]? = some e) (hg : goesE S e = none) : lostL n (es.take (k + 1)) S = lostL n (es.take k) S := by
  unfold lostL
  apply List.map_congr_left
  intro v _
  rw [lostE_take h, hg, if_neg (by simp), Int.add_zero]
theorem lostL_set {n : Nat} {es : List E3} {k : Nat} {e : E3} {S : List Int} {a : Nat} (h : es[k]? = some e) (hg : goesE S e = some (a : Int)) : lostL n (es.take (k + 1)) S = (lostL n (es.take k) S).set a (lostE (es.take k) S a + e.2.2) := by
  apply List.ext_getElem?
  intro i
  rw [List.getElem?_set, lostL_length]
  by_cases hi : i < n
  · rw [lostL_get hi, lostL_get hi, lostE_take h, hg]
    by_cases he : a = i
    · subst he; simp [hi]
    · rw [if_neg he, if_neg (by simp; omega), Int.add_zero]
  · rw [List.getElem?_eq_none (by rw [lostL_length]; omega), List.getElem?_eq_none (by rw [lostL_length]; omega)]
    split <;> (try split) <;> first | rfl | omega
theorem leavesE_take {es : List E3} {k : Nat} {e : E3} (h : es[k]? = some e) (S : List Int) : leavesE (es.take (k + 1)) S = (leavesE (es.take k) S || (goesE S e).isSome) := by
  rw [take_snoc h]; simp [leavesE]

/-- The error of a graph, a divisor and a set. -/
def legErr (n : Int) (es : List E3) (cs S : List Int) : Int := if givErr n es cs ≠ 0 then givErr n es cs else subErr n es S
set_option maxHeartbeats 1000000 in
theorem fsubset_any (n : Int) (A : Option Addr) (c : Nat) (es : List E3) (hn : es.length ≤ 1048576) (B : Option Addr) (d : Nat) (cs : List Int) (hm : cs.length ≤ 1048576) (D : Option Addr) (f : Nat) (S : List Int) (hs : S.length ≤ 1048576) (w : World)
    (h : Reads w w.heap.size 3 A es.length (edgeCells es)) (h' : Reads w w.heap.size 1 B cs.length (ints cs)) (h'' : Reads w w.heap.size 1 D S.length (ints S)) :
    Calls Try.prog 124 #[.agg #[.int .i64 n, .slice A es.length c], .slice B cs.length d, .slice D S.length f] w fun e w' => e = .returned (.int .i64 (legErr n es cs S)) ∧ Below w.heap.size w w' := by
  have GC := given_any n A c es hn B d cs hm
  have SC := Lib.hid (subset_any n A c es hn D f S hs)
  have g0 := Blk.new w 24 #[.int .i64 n, .slice A es.length c]
  unfold legErr
  obtain ⟨q, hq⟩ : ∃ q, givErr n es cs = q := ⟨_, rfl⟩
  rw [hq] at GC ⊢
  have GC := Lib.hid GC
  by_cases h1 : q = 0
  · rw [if_neg (fun hc => hc h1)]
    subst h1
    go_enter Try.func124, Try.ntmps124
    go_wp2_with fail
    refine (GC.out _ ((h.alloc (Nat.le_refl _) _).more (by simp)) ((h'.alloc (Nat.le_refl _) _).more (by simp))).mono ?_
    rintro e w1 ⟨rfl, hb1⟩
    have hbel1 : Below w.heap.size w w1 := ((Below.refl _ _).alloc (Nat.le_refl _) _).trans (hb1.mono (by simp))
    have g1 := g0.next hb1
    have c0 := g1.cell 0
    have c1 := g1.cell 1
    go_wp2_with fail
    refine (SC.out _ ((h.below hbel1).more hbel1.size) ((h''.below hbel1).more hbel1.size)).mono ?_
    rintro e w2 ⟨rfl, hb2⟩
    go_wp2
    go_ret
    exact ⟨rfl, hbel1.trans (hb2.mono hbel1.size)⟩
  · rw [if_pos h1]
    have hb : (q != 0) = true := by simpa using h1
    clear h1 hq
    go_enter Try.func124, Try.ntmps124
    go_wp2_with fail
    refine (GC.out _ ((h.alloc (Nat.le_refl _) _).more (by simp)) ((h'.alloc (Nat.le_refl _) _).more (by simp))).mono ?_
    rintro e w1 ⟨rfl, hb1⟩
    have hbel1 : Below w.heap.size w w1 := ((Below.refl _ _).alloc (Nat.le_refl _) _).trans (hb1.mono (by simp))
    go_wp2
    go_ret
    exact ⟨rfl, hbel1⟩

set_option maxHeartbeats 1000000 in
/-- enough: are there as many chips as a vertex loses? -/
theorem enough_any (gd gl : Nat) (B : Option Addr) (d : Nat) (cs : List Int) (n : Nat) (hcl : cs.length = n) (es : List E3) (S : List Int) (gL : Nat) (v : Nat) (hv : v < n) (w : World)
    (h1 : Blk w gd 26 #[.slice B cs.length d]) (h2 : Blk w gl 25 #[.slice (some ⟨gL, 0, none⟩) n n]) (h3 : Reads w w.heap.size 1 B cs.length (ints cs)) (h4 : Blk w gL 3 (intCells (lostL n es S))) :
    Calls Try.prog 125 #[.int .i64 v, .pointer (some ⟨gd, 0, none⟩), .pointer (some ⟨gl, 0, none⟩)] w fun e w' => e = .returned (.bool (decide (lostE es S v ≤ cs.getD v 0))) ∧ ∃ m, w' = w.drewN m := by
  obtain ⟨x, hx⟩ := get_of_lt (xs := cs) (k := v) (by omega)
  obtain ⟨b, off, rfl, hb, hcell⟩ := h3.at_ (ints_at hx)
  have c1 := h1.cell 0
  have c2 := h2.cell 0
  have c4 := h4.cell v
  rw [intCells_get (lostL_get hv)] at c4
  rw [getD_at hx]
  have hi : (v : Int) < (n : Int) := by omega
  have hi2 : (v : Int) < (cs.length : Int) := by omega
  obtain ⟨y, hy⟩ : ∃ y, lostE es S v = y := ⟨_, rfl⟩
  rw [hy] at c4 ⊢
  clear hy hx hcl
  go_enter Try.func125, Try.ntmps125
  go_wp2
  go_quiet (fail)
  go_wp2
  go_ret
  exact ⟨ret_bool (by rfl), ⟨_, rfl⟩⟩
end Go.Proofs.Ythbannpmfdflaaa

