/-
  Texts of this claim, put together: RListP, RMinimal, SFire, SNext.
-/
import Derived.Test.YtdnoeaoelgehcaaGreatK13
import Derived.Test.YtdnoeaoelgehcaaGreatK21
import Derived.Test.YtdnoeaoelgehcaaGreatK18
import Derived.Test.YtdnoeaoelgehcaaGreatK20
/-! Plain: the recurrent configurations are those below the maximal stable one with the property; they are few. -/
namespace Go.Proofs.YtdnoeaoelgehcaaGreat
open Go.RowKit

theorem bel_mem {top : List Int} : ∀ v, ∀ p ∈ belL top v, p.length = v ∧ ∀ i, i < v → 0 ≤ p.getD i 0 ∧ p.getD i 0 ≤ top.getD i 0
  | 0, p, h => by simp [belL] at h; subst h; exact ⟨rfl, fun i hi => by omega⟩
  | v + 1, p, h => by
    rw [belL, List.mem_flatMap] at h
    obtain ⟨x, hx, h⟩ := h
    rw [List.mem_map] at h
    obtain ⟨k, hk, rfl⟩ := h
    have hk := List.mem_range.1 hk
    obtain ⟨h1, h2⟩ := bel_mem v x hx
    refine ⟨by simp [h1], fun i hi => ?_⟩
    by_cases hiv : i < v
    · rw [List.getD_eq_getElem?_getD, List.getElem?_append_left (by omega), ← List.getD_eq_getElem?_getD]
      exact h2 i hiv
    · obtain rfl : i = v := by omega
      have e : (x ++ [(k : Int)]).getD i 0 = k := by rw [List.getD_eq_getElem?_getD, List.getElem?_append_right (by omega), h1]; simp
      rw [e]
      omega
theorem bel_len {top : List Int} (v : Nat) : (belL top (v + 1)).length = (belL top v).length * (top.getD v 0 + 1).toNat := by
  rw [belL, List.length_flatMap]
  have : ∀ l : List (List Int), (l.map fun p => ((List.range (top.getD v 0 + 1).toNat).map fun k : Nat => p ++ [(k : Int)]).length).sum = l.length * (top.getD v 0 + 1).toNat := by
    intro l
    induction l with
    | nil => simp
    | cons a l ih => rw [List.map_cons, List.sum_cons, ih, List.length_map, List.length_range, List.length_cons, Nat.add_mul]; omega
  exact this _
theorem bel_few {top : List Int} {q K : Nat} (hK : ∀ v, v ≠ q → top.getD v 0 + 1 ≤ K) (hq : top.getD q 0 = 0) : ∀ v, (belL top v).length * (if q < v then K else 1) ≤ K ^ v
  | 0 => by simp [belL]
  | v + 1 => by
    have ih := bel_few hK hq v
    rw [bel_len, Nat.pow_succ]
    by_cases h : v = q
    · subst h
      rw [if_neg (Nat.lt_irrefl _), Nat.mul_one] at ih
      rw [if_pos (Nat.lt_succ_self _), hq]
      have : ((0 : Int) + 1).toNat = 1 := rfl
      rw [this, Nat.mul_one]
      exact Nat.mul_le_mul_right K ih
    · have h1 := hK v h
      have h2 : (top.getD v 0 + 1).toNat ≤ K := by omega
      have h3 : (if q < v + 1 then K else 1) = if q < v then K else 1 := by
        by_cases h4 : q < v
        · rw [if_pos h4, if_pos (by omega)]
        · rw [if_neg h4, if_neg (by omega)]
      rw [h3, Nat.mul_right_comm]
      exact Nat.mul_le_mul ih h2
section
variable {n q : Nat} {es : List E3}
theorem maxL_stab (hG : RightG n es) {y : List Int} (h : ∀ i, i < n → y.getD i 0 ≤ (maxL n es q).getD i 0) : stabTo es y q n = true := by
  rw [stabTo_iff]
  intro v hv hvq
  have h1 := h v hv
  rw [maxL_get hG.ok hv, if_neg hvq] at h1
  omega
theorem recsL_bel (hG : RightG n es) (hq : q < n) : recsL n es q = (belL (maxL n es q) n).filter (recP n es q) := by
  unfold recsL
  refine enum_bel (fun x y _ h1 h2 hr => ?_) (maxL_length n es q)
  exact recB_mono hG hq h1 (maxL_stab hG h2) hr
theorem recsL_mem (hG : RightG n es) (hq : q < n) {xs : List Int} (h : xs ∈ recsL n es q) : xs.length = n ∧ recB n es xs q = true ∧ ∀ i, i < n → 0 ≤ xs.getD i 0 ∧ xs.getD i 0 ≤ (maxL n es q).getD i 0 := by
  rw [recsL_bel hG hq, List.mem_filter] at h
  obtain ⟨h1, h2⟩ := bel_mem n xs h.1
  exact ⟨h1, h.2, h2⟩
theorem recsL_bd (hx : rootErr n es q = 0) (hlen : es.length ≤ 10000) {xs : List Int} (h : xs ∈ recsL n es q) : xs.length = n ∧ ∀ x ∈ xs, -1048575 ≤ x ∧ x ≤ 1048577 := by
  obtain ⟨_, hG, _, hq⟩ := root_zero hx
  obtain ⟨h1, _, h2⟩ := recsL_mem hG hq h
  have hF := maxL_fix hlen hx
  refine ⟨h1, fun x hxm => ?_⟩
  obtain ⟨i, hi⟩ := List.getElem?_of_mem hxm
  have hin : i < n := by have := (List.getElem?_eq_some_iff.1 hi).1; omega
  have h3 := h2 i hin
  rw [getD_at hi] at h3
  obtain ⟨t, ht⟩ := get_of_lt (xs := maxL n es q) (k := i) (by rw [maxL_length]; exact hin)
  have h4 := hF.htb t (List.mem_of_getElem? ht)
  rw [getD_at ht] at h3
  omega
theorem recsL_few {K : Nat} (hx : rootErr n es q = 0) (hK1 : 1 ≤ K) (hK : ∀ v, valE es v ≤ K) : (recsL n es q).length * K ≤ K ^ n := by
  obtain ⟨_, hG, _, hq⟩ := root_zero hx
  rw [recsL_bel hG hq]
  have h1 := bel_few (top := maxL n es q) (q := q) (K := K) (fun v hv => by
    by_cases hvn : v < n
    · rw [maxL_get hG.ok hvn, if_neg hv]
      have := hK v
      omega
    · rw [List.getD_eq_getElem?_getD, List.getElem?_eq_none (by rw [maxL_length]; omega)]
      simp; omega) (by rw [maxL_get hG.ok hq, if_pos rfl]) n
  rw [if_pos hq] at h1
  exact Nat.le_trans (Nat.mul_le_mul_right K (List.length_filter_le _ _)) h1
end
end Go.Proofs.YtdnoeaoelgehcaaGreat

/-! Package recurrent: All and Minimal, with errors. -/
namespace Go.Proofs.YtdnoeaoelgehcaaGreat
open Go.RowKit Go.Shelf

/-- What All returns. -/
def allE (n : Int) (es : List E3) (q : Int) : List (List Int) × Int := if rootErr n es q = 0 then (recsL n.toNat es q.toNat, 0) else ([], rootErr n es q)
/-- What Minimal returns. -/
def minimE (n : Int) (es : List E3) (q : Int) : List (List Int) × Int := if rootErr n es q = 0 then ((recsL n.toNat es q.toNat).filter fun xs => minTo n.toNat es q.toNat xs n.toNat, 0) else ([], rootErr n es q)
theorem root_nat {n q : Int} {es : List E3} (hx : rootErr n es q = 0) : ∃ m p : Nat, n = m ∧ q = p := by
  rcases root_cases n es q with ⟨h1, h2⟩ | ⟨_, _, h2⟩ | ⟨_, _, _, h2⟩ | ⟨h1, h2, h3, _⟩
  · rw [hx] at h2; exact absurd h2.symm h1
  · rw [hx] at h2; cases h2
  · rw [hx] at h2; cases h2
  · have hG := right_of h1
    have hlo := hG.lo
    have := vertB_true.1 h3
    obtain ⟨m, rfl⟩ := Int.eq_ofNat_of_zero_le (show 0 ≤ n by omega)
    obtain ⟨p, rfl⟩ := Int.eq_ofNat_of_zero_le this.1
    exact ⟨m, p, rfl, rfl⟩

theorem RowsR.nil_ (w : World) (B : Nat) : RowsR w B none [] := ⟨[], Reads.nil_, fun i xs h => by cases h⟩
set_option maxHeartbeats 4000000 in
theorem rall_any (n : Int) (A : Option Addr) (cA : Nat) (es : List E3) (hlen : es.length ≤ 10000) (q : Int) (hxl : (allE n es q).1.length ≤ 16384) (w : World) (h : Reads w w.heap.size 3 A es.length (edgeCells es)) :
    Calls Tryz.prog 30 #[.agg #[.int .i64 n, .slice A es.length cA], .int .i64 q] w fun e w' => ∃ Ar cr, e = .returned (.tuple #[.slice Ar (allE n es q).1.length cr, .int .i64 (allE n es q).2]) ∧ RowsR w' w'.heap.size Ar (allE n es q).1 ∧ Below w.heap.size w w' := by
  by_cases hx : rootErr n es q = 0
  · obtain ⟨m, p, rfl, rfl⟩ := root_nat hx
    have hE : allE m es p = (recsL m es p, 0) := by unfold allE; rw [if_pos hx]; simp
    rw [hE] at hxl ⊢
    refine (rall_ok m A cA es hlen p hx _ rfl hxl w h).mono ?_
    rintro e w' ⟨Ar, cr, vs, he, ho, hb⟩
    exact ⟨Ar, cr, he, ho.reads, hb⟩
  · obtain ⟨z, hz⟩ : ∃ z, rootErr n es q = z := ⟨_, rfl⟩
    have hE : allE n es q = ([], z) := by unfold allE; rw [if_neg hx, hz]
    rw [hE]
    have hz0 : (z == 0) = false := by rw [← hz]; simpa using hx
    have hz1 : (z != 0) = true := by rw [← hz]; simpa using hx
    have MB := Lib.hid (maximal_bad n A cA es hlen q z hz hz0)
    clear hxl hE hx hz
    have g0 := Blk.new w 24 #[.int .i64 n, .slice A es.length cA]
    refine (callsIn_wide (n := 3)).1 ?_
    refine callsIn_of_wp_marks Tryz.func30 rfl trivial ?_
    simp only [Tryz.ntmps30, List.size_toArray, List.length_cons, List.length_nil, Nat.reduceAdd, Nat.reduceSub, Array.replicate_succ, Array.replicate_zero, List.push_toArray, List.append_toArray, List.nil_append, List.cons_append]
    gi_wp2_with fail
    obtain ⟨w0, hw0⟩ : ∃ w0, ((w.alloc (.cells #[.int .i64 n, .slice A es.length cA] 24)).alloc (.cells #[.slice none 0 0] 61)).alloc (.cells #[.int .i64 0] 31) = w0 := ⟨_, rfl⟩
    have hs0 : w0.heap.size = w.heap.size + 3 := by rw [← hw0]; simp
    have hB0 : Below w.heap.size w w0 := by rw [← hw0]; exact (((Below.refl _ _).alloc (Nat.le_refl _) _).alloc (by simp) _).alloc (by simp; omega) _
    have r1 : Blk w0 (w.heap.size + 1) 61 #[.slice none 0 0] := by rw [← hw0]; exact (Blk.new_at (by simp)).alloc _
    have r2 : Blk w0 (w.heap.size + 2) 31 #[.int .i64 0] := by rw [← hw0]; exact Blk.new_at (by simp)
    rw [hw0]
    refine ⟨trivial, ?_⟩
    refine (inW (MB.out _ ((h.below hB0).more hB0.size))).mono ?_
    rintro e w1 ⟨rfl, hb1⟩
    have hB1 : Below w.heap.size w w1 := hB0.trans (hb1.mono hB0.size)
    have i6 := r1.next hb1
    have i7 := r2.next hb1
    have e4 := i6.cell 0
    have e5 := i7.cell 0
    have f4 := i6.frozen 0
    have f5 := i7.frozen 0
    clear hw0 r1 r2 hb1 g0 hB0
    gi_wp2
    have g1 : Blk ((w1.setCell ⟨w.heap.size + 1, 0, none⟩ (.slice none 0 0)).setCell ⟨w.heap.size + 2, 0, none⟩ (.int .i64 z)) (w.heap.size + 1) 61 #[.slice none 0 0] := by
      have := (i6.set_ 0 (.slice none 0 0)).far (p := ⟨w.heap.size + 2, 0, none⟩) (by simp) (.int .i64 z)
      simpa using this
    have g2 : Blk ((w1.setCell ⟨w.heap.size + 1, 0, none⟩ (.slice none 0 0)).setCell ⟨w.heap.size + 2, 0, none⟩ (.int .i64 z)) (w.heap.size + 2) 31 #[.int .i64 z] := by
      have := (i7.far (p := ⟨w.heap.size + 1, 0, none⟩) (by simp) (.slice none 0 0)).set_ 0 (.int .i64 z)
      simpa using this
    have g4 : Below w.heap.size w ((w1.setCell ⟨w.heap.size + 1, 0, none⟩ (.slice none 0 0)).setCell ⟨w.heap.size + 2, 0, none⟩ (.int .i64 z)) := (hB1.setCell (by simp) _).setCell (by simp) _
    obtain ⟨Wf, hWf⟩ : ∃ Wf, (w1.setCell ⟨w.heap.size + 1, 0, none⟩ (.slice none 0 0)).setCell ⟨w.heap.size + 2, 0, none⟩ (.int .i64 z) = Wf := ⟨_, rfl⟩
    rw [hWf] at g1 g2 g4
    have p2 := g1.cell 0
    have p3 := g2.cell 0
    rw [show w.heap.size + 1 + 1 = w.heap.size + 2 from rfl, hWf]
    exact end_none (v := .tuple #[.slice none 0 0, .int .i64 z]) (by simp [results, Tryz.results30, go_sem, p2, p3]) ⟨none, 0, rfl, RowsR.nil_ _ _, g4⟩

set_option maxRecDepth 100000 in
set_option maxHeartbeats 4000000 in
theorem minimal_any (n : Int) (A : Option Addr) (cA : Nat) (es : List E3) (hlen : es.length ≤ 10000) (q : Int) (hxl : (allE n es q).1.length ≤ 16384) (w : World) (h : Reads w w.heap.size 3 A es.length (edgeCells es)) :
    Calls Tryz.prog 39 #[.agg #[.int .i64 n, .slice A es.length cA], .int .i64 q] w fun e w' => ∃ Ar cr, e = .returned (.tuple #[.slice Ar (minimE n es q).1.length cr, .int .i64 (minimE n es q).2]) ∧ RowsR w' w'.heap.size Ar (minimE n es q).1 ∧ Below w.heap.size w w' := by
  have RA := Lib.hid (fun (W : World) (hB : Below w.heap.size w W) => rall_any n A cA es hlen q hxl W ((h.below hB).more hB.size))
  have g0 := (Blk.new w 24 #[.int .i64 n, .slice A es.length cA]).alloc (.cells #[.int .i64 q] 3)
  have q0 := Blk.new (w.alloc (.cells #[.int .i64 n, .slice A es.length cA] 24)) 3 #[.int .i64 q]
  have hs1 : (w.alloc (.cells #[.int .i64 n, .slice A es.length cA] 24)).heap.size = w.heap.size + 1 := by simp
  rw [hs1] at q0
  have B0 := ((Below.refl w.heap.size w).alloc (Nat.le_refl _) (.cells #[.int .i64 n, .slice A es.length cA] 24)).alloc (by simp) (.cells #[.int .i64 q] 3)
  have c0 := g0.cell 0
  have c1 := g0.cell 1
  have c2 := q0.cell 0
  by_cases hx : rootErr n es q = 0
  · obtain ⟨m, p, rfl, rfl⟩ := root_nat hx
    have hE : allE m es p = (recsL m es p, 0) := by unfold allE; rw [if_pos hx]; simp
    have hF : minimE m es p = ((recsL m es p).filter fun xs => minTo m es p xs m, 0) := by unfold minimE; rw [if_pos hx]; simp
    rw [hE] at RA hxl
    dsimp only at hxl
    rw [hF]
    obtain ⟨hck, _, _, hpm⟩ := root_zero hx
    have FT := Lib.hid (fun (bg bq : Nat) (A0 : Option Addr) (c0 : Nat) (W : World) hg hbq hB hr => filt_any m A cA es p hpm hlen hck bg bq A0 c0 (recsL m es p) (by omega) (fun xs hxs => recsL_bd hx hlen hxs) W hg hbq ((h.below hB).more (Below.size (B := w.heap.size) (w := w) hB)) hr)
    have hmf : ∀ (fn : Fn) (first cap : Array Value) (w : World), (Instr.makeFunc fn first cap).run Tryz.prog w = .ok (.func fn first cap) w := fun _ _ _ _ => rfl
    obtain ⟨L, hL⟩ : ∃ L, recsL m es p = L := ⟨_, rfl⟩
    rw [hL] at RA FT ⊢
    obtain ⟨P, hP⟩ : ∃ P : List Int → Bool, (fun xs => minTo m es p xs m) = P := ⟨_, rfl⟩
    rw [hP] at FT ⊢
    clear hE hF hx hck hxl hL hP
    go_enter Tryz.func39, Tryz.ntmps39
    go_wp2_with fail
    refine (RA.out _ B0).mono ?_
    rintro e w1 ⟨Ar, cr, rfl, hr, hb1⟩
    have B1 := B0.trans (hb1.mono B0.size)
    have g1 := g0.next hb1
    have q1 := q0.next hb1
    have FT1 := Lib.hid (FT.out _ _ Ar cr w1 g1 q1 B1 hr)
    clear c0 c1 c2
    go_wp2_with fail
    refine (FT1.out).mono ?_
    rintro e w2 ⟨A2, c2, rfl, hr2, hb2⟩
    go_wp2
    go_ret2
    exact ⟨A2, c2, rfl, hr2, B1.trans (hb2.mono B1.size)⟩
  · obtain ⟨z, hz⟩ : ∃ z, rootErr n es q = z := ⟨_, rfl⟩
    have hE : allE n es q = ([], z) := by unfold allE; rw [if_neg hx, hz]
    have hF : minimE n es q = ([], z) := by unfold minimE; rw [if_neg hx, hz]
    rw [hE] at RA
    rw [hF]
    have hz1 : (z != 0) = true := by rw [← hz]; simpa using hx
    clear hE hF hx hxl hz
    go_enter Tryz.func39, Tryz.ntmps39
    go_wp2_with fail
    refine (RA.out _ B0).mono ?_
    rintro e w1 ⟨Ar, cr, rfl, hr, hb1⟩
    have B1 := B0.trans (hb1.mono B0.size)
    clear c0 c1 c2
    go_wp2
    go_ret2
    exact ⟨none, 0, rfl, RowsR.nil_ _ _, B1⟩
end Go.Proofs.YtdnoeaoelgehcaaGreat

/-! Package stabilize: next, fire. -/
namespace Go.Proofs.YtdnoeaoelgehcaaGreat
open Go.RowKit

/-- What firing a vertex leaves: the first m vertices have their chips. -/
def fireTo (rows : List (List Int)) (val d : List Int) (n v : Nat) (k : Int) (m : Nat) : List Int := (List.range n).map fun u => d.getD u 0 - (if u = v then k * val.getD v 0 else 0) + if u < m then k * (rows.getD v []).getD u 0 else 0
/-- Which vertices wait: the first m are looked at anew. -/
def waitTo (q : Int) (d val : List Int) (ws : List Bool) (m : Nat) : List Bool := (List.range 12).map fun u => if u < m then unst q d val u else ws.getD u false
theorem fireTo_length {rows : List (List Int)} {val d : List Int} {n v m : Nat} {k : Int} : (fireTo rows val d n v k m).length = n := by simp [fireTo]
theorem fireTo_get {rows : List (List Int)} {val d : List Int} {n v m u : Nat} {k : Int} (hu : u < n) : (fireTo rows val d n v k m)[u]? = some (d.getD u 0 - (if u = v then k * val.getD v 0 else 0) + if u < m then k * (rows.getD v []).getD u 0 else 0) := by
  unfold fireTo; rw [List.getElem?_map, List.getElem?_range hu]; rfl
theorem list_ext_n {xs ys : List Int} {n : Nat} (h1 : xs.length = n) (h2 : ys.length = n) (h : ∀ i, i < n → xs[i]? = ys[i]?) : xs = ys := by
  apply List.ext_getElem?
  intro i
  by_cases hi : i < n
  · exact h i hi
  · rw [List.getElem?_eq_none (by omega), List.getElem?_eq_none (by omega)]
theorem fireTo_zero {rows : List (List Int)} {val d : List Int} {n v : Nat} {k x y : Int} (hd : d.length = n) (hx : d[v]? = some x) (hy : val[v]? = some y) : d.set v (x - k * y) = fireTo rows val d n v k 0 := by
  have hv : v < n := by have := (List.getElem?_eq_some_iff.1 hx).1; omega
  refine list_ext_n (n := n) (by simpa using hd) fireTo_length fun i hi => ?_
  rw [fireTo_get hi]
  by_cases e : i = v
  · subst e
    rw [List.getElem?_set_self (by omega)]
    simp [hx, hy]
  · rw [List.getElem?_set_ne (fun h => e h.symm)]
    obtain ⟨z, hz⟩ := get_of_lt (xs := d) (k := i) (by omega)
    rw [hz, getD_at hz]
    simp [e]
theorem fireTo_succ {rows : List (List Int)} {val d r : List Int} {n v m : Nat} {k x u : Int} (hm : m < n) (hr : rows[v]? = some r) (hu : r[m]? = some u) (hx : (fireTo rows val d n v k m)[m]? = some x) : (fireTo rows val d n v k m).set m (x + k * u) = fireTo rows val d n v k (m + 1) := by
  have hrd : rows.getD v [] = r := by rw [List.getD_eq_getElem?_getD, hr]; rfl
  refine list_ext_n (n := n) (by simp [fireTo_length]) fireTo_length fun i hi => ?_
  rw [fireTo_get hi]
  by_cases e : i = m
  · subst e
    rw [List.getElem?_set_self (by rw [fireTo_length]; exact hi)]
    rw [fireTo_get hi] at hx
    injection hx with hx
    rw [← hx, hrd, getD_at hu]
    simp
  · rw [List.getElem?_set_ne (fun h => e h.symm), fireTo_get hi]
    congr 2
    by_cases h : i < m
    · rw [if_pos h, if_pos (by omega)]
    · rw [if_neg h, if_neg (by omega)]
theorem unst_congr {q : Int} {d d' val : List Int} {v : Nat} (h : d.getD v 0 = d'.getD v 0) : unst q d val v = unst q d' val v := by unfold unst; rw [h]
theorem waitTo_succ {q : Int} {d d' val : List Int} {ws : List Bool} {m : Nat} (hm : m < 12) (h : d.getD m 0 = d'.getD m 0) : (waitTo q d' val ws m).set m (unst q d val m) = waitTo q d' val ws (m + 1) := by
  apply List.ext_getElem?
  intro i
  unfold waitTo
  by_cases hi : i = m
  · subst hi
    rw [List.getElem?_set_self (by simpa using hm)]
    simp [hm, unst_congr h]
  · rw [List.getElem?_set_ne (fun e => hi e.symm), List.getElem?_map, List.getElem?_map]
    by_cases h12 : i < 12
    · rw [List.getElem?_range h12]
      simp only [Option.map_some]
      by_cases h2 : i < m
      · rw [if_pos h2, if_pos (by omega)]
      · rw [if_neg h2, if_neg (by omega)]
    · rw [List.getElem?_eq_none (by simp; omega)]; rfl
theorem waitTo_zero {q : Int} {d val : List Int} {ws : List Bool} (h : ws.length = 12) : waitTo q d val ws 0 = ws := by
  apply List.ext_getElem?
  intro i
  unfold waitTo
  by_cases h12 : i < 12
  · rw [List.getElem?_map, List.getElem?_range h12, List.getElem?_eq_getElem (by omega)]
    simp [List.getD_eq_getElem?_getD, List.getElem?_eq_getElem (show i < ws.length by omega)]
  · rw [List.getElem?_eq_none (by simp; omega), List.getElem?_eq_none (by omega)]
theorem waitTo_end {n : Nat} {q : Int} {d d0 val : List Int} (v : Nat) (hv : v < n) : (waitTo q d val (waitL n q d0 val) n).set v (unst q d val v) = waitL n q d val := by
  apply List.ext_getElem?
  intro i
  unfold waitTo waitL
  by_cases h12 : i < 12
  · by_cases hi : i = v
    · subst hi
      rw [List.getElem?_set_self (by simpa using h12), List.getElem?_map, List.getElem?_range h12]
      simp [hv]
    · rw [List.getElem?_set_ne (fun e => hi e.symm), List.getElem?_map, List.getElem?_map, List.getElem?_range h12]
      simp only [Option.map_some]
      by_cases h : i < n
      · rw [if_pos h, decide_eq_true h, Bool.true_and]
      · rw [if_neg h, decide_eq_false h, Bool.false_and, List.getD_eq_getElem?_getD, List.getElem?_map, List.getElem?_range h12]
        simp [h]
  · rw [List.getElem?_eq_none (by simp; omega), List.getElem?_eq_none (by simp; omega)]
theorem mul_bd {k x : Int} (h0 : 0 ≤ k) (h1 : k ≤ 67108864) (h2 : 0 ≤ x) (h3 : x ≤ 1048576) : 0 ≤ k * x ∧ k * x ≤ 70368744177664 :=
  ⟨Int.mul_nonneg h0 h2, by have := Int.mul_le_mul h1 h3 h2 (by omega); omega⟩

set_option maxRecDepth 100000 in
set_option maxHeartbeats 8000000 in
theorem pfire_any (base bp n : Nat) (hn : n ≤ 12) (a : PA) (d : List Int) (q : Int) (rows : List (List Int)) (val fired : List Int) (total : Int) (v : Nat) (hv : v < n) (k : Int) (hk0 : 0 ≤ k) (hk1 : k ≤ 67108864)
    (hd : ∀ x ∈ d, -70368744177664 ≤ x ∧ x ≤ 70368744177664) (hval : ValBd n 1048576 val) (hrows : TabBd n 1048576 rows) (hf : ∀ x ∈ fired, -70368744177664 ≤ x ∧ x ≤ 70368744177664) (ht : -70368744177664 ≤ total ∧ total ≤ 70368744177664) (w : World) (h : PileW w base bp n a d q rows val fired total (waitL n q d val)) :
    Calls Tryz.prog 180 #[.pointer (some ⟨bp, 0, none⟩), .int .i64 v, .int .i64 k] w fun e w' => (∃ x, e = .returned x) ∧ PileW w' base bp n a (fireTo rows val d n v k n) q rows val (fired.set v (fired.getD v 0 + k)) (total + k) (waitL n q (fireTo rows val d n v k n) val) ∧ Only (PB a bp) w w' := by
  obtain ⟨bd, cd, bv, bf, A, cr, gs⟩ := a
  have hgl : gs.length = n := by have := h.grid.len; have := hrows.1; dsimp only at *; omega
  obtain ⟨g, hg⟩ := get_of_lt (xs := gs) (k := v) (by omega)
  obtain ⟨bo, oo, hA, _⟩ := h.grid.cell hg
  dsimp only at hA
  subst hA
  obtain ⟨x, hx⟩ := get_of_lt (xs := d) (k := v) (by have := h.dl; omega)
  obtain ⟨y, hy⟩ := get_of_lt (xs := val) (k := v) (by have := h.vl; omega)
  obtain ⟨r, hr⟩ := get_of_lt (xs := rows) (k := v) (by rw [hrows.1]; exact hv)
  obtain ⟨fv, hfv⟩ := get_of_lt (xs := fired) (k := v) (by have := h.fl; omega)
  have hxb := hd x (List.mem_of_getElem? hx)
  have hyb := hval.2 y (List.mem_of_getElem? hy)
  have hfb := hf fv (List.mem_of_getElem? hfv)
  obtain ⟨hrl, hrb⟩ := hrows.2 r (List.mem_of_getElem? hr)
  have hp1 := mul_bd hk0 hk1 hyb.1 hyb.2
  have hw1 : IntKind.i64.wrap (k * y) = k * y := IntWalk.i64_in _ (by omega)
  have hw2 : IntKind.i64.wrap (x - k * y) = x - k * y := IntWalk.i64_in _ (by omega)
  have hw3 : IntKind.i64.wrap (fv + k) = fv + k := IntWalk.i64_in _ (by omega)
  have hw4 : IntKind.i64.wrap (total + k) = total + k := IntWalk.i64_in _ (by omega)
  have hD0 := fireTo_zero (rows := rows) (k := k) h.dl hx hy
  obtain ⟨D, hDD⟩ : ∃ D, fireTo rows val d n v k n = D := ⟨_, rfl⟩
  obtain ⟨F, hFF⟩ : ∃ F : Nat → List Int, (fun m => fireTo rows val d n v k m) = F := ⟨_, rfl⟩
  have hFm : ∀ m, fireTo rows val d n v k m = F m := fun m => by rw [← hFF]
  have HFD : Hid (F n = D) := by rw [← hDD, ← hFF]; rfl
  have HFB : Hid (∀ m z, m < n → (F m)[m]? = some z → -140737488355328 ≤ z ∧ z ≤ 140737488355328) := by
    intro m z hm hz
    rw [← hFm, fireTo_get hm] at hz
    injection hz with hz
    simp only [Nat.lt_irrefl, if_false, Int.add_zero, getD_at hy] at hz
    obtain ⟨z0, hz0⟩ := get_of_lt (xs := d) (k := m) (by have := h.dl; omega)
    have := hd z0 (List.mem_of_getElem? hz0)
    rw [getD_at hz0] at hz
    split at hz <;> omega
  have HFS : Hid (∀ m z u, m < n → r[m]? = some u → (F m)[m]? = some z → (F m).set m (z + k * u) = F (m + 1)) := by
    intro m z u hm hu hz
    rw [← hFm] at hz ⊢
    rw [← hFm]
    exact fireTo_succ hm hr hu hz
  have HFN : Hid (∀ m, m < n → (F (m + 1)).getD m 0 = D.getD m 0) := by
    intro m hm
    rw [← hFm, ← hDD, List.getD_eq_getElem?_getD, List.getD_eq_getElem?_getD, fireTo_get hm, fireTo_get hm]
    have e1 : m < m + 1 := Nat.lt_succ_self m
    simp only [e1, hm, if_true]
  have HFL : Hid (∀ m, (F m).length = n) := fun m => by rw [← hFm]; exact fireTo_length
  rw [hFm] at hD0
  rw [hDD, getD_at hfv]
  have hk0i : (v : Int) < (n : Int) := by omega
  have e0 := h.c0
  have e3 := h.c3
  have ed := h.cd hx
  have ev := h.cv hy
  have fd := h.fd v
  have h1 := h.drew.setD hv (x - k * y)
  dsimp only at e0 e3 ed ev fd h1
  rw [hD0] at h1
  have H1 := Lib.hid h1
  have HO1 : Hid (Only (PB ⟨bd, cd, bv, bf, some ⟨bo, oo, none⟩, cr, gs⟩ bp) w (w.drew.setCell ⟨bd, v, none⟩ (.int .i64 (x - k * y)))) := ((Only.refl _ w).drew).setCell (p := ⟨bd, v, none⟩) (.inl (.inr (.inl rfl))) _
  have HRB := Lib.hid hrb
  have HRL := Lib.hid hrl
  have HR := Lib.hid hr
  have HG := Lib.hid hg
  have HX := Lib.hid hfv
  clear h1 h hx hy hr hg hd hval hrows hf hrb hrl hD0 hDD hFF hFm hfv hp1
  go_enter Tryz.func180, Tryz.ntmps180
  go_upto_region 0 with fail
  go_cut [] from 8 (fun wx => Hid (PileW wx base bp n ⟨bd, cd, bv, bf, some ⟨bo, oo, none⟩, cr, gs⟩ (F 0) q rows val fired total (waitL n q d val)) ∧ Hid (Only (PB ⟨bd, cd, bv, bf, some ⟨bo, oo, none⟩, cr, gs⟩ bp) w wx))
  case first =>
    go_region_with (fail)
    all_goals
      go_wp2
      go_meet
      exact ⟨H1, HO1⟩
  case rest =>
    obtain ⟨HP, HO⟩ := hcut
    have HE0 : Hid (waitL n q d val = waitTo q D val (waitL n q d val) 0) := (waitTo_zero HP.out.wl).symm
    obtain ⟨ws, hws⟩ : ∃ ws, waitL n q d val = ws := ⟨_, rfl⟩
    have HWS := Lib.hid hws
    rw [hws] at HE0 HP
    have e2 := HP.out.c2
    have eo := HP.out.co HG.out
    dsimp only at e2 eo
    clear H1 HO1 e0 e3 ed ev fd hws
    have hgl2 : (v : Int) < (gs.length : Int) := by omega
    go_wp2_with fail
    go_loopw [6, 7, 34] (fun _ _ i wl => ∃ m : Nat, i = .int .i64 m ∧ m ≤ n ∧ Hid (PileW wl base bp n ⟨bd, cd, bv, bf, some ⟨bo, oo, none⟩, cr, gs⟩ (F m) q rows val fired total (waitTo q D val ws m)) ∧ Hid (Only (PB ⟨bd, cd, bv, bf, some ⟨bo, oo, none⟩, cr, gs⟩ bp) w wl)) (fun _ _ i _ => n - (intOf i).toNat)
    case atStart => exact ⟨0, rfl, by omega, by rw [← HE0.out]; exact HP, HO⟩
    case round =>
      obtain ⟨m, rfl, hm, HPm, HOm⟩ := hrel
      clear e2 eo
      by_cases hlt : m < n
      · have hi : (m : Int) < (n : Int) := by omega
        obtain ⟨u, hu⟩ := get_of_lt (xs := r) (k := m) (by rw [HRL.out]; exact hlt)
        obtain ⟨z, hz⟩ := get_of_lt (xs := F m) (k := m) (by rw [HFL.out]; exact hlt)
        have hub := HRB.out u (List.mem_of_getElem? hu)
        have hzb := HFB.out m z hlt hz
        have hpb := mul_bd hk0 hk1 hub.1 hub.2
        have hw5 : IntKind.i64.wrap (k * u) = k * u := IntWalk.i64_in _ (by omega)
        have hw6 : IntKind.i64.wrap (z + k * u) = z + k * u := IntWalk.i64_in _ (by omega)
        have cr0 := (HPm.out.crow HG.out HR.out hu).1
        have e0 := HPm.out.c0
        have ed := HPm.out.cd hz
        have fd := HPm.out.fd m
        have P2 := HPm.out.setD hlt (z + k * u)
        have hst := HFS.out m z u hlt hu hz
        dsimp only at e0 ed fd P2
        rw [hst] at P2
        have O2 := HOm.out.setCell (p := ⟨bd, m, none⟩) (.inl (.inr (.inl rfl))) (.int .i64 (z + k * u))
        have HW := Lib.hid (wait_any base bp n hn _ _ q rows val fired total _ m hlt _ P2)
        have HO2 := Lib.hid O2
        clear hst P2 O2 hu hz hpb hzb hub
        go_wp2_with (go_at_call 154; refine (HW.out).mono ?_; rintro e w5 ⟨⟨x5, rfl⟩, P5, O5⟩; rw [waitTo_succ (by omega) (HFN.out m hlt)] at P5; have HP5 := Lib.hid P5; have HO5 := Lib.hid (HO2.out.trans (O5.mono (D := PB ⟨bd, cd, bv, bf, some ⟨bo, oo, none⟩, cr, gs⟩ bp) fun k _ hk => .inl hk)); clear P5 O5)
        go_roundw
        case rel => exact ⟨m + 1, by go_num, by omega, HP5, HO5⟩
        case measure => simp [intOf]; omega
      · obtain rfl : m = n := by omega
        have hPm := HPm.out
        rw [HFD.out] at hPm
        have HW := Lib.hid (wait_any base bp m hn _ _ q rows val fired total _ v hv _ hPm)
        clear hPm
        go_wp2_with fail
        refine (HW.out).mono ?_
        rintro e w5 ⟨⟨x5, rfl⟩, P5, O5⟩
        rw [← HWS.out, waitTo_end v hv] at P5
        have O5' := HOm.out.trans (O5.mono (D := PB ⟨bd, cd, bv, bf, some ⟨bo, oo, none⟩, cr, gs⟩ bp) fun k _ hk => .inl hk)
        have e4 := P5.c4
        have ef := P5.cf HX.out
        have ff := P5.ff.frozen v
        have P6 := P5.setF v (fv + k)
        have e5 := P6.c5
        have f5 := P6.blk.frozen 5
        have P7 := P6.setT (total + k)
        have O7 := (O5'.setCell (p := ⟨bf, v, none⟩) (.inl (.inr (.inr (.inr (.inl rfl))))) (.int .i64 (fv + k))).setCell (p := ⟨bp, 5, none⟩) (.inl (.inl rfl)) (.int .i64 (total + k))
        have HP7 := Lib.hid P7
        have HO7 := Lib.hid O7
        dsimp only at e4 ef ff e5
        clear P5 O5 O5' P6 P7 O7
        go_wp2
        exact bodyPost_end (results_none rfl _ _ _) rfl ⟨⟨_, rfl⟩, HP7.out, HO7.out⟩
end Go.Proofs.YtdnoeaoelgehcaaGreat

/-! Package stabilize: next: the least vertex that waits. -/
namespace Go.Proofs.YtdnoeaoelgehcaaGreat
open Go.RowKit

/-- The first place with true from k places on, or -1. -/
def firstT (ws : List Bool) : Int := match (List.range ws.length).find? fun v => ws.getD v false with
  | some v => v
  | none => -1
theorem firstT_some {ws : List Bool} {k : Nat} (hk : k < ws.length) (h : ws[k]? = some true) (hl : ∀ j, j < k → ws.getD j false = false) : firstT ws = k := by
  unfold firstT
  have : (List.range ws.length).find? (fun v => ws.getD v false) = some k := by
    rw [List.find?_range_eq_some]
    refine ⟨by rw [List.getD_eq_getElem?_getD, h]; rfl, by simpa using hk, fun j hj => ?_⟩
    rw [hl j hj]; rfl
  rw [this]
theorem firstT_none {ws : List Bool} (h : ∀ j, j < ws.length → ws.getD j false = false) : firstT ws = -1 := by
  unfold firstT
  have : (List.range ws.length).find? (fun v => ws.getD v false) = none := by
    rw [List.find?_eq_none]
    intro x hx
    rw [h x (List.mem_range.1 hx)]
    simp
  rw [this]
theorem firstT_cases (ws : List Bool) : (firstT ws = -1 ∧ ∀ j, j < ws.length → ws.getD j false = false) ∨ ∃ v : Nat, firstT ws = v ∧ v < ws.length ∧ ws.getD v false = true := by
  unfold firstT
  cases h : (List.range ws.length).find? fun v => ws.getD v false with
  | none =>
    refine .inl ⟨rfl, fun j hj => ?_⟩
    rw [List.find?_eq_none] at h
    have := h j (List.mem_range.2 hj)
    simpa using this
  | some v =>
    refine .inr ⟨v, rfl, ?_, ?_⟩
    · exact List.mem_range.1 (List.mem_of_find?_eq_some h)
    · have := List.find?_some h; simpa using this

set_option maxHeartbeats 2000000 in
theorem indexB_any (g o c : Nat) (ws : List Bool) (w : World) (hl : ws.length ≤ 1048576) (h : ∀ k b, ws[k]? = some b → w.cell? ⟨g, o + k, none⟩ = some (.bool b)) :
    Calls Tryz.prog 186 #[.slice (some ⟨g, o, none⟩) ws.length c, .bool true] w fun e w' => e = .returned (.int .i64 (firstT ws)) ∧ w' = w := by
  have HC := Lib.hid h
  clear h
  go_enter Tryz.func186, Tryz.ntmps186
  go_wp2_with fail
  go_loop [5, 8] (fun _ i => ∃ k : Nat, i = .int .i64 k ∧ k ≤ ws.length ∧ Hid (∀ j, j < k → ws.getD j false = false)) (fun _ i => ws.length - (intOf i).toNat)
  case atStart => exact ⟨0, rfl, by omega, fun j hj => by omega⟩
  case round =>
    obtain ⟨k, rfl, hk, HN⟩ := hrel
    by_cases hlt : k < ws.length
    · obtain ⟨b, hb⟩ := get_of_lt hlt
      have hi : (k : Int) < (ws.length : Int) := by omega
      have c0 := HC.out k b hb
      have HB := Lib.hid hb
      clear hb
      cases b
      · go_wp2
        go_round
        case rel => exact ⟨k + 1, by go_num, by omega, fun j hj => by
          by_cases e : j = k
          · subst e; rw [List.getD_eq_getElem?_getD, HB.out]; rfl
          · exact HN.out j (by omega)⟩
        case measure => simp [intOf]; omega
      · go_wp2
        go_ret
        exact ⟨ret_int (firstT_some hlt HB.out HN.out).symm, rfl⟩
    · obtain rfl : k = ws.length := by omega
      go_wp2
      go_ret
      exact ⟨ret_int (firstT_none HN.out).symm, rfl⟩

set_option maxHeartbeats 2000000 in
theorem pnext_any (base bp n : Nat) (a : PA) (d : List Int) (q : Int) (rows : List (List Int)) (val fired : List Int) (total : Int) (ws : List Bool) (w : World) (h : PileW w base bp n a d q rows val fired total ws) :
    Calls Tryz.prog 181 #[.pointer (some ⟨bp, 0, none⟩)] w fun e w' => e = .returned (.int .i64 (firstT ws)) ∧ w' = w := by
  have hwl := h.wl
  have IB := Lib.hid (indexB_any bp 6 12 ws w (by omega) (fun k b hb => (h.blk.cell (6 + k)).trans (by rw [Nat.add_comm]; simp [pileCells, hb])))
  rw [hwl] at IB
  clear h
  go_enter Tryz.func181, Tryz.ntmps181
  go_wp2_with fail
  refine (IB.out).mono ?_
  rintro e w' ⟨rfl, rfl⟩
  go_wp2
  go_ret
  exact ⟨rfl, rfl⟩
end Go.Proofs.YtdnoeaoelgehcaaGreat

