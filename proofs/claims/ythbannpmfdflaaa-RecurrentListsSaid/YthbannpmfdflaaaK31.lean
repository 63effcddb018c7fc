/-
  Texts of this claim, put together: REnds, RList.
-/
import Derived.Test.YthbannpmfdflaaaK30
import Derived.Test.YthbannpmfdflaaaK06
import Derived.Deep.RegionLaw
import Derived.Test.YthbannpmfdflaaaK27
import Derived.Test.YthbannpmfdflaaaK28
import Derived.Test.YthbannpmfdflaaaK22
/-! ref08.Ends and Size: as far as the number of single edges goes; ref08.small and Few. -/
namespace Go.Proofs.Ythbannpmfdflaaa
open Go.RowKit

/-- The number of single edges. -/
def sizeE (es : List E3) : Nat := (es.map fun e => e.2.2.toNat).sum
theorem sizeE_take {es : List E3} {k : Nat} {e : E3} (h : es[k]? = some e) : sizeE (es.take (k + 1)) = sizeE (es.take k) + e.2.2.toNat := by
  rw [take_snoc h]; simp [sizeE]
theorem sizeE_bd {N : Int} {es : List E3} (h : ∀ e ∈ es, okE N e) : sizeE es ≤ 50 * es.length := by
  induction es with
  | nil => simp [sizeE]
  | cons e es ih =>
    have h1 := h e (by simp)
    have h2 := ih fun x hx => h x (by simp [hx])
    unfold okE at h1
    unfold sizeE at *
    simp at *
    omega
theorem info_pair2 : (Try.prog.info? 190).map (fun i => (i.zero, i.size, i.bytes)) = some (some (.agg #[.int .i64 0, .int .i64 0]), 2, 16) := by kernel_rfl

set_option maxRecDepth 100000 in
set_option maxHeartbeats 4000000 in
theorem rends_any (n : Int) (A : Option Addr) (c : Nat) (es : List E3) (hn : es.length ≤ 40) (N : Int) (hok : ∀ e ∈ es, okE N e) (w : World) (h : Reads w w.heap.size 3 A es.length (edgeCells es)) :
    Calls Try.prog 174 #[.agg #[.int .i64 n, .slice A es.length c]] w fun e w' => ∃ A' c', e = .returned (.slice A' (sizeE es) c') ∧ Below w.heap.size w w' := by
  have HO := Lib.hid hok
  have HSZ : Hid (∀ k, sizeE (es.take k) ≤ 2000) := fun k => Nat.le_trans (sizeE_bd (N := N) fun e he => hok e (List.mem_of_mem_take he)) (by rw [List.length_take]; omega)
  have g0 := Blk.new w 24 #[.int .i64 n, .slice A es.length c]
  clear hok
  go_enter Try.func174, Try.ntmps174
  go_wp2
  go_loopw [3, 4] (fun s i wr => ∃ (k : Nat) (A' : Option Addr) (c' : Nat) (m : Nat) (vs : List Value), k ≤ es.length ∧ i = .int .i64 k ∧ s = .slice A' m c' ∧ Hid (sizeE (es.take k) = m) ∧ wr.ownsRow w.heap.size 190 2 (.slice A' m c') m vs ∧ Below w.heap.size w wr ∧ Blk wr w.heap.size 24 #[.int .i64 n, .slice A es.length c]) (fun _ i _ => es.length - (intOf i).toNat)
  case atStart => exact ⟨0, none, 0, 0, [], by omega, rfl, rfl, rfl, World.ownsRow_nil _ _ _ _, (Below.refl _ _).alloc (Nat.le_refl _) _, g0⟩
  case round =>
    obtain ⟨k, A', c', m, vs, hk, rfl, rfl, HM, hown, hbel, g1⟩ := hrel
    clear g0
    have c1 := g1.cell 1
    by_cases hlt : k < es.length
    · obtain ⟨⟨x, y, z⟩, hx⟩ := get_of_lt hlt
      have hokx := HO.out _ (List.mem_of_getElem? hx)
      unfold okE at hokx
      dsimp only at hokx
      obtain ⟨zn, rfl⟩ := Int.eq_ofNat_of_zero_le (show 0 ≤ z by omega)
      have hst := sizeE_take hx
      rw [HM.out] at hst
      dsimp only at hst
      rw [Int.toNat_natCast] at hst
      have hmax := HSZ.out (k + 1)
      rw [hst] at hmax
      have HST := Lib.hid hst
      have HX := Lib.hid hx
      have hi : (k : Int) < (es.length : Int) := by omega
      clear hst hx hokx
      go_wp2
      obtain ⟨wo, rfl⟩ : ∃ wo : World, wo = wr := ⟨_, rfl⟩
      go_loopw [3, 5] (fun s i wr => ∃ (j : Nat) (A' : Option Addr) (c' : Nat) (vs : List Value), j ≤ zn ∧ i = .int .i64 j ∧ s = .slice A' (m + j) c' ∧ wr.ownsRow w.heap.size 190 2 (.slice A' (m + j) c') (m + j) vs ∧ Below w.heap.size w wr ∧ Blk wr w.heap.size 24 #[.int .i64 n, .slice A es.length c]) (fun _ i _ => zn - (intOf i).toNat)
      case atStart => exact ⟨0, A', c', vs, by omega, rfl, rfl, hown, hbel, g1⟩
      case round =>
        clear hown hbel g1 c1
        obtain ⟨j, A', c', vs, hj, rfl, rfl, hown, hbel, g1⟩ := hrel
        have hsz := hbel.size
        have c1 := g1.cell 1
        obtain ⟨bb, off, rfl, hbb, q1, q2, q3⟩ := (h.below hbel).edge HX.out
        dsimp only at q1 q2 q3
        by_cases hlt2 : j < zn
        · have hi2 : (j : Int) < (zn : Int) := by omega
          have hownA : (wr.drew.alloc (.cells #[.int .i64 x, .int .i64 y] 190)).ownsRow w.heap.size 190 2 (.slice A' (m + j) c') (m + j) vs := World.ownsRow.alloc (World.ownsRow.drew hown) _
          have hz : w.heap.size ≤ (wr.drew.alloc (.cells #[.int .i64 x, .int .i64 y] 190)).heap.size := by show _ ≤ (wr.alloc _).heap.size; simp; omega
          go_wp2
          go_region_law (refine append_step2 rfl (.tmp 23) (.tmp 37) _ _ rfl w.heap.size 190 190 Try.underlying182 Try.underlying182 info_pair2 rfl (by omega) A' c' (m + j) vs rfl (by exact hownA) _ [.int .i64 x, .int .i64 y] rfl (by exact Reads.boxN wr.drew #[.int .i64 x, .int .i64 y] 190) (by simp [Value.oneCell']) (by omega) (by exact hz) ?_; intro A3 c3 W3 hown3 hgr3 hb3 _)
          all_goals (
            have g2 : Blk W3 w.heap.size 24 #[.int .i64 n, .slice (some ⟨bb, off, none⟩) es.length c] := Blk.grown (h := (g1.drew.alloc (.cells #[.int .i64 x, .int .i64 y] 190))) hgr3 (own_blk_ne hownA (g1.drew.alloc _) (by decide))
            have hb4 : Below w.heap.size w W3 := (hbel.drew.alloc hsz (.cells #[.int .i64 x, .int .i64 y] 190)).trans hb3
            go_wp2
            go_roundw
            case rel => exact ⟨j + 1, A3, c3, _, by omega, by go_num, rfl, hown3, hb4, g2⟩
            case measure => simp [intOf]; omega)
        · obtain rfl : j = zn := by omega
          go_wp2
          go_roundw
          case rel => exact ⟨k + 1, A', c', m + j, vs, by omega, by go_num, rfl, HST.out, hown, hbel, g1⟩
          case measure => simp [intOf]; omega
    · obtain rfl : k = es.length := by omega
      rw [List.take_length] at HM
      go_wp2
      go_ret
      exact ⟨A', c', by rw [HM.out]; rfl, hbel⟩
set_option maxHeartbeats 1000000 in
theorem rsize_any (n : Int) (A : Option Addr) (c : Nat) (es : List E3) (hn : es.length ≤ 40) (N : Int) (hok : ∀ e ∈ es, okE N e) (w : World) (h : Reads w w.heap.size 3 A es.length (edgeCells es)) :
    Calls Try.prog 140 #[.agg #[.int .i64 n, .slice A es.length c]] w fun e w' => e = .returned (.int .i64 (sizeE es : Nat)) ∧ Below w.heap.size w w' := by
  have EC := Lib.hid (rends_any n A c es hn N hok)
  go_enter Try.func140, Try.ntmps140
  go_wp2_with fail
  refine (EC.out _ ((h.alloc (Nat.le_refl _) _).more (by simp))).mono ?_
  rintro e w1 ⟨A1, c1, rfl, hb1⟩
  have hbel1 : Below w.heap.size w w1 := ((Below.refl _ _).alloc (Nat.le_refl _) _).trans (hb1.mono (by simp))
  go_wp2
  go_ret
  exact ⟨rfl, hbel1⟩

/-- Few vertices and single edges, or an error. -/
def smallB (n : Int) (es : List E3) (a b : Int) : Bool := if 40 < es.length then false else if checkG n es ≠ 0 then true else decide (n ≤ a) && decide ((sizeE es : Int) ≤ b)
set_option maxRecDepth 100000 in
set_option maxHeartbeats 1000000 in
theorem rsmall_any (n : Int) (A : Option Addr) (c : Nat) (es : List E3) (a b : Int) (w : World) (h : Reads w w.heap.size 3 A es.length (edgeCells es)) :
    Calls Try.prog 93 #[.agg #[.int .i64 n, .slice A es.length c], .int .i64 a, .int .i64 b] w fun e w' => e = .returned (.bool (smallB n es a b)) ∧ Below w.heap.size w w' := by
  have g0 := Blk.new w 24 #[.int .i64 n, .slice A es.length c]
  by_cases h1 : 40 < es.length
  · have hd : smallB n es a b = false := by unfold smallB; rw [if_pos h1]
    rw [hd]
    have hi : (40 : Int) < (es.length : Int) := by omega
    go_enter Try.func93, Try.ntmps93
    go_wp2
    go_ret
    exact ⟨rfl, (Below.refl _ _).alloc (Nat.le_refl _) _⟩
  have hi : ¬ (40 : Int) < (es.length : Int) := by omega
  have GC := rgcheck_any n A c es (by omega)
  by_cases h2 : checkG n es = 0
  · have hd : smallB n es a b = (decide (n ≤ a) && decide ((sizeE es : Int) ≤ b)) := by unfold smallB; rw [if_neg h1, if_neg (fun hc => hc h2)]
    rw [hd]
    rw [h2] at GC
    have hG := right_of h2
    have SC := Lib.hid (rsize_any n A c es (by omega) n hG.ok)
    have GC := Lib.hid GC
    clear h2 hd hG
    by_cases h3 : n ≤ a
    · have hd3 : decide (n ≤ a) = true := decide_eq_true h3
      go_enter Try.func93, Try.ntmps93
      go_wp2_with fail
      refine (GC.out _ ((h.alloc (Nat.le_refl _) _).more (by simp))).mono ?_
      rintro e w1 ⟨rfl, hb1⟩
      have hbel1 : Below w.heap.size w w1 := ((Below.refl _ _).alloc (Nat.le_refl _) _).trans (hb1.mono (by simp))
      have g1 := g0.next hb1
      have c0 := g1.cell 0
      have c1 := g1.cell 1
      go_wp2_with fail
      refine (SC.out _ ((h.below hbel1).more hbel1.size)).mono ?_
      rintro e w2 ⟨rfl, hb2⟩
      go_wp2
      go_ret
      exact ⟨ret_bool (by simp [h3]), hbel1.trans (hb2.mono hbel1.size)⟩
    · have hd3 : decide (n ≤ a) = false := decide_eq_false h3
      go_enter Try.func93, Try.ntmps93
      go_wp2_with fail
      refine (GC.out _ ((h.alloc (Nat.le_refl _) _).more (by simp))).mono ?_
      rintro e w1 ⟨rfl, hb1⟩
      have hbel1 : Below w.heap.size w w1 := ((Below.refl _ _).alloc (Nat.le_refl _) _).trans (hb1.mono (by simp))
      have g1 := g0.next hb1
      have c0 := g1.cell 0
      have c1 := g1.cell 1
      go_wp2
      go_ret
      exact ⟨ret_bool (by rw [hd3]; rfl), hbel1⟩
  · have hd : smallB n es a b = true := by unfold smallB; rw [if_neg h1, if_pos h2]
    rw [hd]
    obtain ⟨q, hq⟩ : ∃ q, checkG n es = q := ⟨_, rfl⟩
    rw [hq] at GC h2
    have hb : (q != 0) = true := by simpa using h2
    have GC := Lib.hid GC
    clear h2 hd hq
    go_enter Try.func93, Try.ntmps93
    go_wp2_with fail
    refine (GC.out _ ((h.alloc (Nat.le_refl _) _).more (by simp))).mono ?_
    rintro e w1 ⟨rfl, hb1⟩
    have hbel1 : Below w.heap.size w w1 := ((Below.refl _ _).alloc (Nat.le_refl _) _).trans (hb1.mono (by simp))
    go_wp2
    go_ret
    exact ⟨rfl, hbel1⟩
end Go.Proofs.Ythbannpmfdflaaa

/-! ref08.FewTrees, ref24.List, All: all recurrent configurations, found among all below the maximal one. -/
namespace Go.Proofs.Ythbannpmfdflaaa
open Go.RowKit

set_option maxHeartbeats 1000000 in
theorem fewtrees_any (n : Int) (A : Option Addr) (c : Nat) (es : List E3) (w : World) (h : Reads w w.heap.size 3 A es.length (edgeCells es)) :
    Calls Try.prog 47 #[.agg #[.int .i64 n, .slice A es.length c]] w fun e w' => e = .returned (.bool (smallB n es 5 8)) ∧ Below w.heap.size w w' := by
  have SC := Lib.hid (rsmall_any n A c es 5 8)
  go_enter Try.func47, Try.ntmps47
  go_wp2_with fail
  refine (SC.out _ ((h.alloc (Nat.le_refl _) _).more (by simp))).mono ?_
  rintro e w1 ⟨rfl, hb1⟩
  have hbel1 : Below w.heap.size w w1 := ((Below.refl _ _).alloc (Nat.le_refl _) _).trans (hb1.mono (by simp))
  go_wp2
  go_ret
  exact ⟨rfl, hbel1⟩

/-! A slice of the call's own whose rows another world holds. -/
def Shared (w0 w : World) (A : Option Addr) (c : Nat) (vs : List Value) (xss : List (List Int)) : Prop :=
  w.ownsRow w0.heap.size 26 1 (.slice A xss.length c) xss.length vs ∧ ∀ (i : Nat) (xs : List Int), xss[i]? = some xs → ∃ A1 c1, vs[i]? = some (.slice A1 xs.length c1) ∧ Reads w0 w0.heap.size 1 A1 xs.length (ints xs)
section
variable {w0 w w' : World} {A : Option Addr} {c : Nat} {vs : List Value} {xss : List (List Int)}
theorem Shared.nil_ (w0 w : World) : Shared w0 w none 0 [] [] := ⟨World.ownsRow_nil _ _ _ _, by simp⟩
theorem Shared.next (h : Shared w0 w A c vs xss) (hb : Below w.heap.size w w') : Shared w0 w' A c vs xss :=
  ⟨own_kept h.1 fun k hk => hb.block k (own_lt h.1 hk).2, h.2⟩
theorem Shared.len (h : Shared w0 w A c vs xss) : vs.length = xss.length := by have := h.1.1; omega
theorem Shared.push {A' A1 : Option Addr} {c' c1 : Nat} {xs : List Int} (h : Shared w0 w A c vs xss) (hr : Reads w0 w0.heap.size 1 A1 xs.length (ints xs))
    (hown : w'.ownsRow w0.heap.size 26 1 (.slice A' (xss.length + 1) c') (xss.length + 1) (vs ++ [.slice A1 xs.length c1])) : Shared w0 w' A' c' (vs ++ [.slice A1 xs.length c1]) (xss ++ [xs]) := by
  have hl := h.len
  refine ⟨by rw [List.length_append]; exact hown, fun i ys hi => ?_⟩
  rcases Nat.lt_trichotomy i xss.length with hlt | rfl | hgt
  · rw [List.getElem?_append_left hlt] at hi
    obtain ⟨A2, c2, hv, ho⟩ := h.2 i ys hi
    exact ⟨A2, c2, by rw [List.getElem?_append_left (by omega)]; exact hv, ho⟩
  · have : ys = xs := by simpa using hi.symm
    subst this
    exact ⟨A1, c1, by rw [← hl]; simp, hr⟩
  · rw [List.getElem?_eq_none (by simp; omega)] at hi; cases hi
theorem Shared.reads (h : Shared w0 w A c vs xss) (hb : Below w0.heap.size w0 w) : RowsR w w.heap.size A xss :=
  ⟨vs, Reads.of_own h.1, fun i xs hi => by
    obtain ⟨A1, c1, hv, ho⟩ := h.2 i xs hi
    exact ⟨A1, c1, hv, (ho.below hb).more hb.size⟩⟩
end
theorem RowsR.at2 {w : World} {B : Nat} {A : Option Addr} {xss : List (List Int)} (h : RowsR w B A xss) {k : Nat} {xs : List Int} (hx : xss[k]? = some xs) :
    ∃ b off A' c', A = some ⟨b, off, none⟩ ∧ b < B ∧ (∀ w', Below B w w' → w'.cell? ⟨b, off + k, none⟩ = some (.slice A' xs.length c')) ∧ Reads w B 1 A' xs.length (ints xs) := by
  obtain ⟨b, off, A', c', hA, hb, hc, hr⟩ := h.at_ hx
  exact ⟨b, off, A', c', hA, hb, fun w' hB => (hB.cell (p := ⟨b, off + k, none⟩) hb).trans hc, hr⟩
theorem filt_snoc {P : List Int → Bool} {xss : List (List Int)} {k : Nat} {x : List Int} (h : xss[k]? = some x) : (xss.take (k + 1)).filter P = (xss.take k).filter P ++ if P x then [x] else [] := by
  rw [List.take_add_one, h, List.filter_append]
  cases hp : P x <;> simp [hp]

set_option maxRecDepth 100000 in
set_option maxHeartbeats 8000000 in
theorem rlist_any (n : Nat) (hn6 : n ≤ 6) (A : Option Addr) (c : Nat) (es : List E3) (hlen : es.length ≤ 10000) (hG : RightG n es) (q : Nat) (hq : q < n) (hM : ∀ v, v ≤ n → (belL (maxL n es q) v).length ≤ 1000000) (w : World)
    (h : Reads w w.heap.size 3 A es.length (edgeCells es)) :
    Calls Try.prog 100 #[.agg #[.int .i64 n, .slice A es.length c], .int .i64 q] w fun e w' => ∃ A' c', e = .returned (.slice A' (recsL n es q).length c') ∧ RowsR w' w'.heap.size A' (recsL n es q) ∧ Below w.heap.size w w' := by
  have g0 := Blk.new w 24 #[.int .i64 n, .slice A es.length c]
  have B0 : Below w.heap.size w (w.alloc (.cells #[.int .i64 n, .slice A es.length c] 24)) := (Below.refl _ _).alloc (Nat.le_refl _) _
  have c0 := g0.cell 0
  have c1 := g0.cell 1
  have TC := Lib.hid (fun (W : World) (hB : Below w.heap.size w W) => rtop_any n A c es hlen hG q W ((h.below hB).more hB.size))
  have hml := maxL_length n es q
  have BC : Hid (∀ (B : Option Addr) (d : Nat) (W : World), Reads W W.heap.size 1 B n (ints (maxL n es q)) → Calls Try.prog 147 #[.slice B n d] W fun e w' => ∃ A' c', e = .returned (.slice A' (belL (maxL n es q) n).length c') ∧ RowsR w' w'.heap.size A' (belL (maxL n es q) n) ∧ Below W.heap.size W w') := fun B d W hr => by
    have := rbel_any B d (maxL n es q) (by rw [hml]; omega) (fun x hx => by
      obtain ⟨i, hi⟩ := List.getElem?_of_mem hx
      have hin : i < n := by have := (List.getElem?_eq_some_iff.1 hi).1; omega
      have h1 := maxL_get (q := q) hG.ok hin
      rw [getD_at hi] at h1
      have h2 := valE_bd hG.ok i
      rw [h1]
      split <;> omega) (by rw [hml]; exact hM) (fun v p hp => (bel_mem v p hp).1) W (by rw [hml]; exact hr)
    rw [hml] at this
    exact this
  have IC := Lib.hid (fun (xs : List Int) (hx : xs.length = n) (B : Option Addr) (d : Nat) (W : World) h1 h2 => ris24_any n hn6 A c es hlen hG q hq B d xs hx W h1 h2)
  have hRL := recsL_bel hG hq
  have hLl := hM n (Nat.le_refl n)
  have hLm : ∀ x ∈ belL (maxL n es q) n, x.length = n := fun x hx => (bel_mem n x hx).1
  obtain ⟨R, hR⟩ : ∃ R, recsL n es q = R := ⟨_, rfl⟩
  obtain ⟨T, hT⟩ : ∃ T, maxL n es q = T := ⟨_, rfl⟩
  obtain ⟨L, hL⟩ : ∃ L, belL T n = L := ⟨_, rfl⟩
  obtain ⟨P, hP⟩ : ∃ P, recP n es q = P := ⟨_, rfl⟩
  have hP' : ∀ x, recB n es x q = P x := fun x => congrFun hP x
  rw [hT] at TC BC hRL hLl hLm
  rw [hL] at hRL hLl hLm BC
  rw [hP] at hRL
  simp only [hP'] at IC
  rw [hR] at hRL ⊢
  have HLM := Lib.hid hLm
  have HTL : Hid (T.length = n) := by rw [Hid, ← hT]; exact hml
  have HRL := Lib.hid hRL
  clear hG hml hLm hR hT hL hP hP' hRL hM
  go_enter Try.func100, Try.ntmps100
  go_wp2_with fail
  refine (TC.out _ B0).mono ?_
  rintro e w1 ⟨A1, c1', rfl, o1, hb1⟩
  have B1 := B0.trans (hb1.mono B0.size)
  have g1 := g0.next hb1
  have rT := o1.reads
  rw [HTL.out] at rT
  have BC1 := Lib.hid (BC.out A1 c1' w1 rT)
  have d0 := g1.cell 0
  have d1 := g1.cell 1
  clear g0 B0 c0 c1 hb1 o1 rT BC
  go_wp2_with fail
  refine (BC1.out).mono ?_
  rintro e w2 ⟨A3, c3, rfl, RX, hb2⟩
  have B2 := B1.trans (hb2.mono B1.size)
  have g2 := g1.next hb2
  have RXH := Lib.hid RX
  have HRF : Hid (∀ k x, L[k]? = some x → (L.take (k + 1)).filter P = (L.take k).filter P ++ if P x then [x] else []) := fun k x hx => filt_snoc hx
  have HRE : Hid ((L.take L.length).filter P = R) := by rw [Hid, List.take_length]; exact HRL.out.symm
  have HFL : Hid (∀ k, ((L.take k).filter P).length ≤ k) := fun k => Nat.le_trans (List.length_filter_le _ _) (by simp; omega)
  have HF0 : Hid ((L.take 0).filter P = []) := by simp [Hid]
  obtain ⟨F, hF⟩ : ∃ F : Nat → List (List Int), (fun k => (L.take k).filter P) = F := ⟨_, rfl⟩
  have hF' : ∀ k, (L.take k).filter P = F k := fun k => congrFun hF k
  simp only [hF'] at HRF HRE HFL HF0
  clear g1 B1 hb2 d0 d1 RX BC1 hF hF'
  go_wp2_with fail
  go_loopw [6, 7] (fun o i wl => ∃ (k : Nat) (A' : Option Addr) (c' : Nat) (vs : List Value), k ≤ L.length ∧ i = .int .i64 k ∧ o = .slice A' (F k).length c' ∧ Hid (Shared w2 wl A' c' vs (F k)) ∧ Below w2.heap.size w2 wl) (fun _ i _ => L.length - (intOf i).toNat)
  case atStart => exact ⟨0, none, 0, [], by omega, rfl, by rw [HF0.out]; rfl, by rw [HF0.out]; exact Shared.nil_ _ _, Below.refl _ _⟩
  case round =>
    obtain ⟨k, A', c', vs, hk, rfl, rfl, SH, hB⟩ := hrel
    obtain ⟨wo, hwo⟩ : ∃ wo : World, wo = wr := ⟨wr, rfl⟩
    subst hwo
    have hsz := hB.size
    have hBw := B2.trans (hB.mono B2.size)
    by_cases hlt : k < L.length
    · have hi : (k : Int) < (L.length : Int) := by omega
      obtain ⟨x, hx⟩ := get_of_lt hlt
      have hxn := HLM.out x (List.mem_of_getElem? hx)
      obtain ⟨b, off, A4, c4, rfl, hb, HC, hrd⟩ := RXH.out.at2 hx
      have HCH := Lib.hid HC
      have cx := HC wo hB
      rw [hxn] at cx
      have HX := Lib.hid hx
      have hfs := HRF.out k x hx
      have hrd' := hrd
      rw [hxn] at hrd'
      have IC1 := Lib.hid (fun W hW => IC.out x hxn A4 c4 W hW)
      have g7 := g2.next hB
      have c0 := g7.cell 0
      have c1 := g7.cell 1
      have hgl := g7.lt
      have RG := Lib.hid ((h.below hBw).more hBw.size)
      have RD := Lib.hid ((hrd'.below hB).more hsz)
      have HRD := Lib.hid hrd
      have HXN := Lib.hid hxn
      have hl6 := HFL.out k
      obtain ⟨z, hz⟩ : ∃ z, P x = z := ⟨_, rfl⟩
      rw [hz] at IC1 hfs
      cases z
      · simp only [if_neg (show ¬ (false = true) by decide), List.append_nil] at hfs
        have HFS := Lib.hid hfs
        clear hfs hx hrd hrd' hxn hz HC
        go_wp2
        go_region_held3 (fun W => W.cell? ⟨w.heap.size, 0, none⟩ = some (.int .i64 n) ∧ W.cell? ⟨w.heap.size, 1, none⟩ = some (.slice A es.length c) ∧ W.cell? ⟨b, off + k, none⟩ = some (.slice A4 n c4)) (go_keep)
          (first | (go_at_call 149; refine (IC1.out _ (by exact RG.out) (by exact RD.out)).mono ?_; rintro e w5 ⟨rfl, hb5⟩
                    have k0 := (hb5.cell (p := ⟨w.heap.size, 0, none⟩) (by exact hgl)).trans c0
                    have k1 := (hb5.cell (p := ⟨w.heap.size, 1, none⟩) (by exact hgl)).trans c1
                    have k2 := (hb5.cell (p := ⟨b, off + k, none⟩) (by show b < wo.heap.size; omega)).trans cx))
        all_goals (
          have hb5' : Below wo.heap.size wo w5 := (Below.refl _ _).drew.trans hb5
          go_wp2
          go_roundw
          case rel => exact ⟨k + 1, A', c', vs, by omega, by go_num, by rw [HFS.out], by rw [HFS.out]; exact SH.out.next hb5', hB.trans (hb5'.mono hsz)⟩
          case measure => simp [intOf]; omega)
      · simp only at hfs
        have HFS := Lib.hid hfs
        clear hfs hx hrd hrd' hxn hz HC
        go_wp2
        go_region_held3 (fun W => W.cell? ⟨w.heap.size, 0, none⟩ = some (.int .i64 n) ∧ W.cell? ⟨w.heap.size, 1, none⟩ = some (.slice A es.length c) ∧ W.cell? ⟨b, off + k, none⟩ = some (.slice A4 n c4)) (go_keep)
          (first | (go_at_call 149; refine (IC1.out _ (by exact RG.out) (by exact RD.out)).mono ?_; rintro e w5 ⟨rfl, hb5⟩
                    have k0 := (hb5.cell (p := ⟨w.heap.size, 0, none⟩) (by exact hgl)).trans c0
                    have k1 := (hb5.cell (p := ⟨w.heap.size, 1, none⟩) (by exact hgl)).trans c1
                    have k2 := (hb5.cell (p := ⟨b, off + k, none⟩) (by show b < wo.heap.size; omega)).trans cx))
        all_goals (
          have hb5' : Below wo.heap.size wo w5 := (Below.refl _ _).drew.trans hb5
          have hB5 := hB.trans (hb5'.mono hsz)
          have SH5 := Lib.hid (SH.out.next hb5')
          have hs5 := hB5.size
          have cx5 := HCH.out w5 hB5
          rw [HXN.out] at cx5
          go_wp2_with (at_builtin; refine append_go rfl (.tmp 25) (.tmp 30) _ rfl w2.heap.size 26 Try.underlying74 info_divs rfl (by omega) A' c' (F k).length vs rfl (World.ownsRow.alloc SH5.out.1 _) _ [.slice A4 n c4] rfl (Reads.box _ _ _) (by simp [Value.oneCell']) (by omega) (by simp; omega) ?_; intro A6 c6 w6 hown6 hg6 hb6 hw6)
          have B6 := (hB5.alloc hs5 (.cells #[.slice A4 n c4] 26)).trans hb6
          go_roundw
          case rel =>
            have := SH5.out.push (w' := w6) (A' := A6) (c' := c6) (c1 := c4) HRD.out (by rw [HXN.out]; exact hown6)
            exact ⟨k + 1, A6, c6, _, by omega, by go_num, by rw [HFS.out]; simp, by rw [HFS.out]; exact this, B6⟩
          case measure => simp [intOf]; omega)
    · obtain rfl : k = L.length := by omega
      have hR2 : Hid (F L.length = R) := HRE
      rw [hR2.out] at SH ⊢
      go_wp2
      go_ret
      exact ⟨A', c', rfl, SH.out.reads hB, hBw⟩
end Go.Proofs.Ythbannpmfdflaaa

