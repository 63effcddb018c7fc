/-
  Texts of this claim, put together: Sup, RDual, DulP, RFire, RRecur, RForbP, RChips, RCalm, REnumP.
-/
import Derived.Test.YtghigdcpinengaaGreatK34
import Derived.Test.YtghigdcpinengaaGreatK11
import Derived.Test.YtghigdcpinengaaGreatK29
import Derived.Test.YtghigdcpinengaaGreatK24
import Derived.Test.YtghigdcpinengaaGreatK25
import Derived.Test.YtghigdcpinengaaGreatK23
import Derived.Test.YtghigdcpinengaaGreatK10
import Derived.Test.YtghigdcpinengaaGreatK33
import Derived.Deep.RegionHeld3
/-! Package superstable: calm, first, configurations. -/
namespace Go.Proofs.YtghigdcpinengaaGreat
open Go.RowKit Go.Shelf

set_option maxRecDepth 100000 in
set_option maxHeartbeats 2000000 in
theorem calm_any (n : Nat) (A : Option Addr) (c : Nat) (es : List E3) (hn : es.length ≤ 1048576) (q : Nat) (B : Option Addr) (d : Nat) (cs : List Int) (hm : cs.length ≤ 1048000) (w : World) (h : Reads w w.heap.size 3 A es.length (edgeCells es)) (h' : Reads w w.heap.size 1 B cs.length (ints cs)) :
    Calls Tryz.prog 112 #[.agg #[.int .i64 n, .slice A es.length c], .int .i64 q, .slice B cs.length d] w fun e w' => e = .returned (.bool (calmB n es q cs)) ∧ Below w.heap.size w w' := by
  have SA := super_any n A c es hn q B d cs hm
  unfold calmB
  obtain ⟨b, hb⟩ : ∃ b, (superE n es q cs).1 = b := ⟨_, rfl⟩
  obtain ⟨e, he⟩ : ∃ e, (superE n es q cs).2 = e := ⟨_, rfl⟩
  rw [hb, he] at SA ⊢
  have SA := Lib.hid SA
  have g0 := Blk.new w 24 #[.int .i64 n, .slice A es.length c]
  have c0 := g0.cell 0
  have c1 := g0.cell 1
  clear hb he
  have hbd : (e == 0) = decide (e = 0) := by rw [Bool.eq_iff_iff]; simp
  go_enter Tryz.func112, Tryz.ntmps112
  go_wp2_with fail
  refine (SA.out _ ((h.alloc (Nat.le_refl _) _).more (by simp)) ((h'.alloc (Nat.le_refl _) _).more (by simp))).mono ?_
  rintro e' w1 ⟨rfl, hb1⟩
  have hB1 : Below w.heap.size w w1 := ((Below.refl _ _).alloc (Nat.le_refl _) _).trans (hb1.mono (by simp))
  cases b
  · go_wp2
    go_ret
    exact ⟨by simp, hB1⟩
  · go_wp2
    go_ret
    exact ⟨by simp, hB1⟩
set_option maxRecDepth 100000 in
set_option maxHeartbeats 2000000 in
theorem sfirst_ok (n : Nat) (A : Option Addr) (c : Nat) (es : List E3) (hlen : es.length ≤ 10000) (q : Nat) (hx : rootErr n es q = 0) (w : World) (h : Reads w w.heap.size 3 A es.length (edgeCells es)) :
    Calls Tryz.prog 78 #[.agg #[.int .i64 n, .slice A es.length c], .int .i64 q] w fun e w' => ∃ Am cm, e = .returned (.tuple #[.slice Am n cm, .int .i64 0]) ∧ OwnI w' w.heap.size Am cm (maxL n es q) ∧ Below w.heap.size w w' := by
  have MX := Lib.hid (maximal_ok n A c es hlen q hx)
  have g0 := Blk.new w 24 #[.int .i64 n, .slice A es.length c]
  have c0 := g0.cell 0
  have c1 := g0.cell 1
  clear hx
  go_enter Tryz.func78, Tryz.ntmps78
  go_wp2_with fail
  refine (MX.out _ ((h.alloc (Nat.le_refl _) _).more (by simp))).mono ?_
  rintro e w1 ⟨Am, cm, rfl, o1, hb1⟩
  have hB1 : Below w.heap.size w w1 := ((Below.refl _ _).alloc (Nat.le_refl _) _).trans (hb1.mono (by simp))
  go_wp2
  go_ret2
  exact ⟨Am, cm, rfl, o1.mono (by simp), hB1⟩
set_option maxRecDepth 100000 in
set_option maxHeartbeats 2000000 in
theorem sfirst_bad (n : Int) (A : Option Addr) (c : Nat) (es : List E3) (hlen : es.length ≤ 10000) (q : Int) (x : Int) (hx : rootErr n es q = x) (hx0 : (x == 0) = false) (w : World) (h : Reads w w.heap.size 3 A es.length (edgeCells es)) :
    Calls Tryz.prog 78 #[.agg #[.int .i64 n, .slice A es.length c], .int .i64 q] w fun e w' => e = .returned (.tuple #[.slice none 0 0, .int .i64 x]) ∧ Below w.heap.size w w' := by
  have MX := Lib.hid (maximal_bad n A c es hlen q x hx hx0)
  have g0 := Blk.new w 24 #[.int .i64 n, .slice A es.length c]
  have c0 := g0.cell 0
  have c1 := g0.cell 1
  clear hx
  go_enter Tryz.func78, Tryz.ntmps78
  go_wp2_with fail
  refine (MX.out _ ((h.alloc (Nat.le_refl _) _).more (by simp))).mono ?_
  rintro e w1 ⟨rfl, hb1⟩
  have hB1 : Below w.heap.size w w1 := ((Below.refl _ _).alloc (Nat.le_refl _) _).trans (hb1.mono (by simp))
  go_wp2
  go_ret2
  exact ⟨rfl, hB1⟩
set_option maxHeartbeats 1000000 in
theorem confs_any (n : Int) (A : Option Addr) (c m : Nat) (q : Int) (w : World) :
    Calls Tryz.prog 79 #[.agg #[.int .i64 n, .slice A m c], .int .i64 q] w fun e w' => e = .returned (.func (.func 110) #[] #[.pointer (some ⟨w.heap.size, 0, none⟩), .pointer (some ⟨w.heap.size + 1, 0, none⟩)]) ∧
      (w.alloc (.cells #[.int .i64 n, .slice A m c] 24)).alloc (.cells #[.int .i64 q] 3) = w' := by
  have hmf : ∀ (fn : Fn) (first cap : Array Value) (w : World), (Instr.makeFunc fn first cap).run Tryz.prog w = .ok (.func fn first cap) w := fun _ _ _ _ => rfl
  go_enter Tryz.func79, Tryz.ntmps79
  go_wp2
  go_ret
  exact ⟨rfl, rfl⟩
end Go.Proofs.YtghigdcpinengaaGreat

/-! Plain: the fire of recurrent configurations is the burning of the dual one. -/
namespace Go.Proofs.YtghigdcpinengaaGreat
open Go.RowKit

end Go.Proofs.YtghigdcpinengaaGreat

/-! Plain: the dual of a configuration. -/
namespace Go.Proofs.YtghigdcpinengaaGreat
open Go.RowKit

/-- The dual of a configuration, as far as k: no chips at the sink. -/
def dulTo (n : Nat) (es : List E3) (cs : List Int) (q k : Nat) : List Int := (List.range n).map fun v : Nat => if v < k ∧ v ≠ q then valE es v - 1 - cs.getD v 0 else 0
def dulL (n : Nat) (es : List E3) (cs : List Int) (q : Nat) : List Int := dulTo n es cs q n
theorem dulTo_length (n : Nat) (es : List E3) (cs : List Int) (q k : Nat) : (dulTo n es cs q k).length = n := by simp [dulTo]
theorem dulL_length (n : Nat) (es : List E3) (cs : List Int) (q : Nat) : (dulL n es cs q).length = n := dulTo_length n es cs q n
theorem dulTo_zero (n : Nat) (es : List E3) (cs : List Int) (q : Nat) : dulTo n es cs q 0 = List.replicate n 0 := by
  apply List.ext_getElem?
  intro i
  unfold dulTo
  by_cases hi : i < n
  · simp [hi]
  · simp [hi]
theorem dulTo_sink (n : Nat) (es : List E3) (cs : List Int) (q : Nat) : dulTo n es cs q (q + 1) = dulTo n es cs q q := by
  unfold dulTo
  apply List.map_congr_left
  intro v _
  by_cases h1 : v < q
  · rw [if_pos ⟨by omega, by omega⟩, if_pos ⟨h1, by omega⟩]
  · rw [if_neg (by omega), if_neg (by omega)]
theorem dulTo_succ (n : Nat) (es : List E3) (cs : List Int) (q k : Nat) (hk : k ≠ q) : dulTo n es cs q (k + 1) = (dulTo n es cs q k).set k (valE es k - 1 - cs.getD k 0) := by
  apply List.ext_getElem?
  intro i
  unfold dulTo
  by_cases hi : i < n
  · by_cases h : i = k
    · subst h
      rw [List.getElem?_set_self (by simpa using hi)]
      simp [hi, hk]
    · rw [List.getElem?_set_ne (fun e => h e.symm)]
      simp only [List.getElem?_map, List.getElem?_range hi, Option.map_some]
      by_cases h2 : i < k ∧ i ≠ q
      · rw [if_pos h2, if_pos ⟨by omega, h2.2⟩]
      · rw [if_neg h2, if_neg (by omega)]
  · rw [List.getElem?_eq_none (by simp; omega), List.getElem?_eq_none (by simp; omega)]
end Go.Proofs.YtghigdcpinengaaGreat

/-! Package recurrent: fire, recurs. -/
namespace Go.Proofs.YtghigdcpinengaaGreat
open Go.RowKit

end Go.Proofs.YtghigdcpinengaaGreat

/-! Package recurrent: check, recurs, Recurrent. -/
namespace Go.Proofs.YtghigdcpinengaaGreat
open Go.RowKit


end Go.Proofs.YtghigdcpinengaaGreat

/-! Plain: the greatest forbidden set is what the fire leaves; what is above a recurrent configuration is recurrent. -/
namespace Go.Proofs.YtghigdcpinengaaGreat
open Go.RowKit

theorem stabTo_iff {n q : Nat} {es : List E3} {cs : List Int} : stabTo es cs q n = true ↔ ∀ v, v < n → v ≠ q → cs.getD v 0 < valE es v := by
  unfold stabTo
  rw [List.all_eq_true]
  constructor
  · intro h v hv hq
    have := h v (List.mem_range.2 hv)
    rw [decide_eq_false hq, Bool.false_or] at this
    exact of_decide_eq_true this
  · intro h v hv
    by_cases hq : v = q
    · simp [hq]
    · rw [decide_eq_true (h v (List.mem_range.1 hv) hq), Bool.or_true]
end Go.Proofs.YtghigdcpinengaaGreat

/-! ref08.Between; the error of a divisor: ref17.Check. -/
namespace Go.Proofs.YtghigdcpinengaaGreat
open Go.RowKit

set_option maxRecDepth 100000 in
set_option maxHeartbeats 2000000 in
/-- ref08.Between -/
theorem between_any (n : Int) (A : Option Addr) (c : Nat) (es : List E3) (hn : es.length ≤ 1048576) (a b : Int) (w : World) (h : Reads w w.heap.size 3 A es.length (edgeCells es)) :
    Calls Tryz.prog 125 #[.agg #[.int .i64 n, .slice A es.length c], .int .i64 a, .int .i64 b] w fun e w' => e = .returned (.int .i64 (btw es a b)) ∧ Below w.heap.size w w' := by
  obtain ⟨r, hr⟩ : ∃ r, btw es a b = r := ⟨_, rfl⟩
  rw [hr]
  have HR := Lib.hid hr
  clear hr
  rcases Int.lt_trichotomy a b with hab | rfl | hab
  · have hba : ¬ b < a := by omega
    go_enter Tryz.func125, Tryz.ntmps125
    go_wp2
    go_loopw [7] (fun i wr => ∃ k : Nat, k ≤ es.length ∧ i = .int .i64 k ∧ Below w.heap.size w wr ∧ Blk wr w.heap.size 24 #[.int .i64 n, .slice A es.length c] ∧ Hid (btw es a b = btw (es.drop k) a b)) (fun i _ => es.length - (intOf i).toNat)
    case atStart => exact ⟨0, by omega, rfl, (Below.refl _ _).alloc (Nat.le_refl _) _, Blk.new _ _ _, by simp [Hid]⟩
    case round =>
      obtain ⟨k, hk, rfl, hbel, g1, HS⟩ := hrel
      have c1 := g1.cell 1
      have hsz := hbel.size
      have hlt0 := g1.lt
      by_cases hlt : k < es.length
      · obtain ⟨⟨x, y, m⟩, hx⟩ := get_of_lt hlt
        have hi : (k : Int) < (es.length : Int) := by omega
        have hd := btw_drop hx a b
        rw [show min a b = a from by omega, show max a b = b from by omega] at hd
        dsimp only at hd
        obtain ⟨bb, off, rfl, hb, q1, q2, q3⟩ := (h.below hbel).edge hx
        have G1 := g1.alloc (.cells #[.int .i64 x, .int .i64 y, .int .i64 m] 104)
        dsimp only at q1 q2 q3
        have HB := Lib.hid (hbel.alloc (Nat.le_trans (by simp) hsz) (.cells #[.int .i64 x, .int .i64 y, .int .i64 m] 104))
        clear hx h hbel
        by_cases h1 : x = a
        · by_cases h2 : y = b
          · rw [if_pos ⟨h1, h2⟩] at hd
            have HD := Lib.hid hd
            have e1 : (x == a) = true := by simpa using h1
            have e2 : (y == b) = true := by simpa using h2
            clear hd h1 h2
            go_wp2
            go_ret
            exact ⟨ret_int (by rw [← HR.out, HS.out, HD.out]), HB.out⟩
          · rw [if_neg (fun hc => h2 hc.2)] at hd
            have HD := Lib.hid hd
            have e1 : (x == a) = true := by simpa using h1
            have e2 : (y == b) = false := by simpa using h2
            clear hd h1 h2
            go_wp2
            go_roundw
            case rel => exact ⟨k + 1, by omega, by go_num, HB.out, G1, by rw [Hid, HS.out, HD.out]⟩
            case measure => simp [intOf]; omega
        · rw [if_neg (fun hc => h1 hc.1)] at hd
          have HD := Lib.hid hd
          have e1 : (x == a) = false := by simpa using h1
          clear hd h1
          go_wp2
          go_roundw
          case rel => exact ⟨k + 1, by omega, by go_num, HB.out, G1, by rw [Hid, HS.out, HD.out]⟩
          case measure => simp [intOf]; omega
      · go_wp2
        go_ret
        refine ⟨ret_int ?_, hbel⟩
        have e : btw es a b = 0 := by rw [HS.out, List.drop_eq_nil_of_le (by omega)]; rfl
        rw [← HR.out, e]
  · go_enter Tryz.func125, Tryz.ntmps125
    go_wp2
    go_loopw [7] (fun i wr => ∃ k : Nat, k ≤ es.length ∧ i = .int .i64 k ∧ Below w.heap.size w wr ∧ Blk wr w.heap.size 24 #[.int .i64 n, .slice A es.length c] ∧ Hid (btw es a a = btw (es.drop k) a a)) (fun i _ => es.length - (intOf i).toNat)
    case atStart => exact ⟨0, by omega, rfl, (Below.refl _ _).alloc (Nat.le_refl _) _, Blk.new _ _ _, by simp [Hid]⟩
    case round =>
      obtain ⟨k, hk, rfl, hbel, g1, HS⟩ := hrel
      have c1 := g1.cell 1
      have hsz := hbel.size
      have hlt0 := g1.lt
      by_cases hlt : k < es.length
      · obtain ⟨⟨x, y, m⟩, hx⟩ := get_of_lt hlt
        have hi : (k : Int) < (es.length : Int) := by omega
        have hd := btw_drop hx a a
        rw [show min a a = a from by omega, show max a a = a from by omega] at hd
        dsimp only at hd
        obtain ⟨bb, off, rfl, hb, q1, q2, q3⟩ := (h.below hbel).edge hx
        have G1 := g1.alloc (.cells #[.int .i64 x, .int .i64 y, .int .i64 m] 104)
        dsimp only at q1 q2 q3
        have HB := Lib.hid (hbel.alloc (Nat.le_trans (by simp) hsz) (.cells #[.int .i64 x, .int .i64 y, .int .i64 m] 104))
        clear hx h hbel
        by_cases h1 : x = a
        · by_cases h2 : y = a
          · rw [if_pos ⟨h1, h2⟩] at hd
            have HD := Lib.hid hd
            have e1 : (x == a) = true := by simpa using h1
            have e2 : (y == a) = true := by simpa using h2
            clear hd h1 h2
            go_wp2
            go_ret
            exact ⟨ret_int (by rw [← HR.out, HS.out, HD.out]), HB.out⟩
          · rw [if_neg (fun hc => h2 hc.2)] at hd
            have HD := Lib.hid hd
            have e1 : (x == a) = true := by simpa using h1
            have e2 : (y == a) = false := by simpa using h2
            clear hd h1 h2
            go_wp2
            go_roundw
            case rel => exact ⟨k + 1, by omega, by go_num, HB.out, G1, by rw [Hid, HS.out, HD.out]⟩
            case measure => simp [intOf]; omega
        · rw [if_neg (fun hc => h1 hc.1)] at hd
          have HD := Lib.hid hd
          have e1 : (x == a) = false := by simpa using h1
          clear hd h1
          go_wp2
          go_roundw
          case rel => exact ⟨k + 1, by omega, by go_num, HB.out, G1, by rw [Hid, HS.out, HD.out]⟩
          case measure => simp [intOf]; omega
      · go_wp2
        go_ret
        refine ⟨ret_int ?_, hbel⟩
        have e : btw es a a = 0 := by rw [HS.out, List.drop_eq_nil_of_le (by omega)]; rfl
        rw [← HR.out, e]
  · have hba : ¬ a < b := by omega
    go_enter Tryz.func125, Tryz.ntmps125
    go_wp2
    go_loopw [7] (fun i wr => ∃ k : Nat, k ≤ es.length ∧ i = .int .i64 k ∧ Below w.heap.size w wr ∧ Blk wr w.heap.size 24 #[.int .i64 n, .slice A es.length c] ∧ Hid (btw es a b = btw (es.drop k) a b)) (fun i _ => es.length - (intOf i).toNat)
    case atStart => exact ⟨0, by omega, rfl, (Below.refl _ _).alloc (Nat.le_refl _) _, Blk.new _ _ _, by simp [Hid]⟩
    case round =>
      obtain ⟨k, hk, rfl, hbel, g1, HS⟩ := hrel
      have c1 := g1.cell 1
      have hsz := hbel.size
      have hlt0 := g1.lt
      by_cases hlt : k < es.length
      · obtain ⟨⟨x, y, m⟩, hx⟩ := get_of_lt hlt
        have hi : (k : Int) < (es.length : Int) := by omega
        have hd := btw_drop hx a b
        rw [show min a b = b from by omega, show max a b = a from by omega] at hd
        dsimp only at hd
        obtain ⟨bb, off, rfl, hb, q1, q2, q3⟩ := (h.below hbel).edge hx
        have G1 := g1.alloc (.cells #[.int .i64 x, .int .i64 y, .int .i64 m] 104)
        dsimp only at q1 q2 q3
        have HB := Lib.hid (hbel.alloc (Nat.le_trans (by simp) hsz) (.cells #[.int .i64 x, .int .i64 y, .int .i64 m] 104))
        clear hx h hbel
        by_cases h1 : x = b
        · by_cases h2 : y = a
          · rw [if_pos ⟨h1, h2⟩] at hd
            have HD := Lib.hid hd
            have e1 : (x == b) = true := by simpa using h1
            have e2 : (y == a) = true := by simpa using h2
            clear hd h1 h2
            go_wp2
            go_ret
            exact ⟨ret_int (by rw [← HR.out, HS.out, HD.out]), HB.out⟩
          · rw [if_neg (fun hc => h2 hc.2)] at hd
            have HD := Lib.hid hd
            have e1 : (x == b) = true := by simpa using h1
            have e2 : (y == a) = false := by simpa using h2
            clear hd h1 h2
            go_wp2
            go_roundw
            case rel => exact ⟨k + 1, by omega, by go_num, HB.out, G1, by rw [Hid, HS.out, HD.out]⟩
            case measure => simp [intOf]; omega
        · rw [if_neg (fun hc => h1 hc.1)] at hd
          have HD := Lib.hid hd
          have e1 : (x == b) = false := by simpa using h1
          clear hd h1
          go_wp2
          go_roundw
          case rel => exact ⟨k + 1, by omega, by go_num, HB.out, G1, by rw [Hid, HS.out, HD.out]⟩
          case measure => simp [intOf]; omega
      · go_wp2
        go_ret
        refine ⟨ret_int ?_, hbel⟩
        have e : btw es a b = 0 := by rw [HS.out, List.drop_eq_nil_of_le (by omega)]; rfl
        rw [← HR.out, e]

end Go.Proofs.YtghigdcpinengaaGreat

/-! ref08.Valence, ref19.Waiting, ref19.Calm. -/
namespace Go.Proofs.YtghigdcpinengaaGreat
open Go.RowKit

theorem valS_bd {N : Int} {es : List E3} (hok : ∀ e ∈ es, okE N e) (v k : Nat) : 0 ≤ sumTo (fun w => tt es v w) k ∧ sumTo (fun w => tt es v w) k ≤ 50 * k := by
  induction k with
  | zero => simp [sumTo]
  | succ k ih =>
    have := tt_bd hok v k
    rw [sumTo]
    omega
set_option maxRecDepth 100000 in
set_option maxHeartbeats 4000000 in
theorem val08_any (n : Nat) (A : Option Addr) (c : Nat) (es : List E3) (hlen : es.length ≤ 10000) (hG : RightG n es) (v : Nat) (w : World) (h : Reads w w.heap.size 3 A es.length (edgeCells es)) :
    Calls Tryz.prog 122 #[.agg #[.int .i64 n, .slice A es.length c], .int .i64 v] w fun e w' => e = .returned (.int .i64 (valE es v)) ∧ Below w.heap.size w w' := by
  have HSB := Lib.hid (fun k => valS_bd hG.ok v k)
  have HVS : Hid (valE es v = sumTo (fun w => tt es v w) n) := valE_valS hG
  have hn12 : n ≤ 12 := by have := hG.hi; omega
  have HOK := Lib.hid hG.ok
  have g0 := Blk.new w 24 #[.int .i64 n, .slice A es.length c]
  have B0 : Below w.heap.size w (w.alloc (.cells #[.int .i64 n, .slice A es.length c] 24)) := (Below.refl _ _).alloc (Nat.le_refl _) _
  clear hG
  go_enter Tryz.func122, Tryz.ntmps122
  go_wp2_with fail
  go_loopw [5, 6] (fun s i wl => ∃ (k : Nat), i = .int .i64 k ∧ k ≤ n ∧ s = .int .i64 (sumTo (fun w => tt es v w) k) ∧ Hid (Below w.heap.size w wl) ∧ Hid (Blk wl w.heap.size 24 #[.int .i64 n, .slice A es.length c])) (fun _ i _ => n - (intOf i).toNat)
  case atStart => exact ⟨0, rfl, by omega, rfl, B0, g0⟩
  case round =>
    obtain ⟨k, rfl, hk, rfl, HB, HGr⟩ := hrel
    clear g0 B0
    have c0 := HGr.out.cell 0
    have c1 := HGr.out.cell 1
    have hs := HSB.out k
    obtain ⟨x, hx⟩ : ∃ x, sumTo (fun w => tt es v w) k = x := ⟨_, rfl⟩
    have hxs : sumTo (fun w => tt es v w) (k + 1) = x + tt es v k := by rw [sumTo, hx]
    rw [hx] at hs ⊢
    clear hx
    by_cases hlt : k < n
    · have hi : (k : Int) < (n : Int) := by omega
      by_cases hkv : k = v
      · have hne : ((k : Int) != (v : Int)) = false := by simp [hkv]
        have ht : tt es v k = 0 := by unfold tt; rw [if_pos hkv.symm]
        rw [ht, Int.add_zero] at hxs
        have HX := Lib.hid hxs
        clear hxs ht
        go_wp2
        go_roundw
        case rel => exact ⟨k + 1, by go_num, by omega, by rw [HX.out], HB, HGr⟩
        case measure => simp [intOf]; omega
      · have hne : ((k : Int) != (v : Int)) = true := by rw [bne_iff_ne]; omega
        have ht : tt es v k = btw es k v := by rw [tt_comm]; unfold tt; rw [if_neg hkv]
        have hbd := btw_bd HOK.out (k : Int) (v : Int)
        have BC := Lib.hid (between_any n A c es (by omega) k v wr ((h.below HB.out).more HB.out.size))
        rw [ht] at hxs
        obtain ⟨y, hy⟩ : ∃ y, btw es k v = y := ⟨_, rfl⟩
        rw [hy] at hxs hbd BC
        have hw1 : IntKind.i64.wrap (x + y) = x + y := IntWalk.i64_in _ (by omega)
        have HX := Lib.hid hxs
        clear hxs ht hy
        go_wp2_with fail
        refine (BC.out).mono ?_
        rintro e w5 ⟨rfl, b5⟩
        have B5 := Lib.hid (HB.out.trans (b5.mono HB.out.size))
        have G5 := Lib.hid (HGr.out.next b5)
        go_wp2
        go_roundw
        case rel => exact ⟨k + 1, by go_num, by omega, by rw [HX.out], B5, G5⟩
        case measure => simp [intOf]; omega
    · obtain rfl : k = n := by omega
      have hB := HB.out
      have HVX : Hid (valE es v = x) := by rw [Hid, HVS.out]; rw [sumTo] at hxs; omega
      go_wp2
      go_ret
      exact ⟨by rw [HVX.out]; rfl, hB⟩

end Go.Proofs.YtghigdcpinengaaGreat

/-! Plain: lists below a list, in lexicographic order; those with a property that what is more has too. No program is in sight. -/
namespace Go.Proofs.YtghigdcpinengaaGreat

/-- All lists that go on like this. -/
def extL (top : List Int) (n : Nat) : Nat → List Int → List (List Int)
  | 0, c => [c]
  | f + 1, c => (List.range ((top.getD (n - (f + 1)) 0) + 1).toNat).flatMap fun k : Nat => extL top n f (c.set (n - (f + 1)) (k : Int))
/-- The lists of v numbers below. -/
def belL (top : List Int) : Nat → List (List Int)
  | 0 => [[]]
  | v + 1 => (belL top v).flatMap fun p => (List.range ((top.getD v 0) + 1).toNat).map fun k : Nat => p ++ [(k : Int)]
theorem flat_congr {α β : Type} {f g : α → List β} : ∀ {l : List α}, (∀ a ∈ l, f a = g a) → l.flatMap f = l.flatMap g
  | [], _ => rfl
  | a :: l, h => by rw [List.flatMap_cons, List.flatMap_cons, h a (by simp), flat_congr fun b hb => h b (by simp [hb])]
section
variable {rec : List Int → Bool} {top : List Int} {n f v k : Nat} {c : List Int}
theorem extL_some (hv : v + (f + 1) = n) : extL top n (f + 1) c = (List.range ((top.getD v 0) + 1).toNat).flatMap fun k : Nat => extL top n f (c.set v (k : Int)) := by
  obtain rfl : n - (f + 1) = v := by omega
  rfl
theorem set_drop {p : List Int} (hv : v < top.length) (hp : p.length = v) (x : Int) : (p ++ top.drop v).set v x = (p ++ [x]) ++ top.drop (v + 1) := by
  rw [List.set_append_right _ _ (by omega), hp, Nat.sub_self, List.drop_eq_getElem_cons hv, List.set_cons_zero, List.append_assoc]
  rfl
theorem belL_length : ∀ v, ∀ p ∈ belL top v, p.length = v
  | 0, p, h => by simp [belL] at h; simp [h]
  | v + 1, p, h => by
    rw [belL, List.mem_flatMap] at h
    obtain ⟨x, hx, h⟩ := h
    rw [List.mem_map] at h
    obtain ⟨k, _, rfl⟩ := h
    simp [belL_length v x hx]
theorem ext_bel (hn : top.length = n) : ∀ f v, v + f = n → ((belL top v).flatMap fun p => extL top n f (p ++ top.drop v)) = belL top n
  | 0, v, h => by
    obtain rfl : v = n := by omega
    have h1 : ∀ p, p ++ top.drop v = p := fun p => by rw [List.drop_eq_nil_of_le (by omega), List.append_nil]
    simp only [h1, extL]
    simp
  | f + 1, v, h => by
    rw [← ext_bel hn f (v + 1) (by omega), belL, List.flatMap_assoc]
    apply flat_congr
    intro p hp
    rw [extL_some h, List.flatMap_map]
    apply flat_congr
    intro k hk
    rw [set_drop (by omega) (belL_length v p hp)]
theorem bel_ext (hn : top.length = n) : belL top n = extL top n n top := by
  have := ext_bel hn n 0 (by omega)
  simpa [belL] using this.symm
end
end Go.Proofs.YtghigdcpinengaaGreat

