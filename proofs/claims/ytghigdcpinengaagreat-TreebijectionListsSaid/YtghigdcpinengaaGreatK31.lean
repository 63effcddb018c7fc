/-
  Texts of this claim, put together: Maximal, Sup, RDual, DulP, RFire, RRecur.
-/
import Derived.Test.YtghigdcpinengaaGreatK28
import Derived.Test.YtghigdcpinengaaGreatK21
import Derived.Test.YtghigdcpinengaaGreatK30
import Derived.Test.YtghigdcpinengaaGreatK10
import Derived.Test.YtghigdcpinengaaGreatK26
import Derived.Test.YtghigdcpinengaaGreatK22
/-! stabilize.Maximal: the maximal stable configuration. -/
namespace Go.Proofs.YtghigdcpinengaaGreat
open Go.RowKit

theorem make_div (n : Nat) (hn : n ≤ 1048576) (W : World) : (Instr.makeSlice 26 (.int .i64 (n : Int)) (.int .i64 (n : Int))).run Tryz.prog W =
    .ok (.slice (some ⟨W.heap.size, 0, none⟩) n n) (W.alloc (.cells (ints (List.replicate n 0)).toArray 3)) := by
  obtain ⟨i0, hi, hz0, hz1, hz2⟩ := info_parts info_int
  have hr := run_make (P := Tryz.prog) W 26 3 i0 (.int .i64 0) Tryz.underlying26 hi hz0 .i64 .i64 n n (by omega) (Int.le_refl _) (by rw [hz2]; omega) (by omega)
  simp only [Int.toNat_natCast, hz1, Nat.mul_one] at hr
  rw [hr, show (Value.int .i64 0).cells = #[.int .i64 0] from rfl, made_ints]
/-- The maximal stable configuration, as far as k. -/
def maxTo (n : Nat) (val : List Int) (q : Nat) (k : Nat) : List Int := (List.range n).map fun v => if v < k ∧ v ≠ q then val.getD v 0 - 1 else 0
def maxL (n : Nat) (es : List E3) (q : Nat) : List Int := maxTo n (valL n (endsL es)) q n
theorem maxTo_zero (n : Nat) (val : List Int) (q : Nat) : maxTo n val q 0 = List.replicate n 0 := by
  apply List.ext_getElem?
  intro i
  unfold maxTo
  by_cases hi : i < n
  · simp [hi]
  · simp [hi]
theorem maxTo_length (n : Nat) (val : List Int) (q k : Nat) : (maxTo n val q k).length = n := by simp [maxTo]
theorem maxTo_sink (n : Nat) (val : List Int) (q : Nat) : maxTo n val q (q + 1) = maxTo n val q q := by
  unfold maxTo
  apply List.map_congr_left
  intro v _
  by_cases h1 : v < q
  · rw [if_pos ⟨by omega, by omega⟩, if_pos ⟨h1, by omega⟩]
  · rw [if_neg (by omega), if_neg (by omega)]
theorem maxTo_succ (n : Nat) (val : List Int) (q k : Nat) (hk : k ≠ q) (x : Int) (hx : val[k]? = some x) : maxTo n val q (k + 1) = (maxTo n val q k).set k (x - 1) := by
  apply List.ext_getElem?
  intro i
  unfold maxTo
  by_cases hi : i < n
  · by_cases h : i = k
    · subst h
      rw [List.getElem?_set_self (by simpa using hi)]
      simp [hi, hk, hx]
    · rw [List.getElem?_set_ne (fun e => h e.symm)]
      simp only [List.getElem?_map, List.getElem?_range hi, Option.map_some]
      by_cases h2 : i < k ∧ i ≠ q
      · rw [if_pos h2, if_pos ⟨by omega, h2.2⟩]
      · rw [if_neg h2, if_neg (by omega)]
  · rw [List.getElem?_eq_none (by simp; omega), List.getElem?_eq_none (by simp; omega)]

set_option maxRecDepth 100000 in
set_option maxHeartbeats 4000000 in
theorem maximal_bad (n : Int) (A : Option Addr) (c : Nat) (es : List E3) (hlen : es.length ≤ 10000) (q : Int) (x : Int) (hx : rootErr n es q = x) (hx0 : (x == 0) = false) (w : World) (h : Reads w w.heap.size 3 A es.length (edgeCells es)) :
    Calls Tryz.prog 81 #[.agg #[.int .i64 n, .slice A es.length c], .int .i64 q] w fun e w' => e = .returned (.tuple #[.slice none 0 0, .int .i64 x]) ∧ Below w.heap.size w w' := by
  have RT := rooted_any n A c es (by omega) q
  rw [hx] at RT
  have RT := Lib.hid RT
  have g0 := Blk.new w 24 #[.int .i64 n, .slice A es.length c]
  have c0 := g0.cell 0
  have c1 := g0.cell 1
  have hx1 : (x != 0) = true := by simpa [bne] using hx0
  clear hx
  go_enter Tryz.func81, Tryz.ntmps81
  go_wp2_with fail
  refine (RT.out _ ((h.alloc (Nat.le_refl _) _).more (by simp))).mono ?_
  rintro e w1 ⟨rfl, hb1⟩
  have hB1 : Below w.heap.size w w1 := ((Below.refl _ _).alloc (Nat.le_refl _) _).trans (hb1.mono (by simp))
  go_wp2
  go_ret2
  exact ⟨rfl, hB1⟩

set_option maxRecDepth 100000 in
set_option maxHeartbeats 8000000 in
theorem maximal_ok (n : Nat) (A : Option Addr) (c : Nat) (es : List E3) (hlen : es.length ≤ 10000) (q : Nat) (hx : rootErr n es q = 0) (w : World) (h : Reads w w.heap.size 3 A es.length (edgeCells es)) :
    Calls Tryz.prog 81 #[.agg #[.int .i64 n, .slice A es.length c], .int .i64 q] w fun e w' => ∃ Am cm, e = .returned (.tuple #[.slice Am n cm, .int .i64 0]) ∧ OwnI w' w.heap.size Am cm (maxL n es q) ∧ Below w.heap.size w w' := by
  have RT := rooted_any n A c es (by omega) q
  rw [hx] at RT
  have RT := Lib.hid RT
  have hz : checkG n es = 0 ∧ q < n := by
    rcases root_cases n es q with ⟨h1, h2⟩ | ⟨_, _, h2⟩ | ⟨_, _, _, h2⟩ | ⟨h1, _, h2, _⟩
    · rw [hx] at h2; exact absurd h2.symm h1
    · rw [hx] at h2; cases h2
    · rw [hx] at h2; cases h2
    · exact ⟨h1, by have := vertB_true.1 h2; omega⟩
  obtain ⟨hz, hq⟩ := hz
  have hR := right_of hz
  have hn : n ≤ 12 := by have := hR.hi; omega
  have hn0 : 1 ≤ n := by have := hR.lo; omega
  have g0 := Blk.new w 24 #[.int .i64 n, .slice A es.length c]
  have c0 := g0.cell 0
  have c1 := g0.cell 1
  have hmi := make_ints n (by omega)
  have hmd := make_div n (by omega)
  have hel := endsL_length hR.ok
  have PO := pileOf_any n hn hn0 A c es hlen hz hR.ok q
  have PO := Lib.hid (fun (B : Option Addr) (cB : Nat) => PO B cB (List.replicate n 0) (by simp))
  simp only [List.length_replicate] at PO
  clear hx hR hz
  go_enter Tryz.func81, Tryz.ntmps81
  go_wp2_with fail
  refine (RT.out _ ((h.alloc (Nat.le_refl _) _).more (by simp))).mono ?_
  rintro e w1 ⟨rfl, hb1⟩
  have hB1 : Below w.heap.size w w1 := ((Below.refl _ _).alloc (Nat.le_refl _) _).trans (hb1.mono (by simp))
  have g1 := g0.next hb1
  have hs1 := hB1.size
  have d0 := g1.cell 0
  have d1 := g1.cell 1
  have h3 : Reads (w1.alloc (.cells (ints (List.replicate n 0)).toArray 3)).drew (w1.alloc (.cells (ints (List.replicate n 0)).toArray 3)).drew.heap.size 3 A es.length (edgeCells es) := (((h.below hB1).more hs1).alloc (Nat.le_refl _) (.cells (ints (List.replicate n 0)).toArray 3)).drew.more (by simp [World.drew])
  have hbl : Reads (w1.alloc (.cells (ints (List.replicate n 0)).toArray 3)).drew (w1.alloc (.cells (ints (List.replicate n 0)).toArray 3)).drew.heap.size 1 (some ⟨w1.heap.size, 0, none⟩) n (ints (List.replicate n 0)) := ⟨by simp [ints], fun _ => ⟨w1.heap.size, 0, rfl, by simp [World.drew], fun j v hv => by
    have hb : Blk (w1.alloc (.cells (ints (List.replicate n 0)).toArray 3)).drew w1.heap.size 3 (ints (List.replicate n 0)).toArray := (Blk.new w1 _ _).drew
    rw [Nat.zero_add, hb.cell j, List.getElem?_toArray]
    exact hv⟩⟩
  clear g0 c0 c1 RT hb1
  go_wp2
  go_region_held3 (fun W => W.cell? ⟨w.heap.size, 0, none⟩ = some (.int .i64 n) ∧ W.cell? ⟨w.heap.size, 1, none⟩ = some (.slice A es.length c)) (go_keep)
    (first | (go_at_call 114; refine (PO.out _ _ _ (by exact h3) (by exact hbl)).mono ?_; rintro e w5 ⟨bp, a, rfl, P5, hb5⟩; have g5 := ((g1.alloc (.cells (ints (List.replicate n 0)).toArray 3)).drew).next hb5; have k0 := g5.cell 0; have k1 := g5.cell 1))
  all_goals
    have hB5 : Below w.heap.size w w5 := (hB1.alloc hs1 (.cells (ints (List.replicate n 0)).toArray 3)).drew.trans (hb5.mono (by simp [World.drew]; omega))
    have hs5 := hB5.size
    have P6 := P5.alloc (.cells (ints (List.replicate n 0)).toArray 3)
    have p3 := P6.c3
    have O6 := Blk.new w5 3 (ints (List.replicate n 0)).toArray
    have V6 := P6.vv
    have hbV := valL_bd n (endsL es)
    have hne : a.bv ≠ w5.heap.size := Nat.ne_of_lt P5.vv.lt
    have hB6 := hB5.alloc hs5 (.cells (ints (List.replicate n 0)).toArray 3)
    obtain ⟨val, hval⟩ : ∃ val, valL n (endsL es) = val := ⟨_, rfl⟩
    rw [hval] at V6 hbV
    have HVAL := Lib.hid hval
    have HBV := Lib.hid hbV
    clear hval hbV P5 P6 h3 hbl hb5 g1 d0 d1 hB1 PO
    go_wp2_with fail
    go_loopw [10, 11, 38] (fun _ _ i wl => ∃ v : Nat, v ≤ n ∧ i = .int .i64 v ∧ Blk wl w5.heap.size 3 (intCells (maxTo n val q v)) ∧ Blk wl a.bv 3 (intCells val) ∧ Below w.heap.size w wl) (fun _ _ i _ => n - (intOf i).toNat)
    case atStart => exact ⟨0, by omega, rfl, by rw [maxTo_zero]; exact O6, V6, hB6⟩
    case round =>
      obtain ⟨v, hv, rfl, O7, V7, hB7⟩ := hrel
      clear O6 V6 hB6
      by_cases hlv : v < n
      · have hi : (v : Int) < (n : Int) := by omega
        obtain ⟨x, hx⟩ := get_of_lt (xs := val) (k := v) (by rw [HBV.out.1]; exact hlv)
        have hxb := HBV.out.2 x (List.mem_of_getElem? hx)
        have hxl : x ≤ 1000000 := by omega
        have cv := (V7.cell v).trans (intCells_get hx)
        by_cases hvq : v = q
        · have hne2 : ((v : Int) != (q : Int)) = false := by simp [hvq]
          subst hvq
          have hms := maxTo_sink n val v
          clear hx
          go_wp2
          go_roundw
          case rel => exact ⟨v + 1, by omega, by go_num, by rw [hms]; exact O7, V7, hB7⟩
          case measure => simp [intOf]; omega
        · have hne2 : ((v : Int) != (q : Int)) = true := by rw [bne_iff_ne]; omega
          have hms := Lib.hid (maxTo_succ n val q v hvq x hx)
          obtain ⟨y, hy⟩ := get_of_lt (xs := maxTo n val q v) (k := v) (by rw [maxTo_length]; exact hlv)
          have co := (O7.cell v).trans (intCells_get hy)
          have cf := O7.frozen v
          have O8 := O7.set_ v (.int .i64 (x - 1))
          rw [intCells_set, ← hms.out] at O8
          clear hx hy
          go_wp2
          go_roundw
          case rel => exact ⟨v + 1, by omega, by go_num, O8, V7.far hne _, hB7.setCell hs5 _⟩
          case measure => simp [intOf]; omega
      · obtain rfl : v = n := by omega
        go_wp2
        go_ret2
        refine ⟨_, _, rfl, ?_, hB7⟩
        have hl := maxTo_length v val q v
        have := OwnI.of_blk O7 hs5 (by rw [hl]; simp [maxLen]; omega)
        rw [hl] at this
        unfold maxL
        rw [HVAL.out]
        exact this
end Go.Proofs.YtghigdcpinengaaGreat

/-! Package superstable: calm, first, configurations. -/
namespace Go.Proofs.YtghigdcpinengaaGreat
open Go.RowKit Go.Shelf

set_option maxRecDepth 100000 in
set_option maxHeartbeats 2000000 in
theorem calm_any (n : Nat) (A : Option Addr) (c : Nat) (es : List E3) (hn : es.length ≤ 1048576) (q : Nat) (B : Option Addr) (d : Nat) (cs : List Int) (hm : cs.length ≤ 1048000) (w : World) (h : Reads w w.heap.size 3 A es.length (edgeCells es)) (h' : Reads w w.heap.size 1 B cs.length (ints cs)) :
    Calls Tryz.prog 112 #[.agg #[.int .i64 n, .slice A es.length c], .int .i64 q, .slice B cs.length d] w fun e w' => e = .returned (.bool (calmB n es q cs)) ∧ Below w.heap.size w w' := by
  have SA := super_any n A c es hn q B d cs hm
  unfold calmB
  obtain ⟨b, hb⟩ : ∃ b, (superE n es q cs).1 = b := ⟨_, rfl⟩
  obtain ⟨e, he⟩ : ∃ e, (superE n es q cs).2 = e := ⟨_, rfl⟩
  rw [hb, he] at SA ⊢
  have SA := Lib.hid SA
  have g0 := Blk.new w 24 #[.int .i64 n, .slice A es.length c]
  have c0 := g0.cell 0
  have c1 := g0.cell 1
  clear hb he
  have hbd : (e == 0) = decide (e = 0) := by rw [Bool.eq_iff_iff]; simp
  go_enter Tryz.func112, Tryz.ntmps112
  go_wp2_with fail
  refine (SA.out _ ((h.alloc (Nat.le_refl _) _).more (by simp)) ((h'.alloc (Nat.le_refl _) _).more (by simp))).mono ?_
  rintro e' w1 ⟨rfl, hb1⟩
  have hB1 : Below w.heap.size w w1 := ((Below.refl _ _).alloc (Nat.le_refl _) _).trans (hb1.mono (by simp))
  cases b
  · go_wp2
    go_ret
    exact ⟨by simp, hB1⟩
  · go_wp2
    go_ret
    exact ⟨by simp, hB1⟩
set_option maxRecDepth 100000 in
set_option maxHeartbeats 2000000 in
theorem sfirst_ok (n : Nat) (A : Option Addr) (c : Nat) (es : List E3) (hlen : es.length ≤ 10000) (q : Nat) (hx : rootErr n es q = 0) (w : World) (h : Reads w w.heap.size 3 A es.length (edgeCells es)) :
    Calls Tryz.prog 78 #[.agg #[.int .i64 n, .slice A es.length c], .int .i64 q] w fun e w' => ∃ Am cm, e = .returned (.tuple #[.slice Am n cm, .int .i64 0]) ∧ OwnI w' w.heap.size Am cm (maxL n es q) ∧ Below w.heap.size w w' := by
  have MX := Lib.hid (maximal_ok n A c es hlen q hx)
  have g0 := Blk.new w 24 #[.int .i64 n, .slice A es.length c]
  have c0 := g0.cell 0
  have c1 := g0.cell 1
  clear hx
  go_enter Tryz.func78, Tryz.ntmps78
  go_wp2_with fail
  refine (MX.out _ ((h.alloc (Nat.le_refl _) _).more (by simp))).mono ?_
  rintro e w1 ⟨Am, cm, rfl, o1, hb1⟩
  have hB1 : Below w.heap.size w w1 := ((Below.refl _ _).alloc (Nat.le_refl _) _).trans (hb1.mono (by simp))
  go_wp2
  go_ret2
  exact ⟨Am, cm, rfl, o1.mono (by simp), hB1⟩
set_option maxRecDepth 100000 in
set_option maxHeartbeats 2000000 in
theorem sfirst_bad (n : Int) (A : Option Addr) (c : Nat) (es : List E3) (hlen : es.length ≤ 10000) (q : Int) (x : Int) (hx : rootErr n es q = x) (hx0 : (x == 0) = false) (w : World) (h : Reads w w.heap.size 3 A es.length (edgeCells es)) :
    Calls Tryz.prog 78 #[.agg #[.int .i64 n, .slice A es.length c], .int .i64 q] w fun e w' => e = .returned (.tuple #[.slice none 0 0, .int .i64 x]) ∧ Below w.heap.size w w' := by
  have MX := Lib.hid (maximal_bad n A c es hlen q x hx hx0)
  have g0 := Blk.new w 24 #[.int .i64 n, .slice A es.length c]
  have c0 := g0.cell 0
  have c1 := g0.cell 1
  clear hx
  go_enter Tryz.func78, Tryz.ntmps78
  go_wp2_with fail
  refine (MX.out _ ((h.alloc (Nat.le_refl _) _).more (by simp))).mono ?_
  rintro e w1 ⟨rfl, hb1⟩
  have hB1 : Below w.heap.size w w1 := ((Below.refl _ _).alloc (Nat.le_refl _) _).trans (hb1.mono (by simp))
  go_wp2
  go_ret2
  exact ⟨rfl, hB1⟩
set_option maxHeartbeats 1000000 in
theorem confs_any (n : Int) (A : Option Addr) (c m : Nat) (q : Int) (w : World) :
    Calls Tryz.prog 79 #[.agg #[.int .i64 n, .slice A m c], .int .i64 q] w fun e w' => e = .returned (.func (.func 110) #[] #[.pointer (some ⟨w.heap.size, 0, none⟩), .pointer (some ⟨w.heap.size + 1, 0, none⟩)]) ∧
      (w.alloc (.cells #[.int .i64 n, .slice A m c] 24)).alloc (.cells #[.int .i64 q] 3) = w' := by
  have hmf : ∀ (fn : Fn) (first cap : Array Value) (w : World), (Instr.makeFunc fn first cap).run Tryz.prog w = .ok (.func fn first cap) w := fun _ _ _ _ => rfl
  go_enter Tryz.func79, Tryz.ntmps79
  go_wp2
  go_ret
  exact ⟨rfl, rfl⟩
end Go.Proofs.YtghigdcpinengaaGreat

/-! Plain: the fire of recurrent configurations is the burning of the dual one. -/
namespace Go.Proofs.YtghigdcpinengaaGreat
open Go.RowKit

/-- The maximal stable configuration less this one. -/
def dualL (n : Nat) (es : List E3) (cs : List Int) : List Int := (List.range n).map fun v : Nat => valE es v - 1 - cs.getD v 0
theorem dualL_get {n v : Nat} (es : List E3) (cs : List Int) (hv : v < n) : (dualL n es cs).getD v 0 = valE es v - 1 - cs.getD v 0 := by
  rw [List.getD_eq_getElem?_getD]
  simp [dualL, hv]
theorem jn_joins {n : Nat} {es : List E3} (hG : RightG n es) {l : List Nat} (hl : LOk n l) {v : Nat} (hv : v ∉ l) : jnE es l v = joinsN es v l := by
  rw [jnE_flm hG, flm_joins l hl hv]
theorem cat_dual {n : Nat} {es : List E3} (hG : RightG n es) (cs : List Int) {l : List Nat} (hl : LOk n l) {v : Nat} (hv : v < n) : catL es (dualL n es cs) l v = (!decide (v ∈ l) && catchB es cs l v) := by
  unfold catL catchB
  by_cases hm : v ∈ l
  · simp [hm]
  · rw [dualL_get es cs hv, jn_joins hG hl hm]
    congr 1
    rw [decide_eq_decide]; omega
/-- The order of the fire. -/
def recL (n : Nat) (es : List E3) (cs : List Int) (q : Nat) : List Nat := burntL es (dualL n es cs) n q
def recB (n : Nat) (es : List E3) (cs : List Int) (q : Nat) : Bool := stabTo es cs q n && decide ((recL n es cs q).length = n)
theorem lok_one {n q : Nat} (hq : q < n) : LOk n [q] := ⟨by simp, by simpa using hq⟩
theorem recL_ok {n q : Nat} {es : List E3} {cs : List Int} (hq : q < n) : LOk n (recL n es cs q) := burnL_ok n [q] (lok_one hq)
/-- When all are burnt, the fire ends. -/
theorem burn_full {n : Nat} {es : List E3} {c : List Int} {l : List Nat} (hl : LOk n l) (hn : l.length = n) : burnL es c n n l = l := by
  obtain ⟨z, hz⟩ := burnL_pre (es := es) (c := c) (n := n) n l
  have h1 := nodup_len (burnL_ok (es := es) (c := c) n l hl)
  rw [← hz, List.length_append] at h1
  have h2 : z = [] := List.length_eq_zero_iff.1 (by omega)
  rw [← hz, h2, List.append_nil]
end Go.Proofs.YtghigdcpinengaaGreat

/-! Plain: the dual of a configuration. -/
namespace Go.Proofs.YtghigdcpinengaaGreat
open Go.RowKit

/-- The dual of a configuration, as far as k: no chips at the sink. -/
def dulTo (n : Nat) (es : List E3) (cs : List Int) (q k : Nat) : List Int := (List.range n).map fun v : Nat => if v < k ∧ v ≠ q then valE es v - 1 - cs.getD v 0 else 0
def dulL (n : Nat) (es : List E3) (cs : List Int) (q : Nat) : List Int := dulTo n es cs q n
theorem dulTo_length (n : Nat) (es : List E3) (cs : List Int) (q k : Nat) : (dulTo n es cs q k).length = n := by simp [dulTo]
theorem dulL_length (n : Nat) (es : List E3) (cs : List Int) (q : Nat) : (dulL n es cs q).length = n := dulTo_length n es cs q n
theorem dulL_get {n v : Nat} (es : List E3) (cs : List Int) (q : Nat) (hv : v < n) : (dulL n es cs q).getD v 0 = if v = q then 0 else valE es v - 1 - cs.getD v 0 := by
  unfold dulL dulTo
  rw [List.getD_eq_getElem?_getD]
  simp only [List.getElem?_map, List.getElem?_range hv, Option.map_some, Option.getD_some]
  by_cases h : v = q
  · rw [if_neg (fun e => e.2 h), if_pos h]
  · rw [if_pos ⟨hv, h⟩, if_neg h]
end Go.Proofs.YtghigdcpinengaaGreat

/-! Package recurrent: fire, recurs. -/
namespace Go.Proofs.YtghigdcpinengaaGreat
open Go.RowKit

def lenV : Value → Nat
  | .slice _ n _ => n
  | _ => 0
theorem marks_nil (n : Nat) : marks n [] = List.replicate n false := by
  unfold marks
  apply List.ext_getElem?
  intro i
  by_cases hi : i < n <;> simp [hi]
/-- What the fire needs of its configuration. -/
structure RArgs (n : Nat) (es : List E3) (cs : List Int) : Prop where
  hn : es.length ≤ 10000
  hz : checkG n es = 0
  hcl : cs.length = n
  hcb : ∀ x ∈ cs, -1048576 ≤ x ∧ x ≤ 1048577

set_option maxRecDepth 100000 in
set_option maxHeartbeats 8000000 in
theorem rfire_any (n : Nat) (A : Option Addr) (c : Nat) (es : List E3) (q : Nat) (hq : q < n) (B : Option Addr) (d : Nat) (cs : List Int) (hR : RArgs n es cs) (w : World)
    (h : Reads w w.heap.size 3 A es.length (edgeCells es)) (h' : Reads w w.heap.size 1 B n (ints cs)) :
    Calls Tryz.prog 134 #[pileV n A es.length c q B n d] w fun e w' => ∃ A' c', e = .returned (.slice A' (recL n es cs q).length c') ∧ OwnI w' w.heap.size A' c' (natI (recL n es cs q)) ∧ Below w.heap.size w w' := by
  have hG := right_of hR.hz
  have hn12 : n ≤ 12 := by have := hG.hi; omega
  have HCT := Lib.hid (fun (v : Nat) (hv : v < n) (g : Nat) (l : List Nat) (W : World) (hB : Below w.heap.size w W) (hm : Blk W g 4 (bools (marks n l))) => rcatches_any n A c es hR.hn hR.hz q B d cs hR.hcl hR.hcb v hv g l W ((h.below hB).more hB.size) ((h'.below hB).more hB.size) hm)
  have HCD := Lib.hid (fun (l : List Nat) (hl : LOk n l) (v : Nat) (hv : v < n) => cat_dual hG cs hl hv)
  have g0 := Blk.new w 117 (pileC n A es.length c q B n d)
  have hB0 : Below w.heap.size w (w.alloc (.cells (pileC n A es.length c q B n d) 117)) := (Below.refl _ _).alloc (Nat.le_refl _) _
  have hmb := make_bools n (by omega)
  have hqi : (q : Int) < (n : Int) := by omega
  clear hG h h'
  simp only [pileV, pileC] at g0 hB0 HCT ⊢
  have c0 := g0.cell 0
  have c2 := g0.cell 2
  have M0 := Blk.new (w.alloc (.cells #[.int .i64 n, .slice A es.length c, .int .i64 q, .slice B n d] 117)) 4 (bools (List.replicate n false))
  have hs1 : (w.alloc (.cells #[.int .i64 n, .slice A es.length c, .int .i64 q, .slice B n d] 117)).heap.size = w.heap.size + 1 := by simp
  rw [hs1] at M0
  have mq := M0.cell q
  rw [bools_get (show (List.replicate n false)[q]? = some false by simp [hq])] at mq
  have mf := M0.frozen q
  have g1 := g0.alloc (.cells (bools (List.replicate n false)) 4)
  have d0 := g1.cell 0
  have d2 := g1.cell 2
  have M1 := Blk.new (w.alloc (.cells #[.int .i64 n, .slice A es.length c, .int .i64 q, .slice B n d] 117)) 4 ((bools (List.replicate n false)).setIfInBounds q (.bool true))
  have hmk : (bools (List.replicate n false)).setIfInBounds q (.bool true) = bools (marks n [q]) := by rw [bools_set, ← marks_nil, marks_set hq, List.nil_append]
  have g2 := g0.alloc (.cells ((bools (List.replicate n false)).setIfInBounds q (.bool true)) 4)
  have hB2 := hB0.alloc (by simp) (.cells ((bools (List.replicate n false)).setIfInBounds q (.bool true)) 4)
  have e2 := g2.cell 2
  have HMK := Lib.hid hmk
  clear hmk
  obtain ⟨D, hD⟩ : ∃ D, dualL n es cs = D := ⟨_, rfl⟩
  rw [hD] at HCD
  have HRL : Hid (burnL es D n n [q] = recL n es cs q) := by rw [← hD]; rfl
  obtain ⟨R, hRR⟩ : ∃ R, recL n es cs q = R := ⟨_, rfl⟩
  rw [hRR] at HRL ⊢
  go_enter Tryz.func134, Tryz.ntmps134
  go_wp2_with fail
  obtain ⟨W1, hW1⟩ : ∃ W1, (w.alloc (.cells #[.int .i64 n, .slice A es.length c, .int .i64 q, .slice B n d] 117)).alloc (.cells ((bools (List.replicate n false)).setIfInBounds q (.bool true)) 4) = W1 := ⟨_, rfl⟩
  have hsW : W1.heap.size = w.heap.size + 2 := by rw [← hW1]; simp
  rw [hW1] at M1 g2 hB2 e2 ⊢
  rw [HMK.out, hs1] at M1
  have O3 := OwnI.of_blk (base := w.heap.size) (Blk.new W1 3 (intCells [(q : Int)])) (by omega) (by simp [maxLen])
  have M3 := M1.alloc (.cells (intCells [(q : Int)]) 3)
  have G3 := g2.alloc (.cells (intCells [(q : Int)]) 3)
  have B3 := hB2.alloc hB2.size (.cells (intCells [(q : Int)]) 3)
  rw [show (#[.int .i64 (q : Int)] : Array Value) = intCells [(q : Int)] from rfl]
  clear hD hRR g0 hB0 c0 c2 M0 mq mf g1 d0 d2 M1 g2 hB2 e2 hW1 hs1 hmb
  rw [hsW] at O3
  go_loopw [4, 5, 6, 27] (fun o _ _ _ wl => ∃ (A' : Option Addr) (c' : Nat) (l : List Nat), o = .slice A' (natI l).length c' ∧ (natI l).length ≤ n ∧ Hid (LOk n l) ∧ Hid (burnL es D n n l = R) ∧ OwnI wl w.heap.size A' c' (natI l) ∧ Blk wl (w.heap.size + 1) 4 (bools (marks n l)) ∧
    Blk wl w.heap.size 117 #[.int .i64 n, .slice A es.length c, .int .i64 q, .slice B n d] ∧ Below w.heap.size w wl) (fun o _ _ _ _ => n - lenV o)
  case atStart => exact ⟨_, _, [q], by rfl, by simp [natI]; omega, lok_one hq, HRL.out, O3, M3, G3, B3⟩
  case round =>
    obtain ⟨A', c', l, rfl, hll, HLO, HBL, ol, ml, gl, bl⟩ := hrel
    clear O3 M3 G3 B3
    have c0 := gl.cell 0
    have hz1 := bl.size
    obtain ⟨wo, rfl⟩ : ∃ wo : World, wo = wr := ⟨_, rfl⟩
    have hln : Hid ((natI l).length = l.length) := natI_length l
    by_cases hlt : (natI l).length < n
    · have hi : ((natI l).length : Int) < (n : Int) := by omega
      go_wp2_with fail
      go_loopw [5, 6, 27] (fun nx _ i w2 => ∃ u : Nat, nx = .int .i64 (-1) ∧ i = .int .i64 u ∧ u ≤ n ∧ Hid (∀ x, x < u → catL es D l x = false) ∧ Below wo.heap.size wo w2) (fun _ _ i _ => n - (intOf i).toNat)
      case atStart => exact ⟨0, rfl, rfl, by omega, fun x hx => by omega, Below.refl _ _⟩
      case round =>
        obtain ⟨u, rfl, rfl, hu, HU, b2⟩ := hrel
        clear c0
        have m2 := ml.next b2
        have g2 := gl.next b2
        have o2 := ol.next b2
        have B2 := bl.trans (b2.mono hz1)
        have c0 := g2.cell 0
        have c1 := g2.cell 1
        have c2 := g2.cell 2
        have c3 := g2.cell 3
        by_cases hun : u < n
        · have hui : (u : Int) < (n : Int) := by omega
          have mu := (m2.cell u).trans (bools_get (marks_get hun l))
          have hcd := HCD.out l HLO.out u hun
          by_cases hm : u ∈ l
          · rw [decide_eq_true hm] at mu hcd
            rw [Bool.not_true, Bool.false_and] at hcd
            have HC := Lib.hid hcd
            clear hcd hm
            go_wp2
            go_roundw
            case rel => exact ⟨u + 1, rfl, by go_num, by omega, fun x hx => by
              by_cases he : x = u
              · subst he; exact HC.out
              · exact HU.out x (by omega), b2⟩
            case measure => simp [intOf]; omega
          · rw [decide_eq_false hm] at mu hcd
            rw [Bool.not_false, Bool.true_and] at hcd
            have CT := HCT.out u hun (w.heap.size + 1) l wr B2 m2
            have HM := Lib.hid hm
            cases hcb : catchB es cs l u
            · rw [hcb] at hcd CT
              have CT := Lib.hid CT
              have HC := Lib.hid hcd
              clear hcd hm hcb
              go_wp2_with (go_at_call 154; refine (CT.out).mono ?_; rintro e w5 ⟨rfl, b5⟩)
              go_roundw
              case rel => exact ⟨u + 1, rfl, by go_num, by omega, fun x hx => by
                by_cases he : x = u
                · subst he; exact HC.out
                · exact HU.out x (by omega), b2.trans (b5.mono b2.size)⟩
              case measure => simp [intOf]; omega
            · rw [hcb] at hcd CT
              have CT := Lib.hid CT
              have hhead := head_ready_of hun hcd HU.out
              have HB2 := Lib.hid ((burnL_next HLO.out hhead).symm.trans HBL.out)
              have HL2 := Lib.hid (HLO.out.snoc HM.out hun)
              clear hcd hm hcb hhead
              have hl1 : (natI l).length ≤ 1048000 := by omega
              have hwz : w.heap.size ≤ w.heap.size + 1 := by omega
              have hne1 : ((u : Int) < 0) = False := by simp
              have hne2 : decide ((u : Int) < 0) = false := by simp
              go_wp2_with (first
                | (go_at_call 154; refine (CT.out).mono ?_; rintro e w5 ⟨rfl, b5⟩; have m5 := m2.next b5; have f5 := m5.frozen u; have k5 := (m5.cell u).trans (bools_get (marks_get hun l)); have o5 := o2.next b5; have g5 := g2.next b5; have B5 := B2.trans (b5.mono B2.size); have m6 := m5.set_ u (.bool true); have g6 := g5.far (p := ⟨w.heap.size + 1, u, none⟩) (by simp) (.bool true); have o6 := o5.set_blk m5 (by decide) u (.bool true); have B6 := B5.setCell (p := ⟨w.heap.size + 1, u, none⟩) hwz (.bool true); have s6 := B6.size)
                | (at_builtin; go_loud (refine push_int rfl (.tmp 48) (.tmp 50) _ rfl Tryz.underlying25 w.heap.size A' c' (natI l) (u : Int) rfl o6 rfl (by simp [World.setCell]) hl1 s6 ?_); intro A7 c7 w7 o7 gr7 b7))
              have m7 := (m6.alloc (.cells #[.int .i64 u] 3)).grown gr7 (own_blk_ne o6 m6 (by decide))
              have g7 := (g6.alloc (.cells #[.int .i64 u] 3)).grown gr7 (own_blk_ne o6 g6 (by decide))
              rw [bools_set, marks_set hun] at m7
              go_roundw
              case rel =>
                refine ⟨A7, c7, l ++ [u], by rw [natI_snoc]; simp, by rw [natI_snoc]; simp; omega, HL2, HB2, by rw [natI_snoc]; exact o7, m7, g7, B6.trans b7⟩
              case measure => simp [lenV]; omega
        · obtain rfl : u = n := by omega
          have hnone := ready_none HU.out
          have hRl : R = l := by rw [← HBL.out, burnL_stop (by rw [hnone]; rfl)]
          have HRl := Lib.hid hRl
          clear hRl hnone
          go_wp2
          go_ret
          exact ⟨A', c', by rw [HRl.out, ← hln.out]; rfl, by rw [HRl.out]; exact o2, B2⟩
    · have hi : ¬ ((natI l).length : Int) < (n : Int) := by omega
      have hRl : R = l := by rw [← HBL.out]; exact burn_full HLO.out (by have := hln.out; omega)
      have HRl := Lib.hid hRl
      clear hRl
      go_wp2
      go_ret
      exact ⟨A', c', by rw [HRl.out, ← hln.out]; rfl, by rw [HRl.out]; exact ol, bl⟩
end Go.Proofs.YtghigdcpinengaaGreat

/-! Package recurrent: check, recurs, Recurrent. -/
namespace Go.Proofs.YtghigdcpinengaaGreat
open Go.RowKit


set_option maxRecDepth 100000 in
set_option maxHeartbeats 8000000 in
theorem recurs_any (n : Nat) (A : Option Addr) (c : Nat) (es : List E3) (q : Nat) (hq : q < n) (B : Option Addr) (d : Nat) (cs : List Int) (hR : RArgs n es cs) (w : World)
    (h : Reads w w.heap.size 3 A es.length (edgeCells es)) (h' : Reads w w.heap.size 1 B n (ints cs)) :
    Calls Tryz.prog 116 #[pileV n A es.length c q B n d] w fun e w' => e = .returned (.bool (recB n es cs q)) ∧ Below w.heap.size w w' := by
  have hn12 : n ≤ 12 := by have := (right_of hR.hz).hi; omega
  have HS := Lib.hid (fun (W : World) (hB : Below w.heap.size w W) => stable_any n hn12 A c es hR.hn hR.hz q B d cs hR.hcl W ((h.below hB).more hB.size) ((h'.below hB).more hB.size))
  have HF := Lib.hid (fun (W : World) (hB : Below w.heap.size w W) => rfire_any n A c es q hq B d cs hR W ((h.below hB).more hB.size) ((h'.below hB).more hB.size))
  have g0 := Blk.new w 117 (pileC n A es.length c q B n d)
  have hB0 : Below w.heap.size w (w.alloc (.cells (pileC n A es.length c q B n d) 117)) := (Below.refl _ _).alloc (Nat.le_refl _) _
  unfold recB
  obtain ⟨S, hS⟩ : ∃ S, stabTo es cs q n = S := ⟨_, rfl⟩
  obtain ⟨R, hRL⟩ : ∃ R, recL n es cs q = R := ⟨_, rfl⟩
  rw [hS] at HS ⊢
  rw [hRL] at HF ⊢
  clear hS hRL
  simp only [pileV, pileC] at g0 hB0 HS HF ⊢
  have hgw : w.heap.size < (w.alloc (.cells #[.int .i64 n, .slice A es.length c, .int .i64 q, .slice B n d] 117)).heap.size := by simp
  have c0 := g0.cell 0
  have c1 := g0.cell 1
  have c2 := g0.cell 2
  have c3 := g0.cell 3
  obtain ⟨W0, hW0⟩ : ∃ W0, w.alloc (.cells #[.int .i64 n, .slice A es.length c, .int .i64 q, .slice B n d] 117) = W0 := ⟨_, rfl⟩
  have HW0 := Lib.hid hW0
  rw [hW0] at g0 hB0 c0 c1 c2 c3 hgw
  clear hW0
  have HS2 := Lib.hid (HS.out W0.drew hB0.drew)
  have HF2 := Lib.hid (fun (W : World) (hB : Below W0.heap.size W0 W) => HF.out W (hB0.trans (hB.mono hB0.size)))
  have KC := Lib.hid (fun (W : World) (hB : Below W0.heap.size W0 W) => (⟨(hB.cell (p := ⟨w.heap.size, 0, none⟩) hgw).trans c0, (hB.cell (p := ⟨w.heap.size, 1, none⟩) hgw).trans c1, (hB.cell (p := ⟨w.heap.size, 2, none⟩) hgw).trans c2, (hB.cell (p := ⟨w.heap.size, 3, none⟩) hgw).trans c3⟩ :
    W.cell? ⟨w.heap.size, 0, none⟩ = some (.int .i64 n) ∧ W.cell? ⟨w.heap.size, 1, none⟩ = some (.slice A es.length c) ∧ W.cell? ⟨w.heap.size, 2, none⟩ = some (.int .i64 q) ∧ W.cell? ⟨w.heap.size, 3, none⟩ = some (.slice B n d)))
  have B0 : Below W0.heap.size W0 W0.drew := (Below.refl _ _).drew
  clear g0 HS HF hR
  cases S
  · go_enter Tryz.func116, Tryz.ntmps116
    go_wp2_with fail
    rw [HW0.out]
    first
      | go_region_with ((go_at_call 133; refine (HS2.out).mono ?_; rintro e wJ ⟨rfl, bJ⟩; have BJ := B0.trans (bJ.mono (Nat.le_refl _)); obtain ⟨j0, j1, j2, j3⟩ := KC.out wJ BJ))
      | fail
    all_goals
      go_wp2
      go_ret
      exact ⟨rfl, hB0.trans (BJ.mono hB0.size)⟩
  · go_enter Tryz.func116, Tryz.ntmps116
    go_wp2_with fail
    rw [HW0.out]
    go_region_held3 (fun W => W.cell? ⟨w.heap.size, 0, none⟩ = some (.int .i64 n) ∧ W.cell? ⟨w.heap.size, 1, none⟩ = some (.slice A es.length c) ∧ W.cell? ⟨w.heap.size, 2, none⟩ = some (.int .i64 q) ∧ W.cell? ⟨w.heap.size, 3, none⟩ = some (.slice B n d)) (go_keep)
      (first
        | (go_at_call 133; refine (HS2.out).mono ?_; rintro e wJ ⟨rfl, bJ⟩; have BJ := B0.trans (bJ.mono (Nat.le_refl _)); obtain ⟨j0, j1, j2, j3⟩ := KC.out wJ BJ)
        | (go_at_call 134; refine (HF2.out _ BJ).mono ?_; rintro e wV ⟨A', c', rfl, _, bV⟩; have BV := BJ.trans (bV.mono BJ.size); obtain ⟨l0, l1, l2, l3⟩ := KC.out wV BV))
    all_goals
      go_wp2
      go_ret
      exact ⟨ret_bool (by rw [Bool.true_and, Bool.eq_iff_iff]; simp; omega), hB0.trans (BV.mono hB0.size)⟩
end Go.Proofs.YtghigdcpinengaaGreat

