/-
  Texts of this claim, put together: Maximal.
-/
import Derived.Test.YtplgbapbgcipdaaGreatK25
import Derived.Test.YtplgbapbgcipdaaGreatK23
/-! stabilize.Maximal: the maximal stable configuration. -/
namespace Go.Proofs.YtplgbapbgcipdaaGreat
open Go.RowKit

theorem make_div (n : Nat) (hn : n ≤ 1048576) (W : World) : (Instr.makeSlice 26 (.int .i64 (n : Int)) (.int .i64 (n : Int))).run Tryz.prog W =
    .ok (.slice (some ⟨W.heap.size, 0, none⟩) n n) (W.alloc (.cells (ints (List.replicate n 0)).toArray 3)) := by
  obtain ⟨i0, hi, hz0, hz1, hz2⟩ := info_parts info_int
  have hr := run_make (P := Tryz.prog) W 26 3 i0 (.int .i64 0) Tryz.underlying26 hi hz0 .i64 .i64 n n (by omega) (Int.le_refl _) (by rw [hz2]; omega) (by omega)
  simp only [Int.toNat_natCast, hz1, Nat.mul_one] at hr
  rw [hr, show (Value.int .i64 0).cells = #[.int .i64 0] from rfl, made_ints]
/-- The maximal stable configuration, as far as k. -/
def maxTo (n : Nat) (val : List Int) (q : Nat) (k : Nat) : List Int := (List.range n).map fun v => if v < k ∧ v ≠ q then val.getD v 0 - 1 else 0
def maxL (n : Nat) (es : List E3) (q : Nat) : List Int := maxTo n (valL n (endsL es)) q n
theorem maxTo_zero (n : Nat) (val : List Int) (q : Nat) : maxTo n val q 0 = List.replicate n 0 := by
  apply List.ext_getElem?
  intro i
  unfold maxTo
  by_cases hi : i < n
  · simp [hi]
  · simp [hi]
theorem maxTo_length (n : Nat) (val : List Int) (q k : Nat) : (maxTo n val q k).length = n := by simp [maxTo]
theorem maxTo_sink (n : Nat) (val : List Int) (q : Nat) : maxTo n val q (q + 1) = maxTo n val q q := by
  unfold maxTo
  apply List.map_congr_left
  intro v _
  by_cases h1 : v < q
  · rw [if_pos ⟨by omega, by omega⟩, if_pos ⟨h1, by omega⟩]
  · rw [if_neg (by omega), if_neg (by omega)]
theorem maxTo_succ (n : Nat) (val : List Int) (q k : Nat) (hk : k ≠ q) (x : Int) (hx : val[k]? = some x) : maxTo n val q (k + 1) = (maxTo n val q k).set k (x - 1) := by
  apply List.ext_getElem?
  intro i
  unfold maxTo
  by_cases hi : i < n
  · by_cases h : i = k
    · subst h
      rw [List.getElem?_set_self (by simpa using hi)]
      simp [hi, hk, hx]
    · rw [List.getElem?_set_ne (fun e => h e.symm)]
      simp only [List.getElem?_map, List.getElem?_range hi, Option.map_some]
      by_cases h2 : i < k ∧ i ≠ q
      · rw [if_pos h2, if_pos ⟨by omega, h2.2⟩]
      · rw [if_neg h2, if_neg (by omega)]
  · rw [List.getElem?_eq_none (by simp; omega), List.getElem?_eq_none (by simp; omega)]

set_option maxRecDepth 100000 in
set_option maxHeartbeats 4000000 in
theorem maximal_bad (n : Int) (A : Option Addr) (c : Nat) (es : List E3) (hlen : es.length ≤ 10000) (q : Int) (x : Int) (hx : rootErr n es q = x) (hx0 : (x == 0) = false) (w : World) (h : Reads w w.heap.size 3 A es.length (edgeCells es)) :
    Calls Tryz.prog 47 #[.agg #[.int .i64 n, .slice A es.length c], .int .i64 q] w fun e w' => e = .returned (.tuple #[.slice none 0 0, .int .i64 x]) ∧ Below w.heap.size w w' := by
  have RT := rooted_any n A c es (by omega) q
  rw [hx] at RT
  have RT := Lib.hid RT
  have g0 := Blk.new w 24 #[.int .i64 n, .slice A es.length c]
  have c0 := g0.cell 0
  have c1 := g0.cell 1
  have hx1 : (x != 0) = true := by simpa [bne] using hx0
  clear hx
  go_enter Tryz.func47, Tryz.ntmps47
  go_wp2_with fail
  refine (RT.out _ ((h.alloc (Nat.le_refl _) _).more (by simp))).mono ?_
  rintro e w1 ⟨rfl, hb1⟩
  have hB1 : Below w.heap.size w w1 := ((Below.refl _ _).alloc (Nat.le_refl _) _).trans (hb1.mono (by simp))
  go_wp2
  go_ret2
  exact ⟨rfl, hB1⟩

set_option maxRecDepth 100000 in
set_option maxHeartbeats 8000000 in
theorem maximal_ok (n : Nat) (A : Option Addr) (c : Nat) (es : List E3) (hlen : es.length ≤ 10000) (q : Nat) (hx : rootErr n es q = 0) (w : World) (h : Reads w w.heap.size 3 A es.length (edgeCells es)) :
    Calls Tryz.prog 47 #[.agg #[.int .i64 n, .slice A es.length c], .int .i64 q] w fun e w' => ∃ Am cm, e = .returned (.tuple #[.slice Am n cm, .int .i64 0]) ∧ OwnI w' w.heap.size Am cm (maxL n es q) ∧ Below w.heap.size w w' := by
  have RT := rooted_any n A c es (by omega) q
  rw [hx] at RT
  have RT := Lib.hid RT
  have hz : checkG n es = 0 ∧ q < n := by
    rcases root_cases n es q with ⟨h1, h2⟩ | ⟨_, _, h2⟩ | ⟨_, _, _, h2⟩ | ⟨h1, _, h2, _⟩
    · rw [hx] at h2; exact absurd h2.symm h1
    · rw [hx] at h2; cases h2
    · rw [hx] at h2; cases h2
    · exact ⟨h1, by have := vertB_true.1 h2; omega⟩
  obtain ⟨hz, hq⟩ := hz
  have hR := right_of hz
  have hn : n ≤ 12 := by have := hR.hi; omega
  have hn0 : 1 ≤ n := by have := hR.lo; omega
  have g0 := Blk.new w 24 #[.int .i64 n, .slice A es.length c]
  have c0 := g0.cell 0
  have c1 := g0.cell 1
  have hmi := make_ints n (by omega)
  have hmd := make_div n (by omega)
  have hel := endsL_length hR.ok
  have PO := pileOf_any n hn hn0 A c es hlen hz hR.ok q
  have PO := Lib.hid (fun (B : Option Addr) (cB : Nat) => PO B cB (List.replicate n 0) (by simp))
  simp only [List.length_replicate] at PO
  clear hx hR hz
  go_enter Tryz.func47, Tryz.ntmps47
  go_wp2_with fail
  refine (RT.out _ ((h.alloc (Nat.le_refl _) _).more (by simp))).mono ?_
  rintro e w1 ⟨rfl, hb1⟩
  have hB1 : Below w.heap.size w w1 := ((Below.refl _ _).alloc (Nat.le_refl _) _).trans (hb1.mono (by simp))
  have g1 := g0.next hb1
  have hs1 := hB1.size
  have d0 := g1.cell 0
  have d1 := g1.cell 1
  have h3 : Reads (w1.alloc (.cells (ints (List.replicate n 0)).toArray 3)).drew (w1.alloc (.cells (ints (List.replicate n 0)).toArray 3)).drew.heap.size 3 A es.length (edgeCells es) := (((h.below hB1).more hs1).alloc (Nat.le_refl _) (.cells (ints (List.replicate n 0)).toArray 3)).drew.more (by simp [World.drew])
  have hbl : Reads (w1.alloc (.cells (ints (List.replicate n 0)).toArray 3)).drew (w1.alloc (.cells (ints (List.replicate n 0)).toArray 3)).drew.heap.size 1 (some ⟨w1.heap.size, 0, none⟩) n (ints (List.replicate n 0)) := ⟨by simp [ints], fun _ => ⟨w1.heap.size, 0, rfl, by simp [World.drew], fun j v hv => by
    have hb : Blk (w1.alloc (.cells (ints (List.replicate n 0)).toArray 3)).drew w1.heap.size 3 (ints (List.replicate n 0)).toArray := (Blk.new w1 _ _).drew
    rw [Nat.zero_add, hb.cell j, List.getElem?_toArray]
    exact hv⟩⟩
  clear g0 c0 c1 RT hb1
  go_wp2
  go_region_held3 (fun W => W.cell? ⟨w.heap.size, 0, none⟩ = some (.int .i64 n) ∧ W.cell? ⟨w.heap.size, 1, none⟩ = some (.slice A es.length c)) (go_keep)
    (first | (go_at_call 79; refine (PO.out _ _ _ (by exact h3) (by exact hbl)).mono ?_; rintro e w5 ⟨bp, a, rfl, P5, hb5⟩; have g5 := ((g1.alloc (.cells (ints (List.replicate n 0)).toArray 3)).drew).next hb5; have k0 := g5.cell 0; have k1 := g5.cell 1))
  all_goals
    have hB5 : Below w.heap.size w w5 := (hB1.alloc hs1 (.cells (ints (List.replicate n 0)).toArray 3)).drew.trans (hb5.mono (by simp [World.drew]; omega))
    have hs5 := hB5.size
    have P6 := P5.alloc (.cells (ints (List.replicate n 0)).toArray 3)
    have p3 := P6.c3
    have O6 := Blk.new w5 3 (ints (List.replicate n 0)).toArray
    have V6 := P6.vv
    have hbV := valL_bd n (endsL es)
    have hne : a.bv ≠ w5.heap.size := Nat.ne_of_lt P5.vv.lt
    have hB6 := hB5.alloc hs5 (.cells (ints (List.replicate n 0)).toArray 3)
    obtain ⟨val, hval⟩ : ∃ val, valL n (endsL es) = val := ⟨_, rfl⟩
    rw [hval] at V6 hbV
    have HVAL := Lib.hid hval
    have HBV := Lib.hid hbV
    clear hval hbV P5 P6 h3 hbl hb5 g1 d0 d1 hB1 PO
    go_wp2_with fail
    go_loopw [10, 11, 38] (fun _ _ i wl => ∃ v : Nat, v ≤ n ∧ i = .int .i64 v ∧ Blk wl w5.heap.size 3 (intCells (maxTo n val q v)) ∧ Blk wl a.bv 3 (intCells val) ∧ Below w.heap.size w wl) (fun _ _ i _ => n - (intOf i).toNat)
    case atStart => exact ⟨0, by omega, rfl, by rw [maxTo_zero]; exact O6, V6, hB6⟩
    case round =>
      obtain ⟨v, hv, rfl, O7, V7, hB7⟩ := hrel
      clear O6 V6 hB6
      by_cases hlv : v < n
      · have hi : (v : Int) < (n : Int) := by omega
        obtain ⟨x, hx⟩ := get_of_lt (xs := val) (k := v) (by rw [HBV.out.1]; exact hlv)
        have hxb := HBV.out.2 x (List.mem_of_getElem? hx)
        have hxl : x ≤ 1000000 := by omega
        have cv := (V7.cell v).trans (intCells_get hx)
        by_cases hvq : v = q
        · have hne2 : ((v : Int) != (q : Int)) = false := by simp [hvq]
          subst hvq
          have hms := maxTo_sink n val v
          clear hx
          go_wp2
          go_roundw
          case rel => exact ⟨v + 1, by omega, by go_num, by rw [hms]; exact O7, V7, hB7⟩
          case measure => simp [intOf]; omega
        · have hne2 : ((v : Int) != (q : Int)) = true := by rw [bne_iff_ne]; omega
          have hms := Lib.hid (maxTo_succ n val q v hvq x hx)
          obtain ⟨y, hy⟩ := get_of_lt (xs := maxTo n val q v) (k := v) (by rw [maxTo_length]; exact hlv)
          have co := (O7.cell v).trans (intCells_get hy)
          have cf := O7.frozen v
          have O8 := O7.set_ v (.int .i64 (x - 1))
          rw [intCells_set, ← hms.out] at O8
          clear hx hy
          go_wp2
          go_roundw
          case rel => exact ⟨v + 1, by omega, by go_num, O8, V7.far hne _, hB7.setCell hs5 _⟩
          case measure => simp [intOf]; omega
      · obtain rfl : v = n := by omega
        go_wp2
        go_ret2
        refine ⟨_, _, rfl, ?_, hB7⟩
        have hl := maxTo_length v val q v
        have := OwnI.of_blk O7 hs5 (by rw [hl]; simp [maxLen]; omega)
        rw [hl] at this
        unfold maxL
        rw [HVAL.out]
        exact this
end Go.Proofs.YtplgbapbgcipdaaGreat

