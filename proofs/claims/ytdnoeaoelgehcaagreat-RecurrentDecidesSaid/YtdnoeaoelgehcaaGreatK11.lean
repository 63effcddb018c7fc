/-
  Texts of this claim, put together: Chips, Conf, Wood.
-/
import Derived.Test.YtdnoeaoelgehcaaGreatK06
import Derived.Test.YtdnoeaoelgehcaaGreatK10
import Derived.Test.YtdnoeaoelgehcaaGreatK07
import Derived.Test.YtdnoeaoelgehcaaGreatK08
/-! The error of a divisor: chips.Check. -/
namespace Go.Proofs.YtdnoeaoelgehcaaGreat
open Go.RowKit

set_option maxHeartbeats 400000 in
theorem within1_any (k : Int) (w : World) :
    Calls Tryz.prog 170 #[.int .i64 k] w fun e w' => e = .returned (.bool (chipB k)) ∧ w = w' := by
  go_enter Tryz.func170, Tryz.ntmps170
  go_wp2
  all_goals (go_ret; exact ⟨by simp only [chipB]; simp [*]; try omega, rfl⟩)
set_option maxHeartbeats 1000000 in
/-- chips.Check -/
theorem dcheck_any (A : Option Addr) (c : Nat) (cs : List Int) (hm : cs.length ≤ 1048576) (n : Int) (w : World) (h : Reads w w.heap.size 1 A cs.length (ints cs)) :
    Calls Tryz.prog 137 #[.slice A cs.length c, .int .i64 n] w fun e w' => e = .returned (.int .i64 (divErr cs n)) ∧ w = w' := by
  by_cases h1 : n < 1
  · have hd : divErr cs n = 2 := by unfold divErr; rw [if_pos (.inl h1)]
    rw [hd]
    go_enter Tryz.func137, Tryz.ntmps137
    go_wp2
    go_ret
    exact ⟨rfl, rfl⟩
  by_cases h2 : 12 < n
  · have hd : divErr cs n = 2 := by unfold divErr; rw [if_pos (.inr h2)]
    rw [hd]
    go_enter Tryz.func137, Tryz.ntmps137
    go_wp2
    go_ret
    exact ⟨rfl, rfl⟩
  by_cases hl : (cs.length : Int) = n
  · have hn : ¬ (n < 1 ∨ 12 < n) := by omega
    subst hl
    have hb : ((cs.length : Int) != (cs.length : Int)) = false := by simp
    have HE := Lib.hid (fun k x hx hb => divErr_at (cs := cs) (k := k) (x := x) hn rfl hx hb)
    have HF := Lib.hid (divErr_end (cs := cs) hn rfl)
    obtain ⟨r, hr⟩ : ∃ r, divErr cs cs.length = r := ⟨_, rfl⟩
    rw [hr] at HE HF ⊢
    clear hn hr
    go_enter Tryz.func137, Tryz.ntmps137
    go_wp2
    go_loop [19] (fun i => ∃ k : Nat, k ≤ cs.length ∧ i = .int .i64 k ∧ Hid ((cs.take k).all chipB = true)) (fun i => cs.length - (intOf i).toNat)
    case atStart => exact ⟨0, by omega, rfl, by simp [Hid]⟩
    case round =>
      obtain ⟨k, hk, rfl, HS⟩ := hrel
      by_cases hlt : k < cs.length
      · obtain ⟨x, hx⟩ := get_of_lt hlt
        obtain ⟨b, off, rfl, hb', hcell⟩ := h.at_ (ints_at hx)
        have hi : (k : Int) < (cs.length : Int) := by omega
        have HX := Lib.hid hx
        clear hx h
        cases hin : chipB x
        · obtain rfl := HE.out k x HX.out hin
          go_wp2_with (go_at_call 170; refine (within1_any _ _).mono ?_; rintro e w' ⟨rfl, rfl⟩)
          go_ret
          exact ⟨rfl, rfl⟩
        · have HN := Lib.hid (all_snoc HX.out HS.out hin)
          go_wp2_with (go_at_call 170; refine (within1_any _ _).mono ?_; rintro e w' ⟨rfl, rfl⟩)
          go_round
          case rel => exact ⟨k + 1, by omega, by go_num, HN.out⟩
          case measure => simp [intOf]; omega
      · obtain rfl : k = cs.length := by omega
        obtain rfl := HF.out HS.out
        go_wp2
        go_ret
        exact ⟨rfl, rfl⟩
  · have hd : divErr cs n = 8 := by unfold divErr; rw [if_neg (by omega), if_pos hl]
    have hb : ((cs.length : Int) != n) = true := by simpa using hl
    rw [hd]
    clear hl hd
    go_enter Tryz.func137, Tryz.ntmps137
    go_wp2
    go_ret
    exact ⟨rfl, rfl⟩
end Go.Proofs.YtdnoeaoelgehcaaGreat

/-! The errors of configurations: stabilize.Check. -/
namespace Go.Proofs.YtdnoeaoelgehcaaGreat
open Go.RowKit

set_option maxHeartbeats 2000000 in
theorem rooted_any (n : Int) (A : Option Addr) (c : Nat) (es : List E3) (hn : es.length ≤ 1048576) (q : Int) (w : World) (h : Reads w w.heap.size 3 A es.length (edgeCells es)) :
    Calls Tryz.prog 114 #[.agg #[.int .i64 n, .slice A es.length c], .int .i64 q] w fun e w' => e = .returned (.int .i64 (rootErr n es q)) ∧ Below w.heap.size w w' := by
  have g0 := Blk.new w 24 #[.int .i64 n, .slice A es.length c]
  rcases root_cases n es q with ⟨h1, hE⟩ | ⟨h1, h2, hE⟩ | ⟨h1, h2, h3, hE⟩ | ⟨h1, h2, h3, hE⟩
  · rw [hE]
    have GC := Lib.hid (connected_bad n A c es hn h1)
    obtain ⟨r, hr⟩ : ∃ r, checkG n es = r := ⟨_, rfl⟩
    rw [hr] at GC h1 ⊢
    have hb : (r != 0) = true := by simpa using h1
    clear hr h1 hE
    go_enter Tryz.func114, Tryz.ntmps114
    go_wp2_with fail
    refine (GC.out _ ((h.alloc (Nat.le_refl _) _).more (by simp))).mono ?_
    rintro e w1 ⟨rfl, hb1⟩
    have hbel1 : Below w.heap.size w w1 := ((Below.refl _ _).alloc (Nat.le_refl _) _).trans (hb1.mono (by simp))
    go_wp2
    go_ret
    exact ⟨rfl, hbel1⟩
  · rw [hE]
    have hG := right_of h1
    have hlo := hG.lo
    obtain ⟨m, rfl⟩ := Int.eq_ofNat_of_zero_le (show 0 ≤ n by omega)
    have CC := Lib.hid (connected_ok m A c es hn h1)
    rw [Int.toNat_natCast] at h2
    rw [h2] at CC
    clear h1 hE hG h2
    go_enter Tryz.func114, Tryz.ntmps114
    go_wp2_with fail
    refine (CC.out _ ((h.alloc (Nat.le_refl _) _).more (by simp))).mono ?_
    rintro e w1 ⟨rfl, hb1⟩
    have hbel1 : Below w.heap.size w w1 := ((Below.refl _ _).alloc (Nat.le_refl _) _).trans (hb1.mono (by simp))
    go_wp2
    go_ret
    exact ⟨rfl, hbel1⟩
  · rw [hE]
    have hG := right_of h1
    have hlo := hG.lo
    obtain ⟨m, rfl⟩ := Int.eq_ofNat_of_zero_le (show 0 ≤ n by omega)
    have CC := Lib.hid (connected_ok m A c es hn h1)
    rw [Int.toNat_natCast] at h2
    rw [h2] at CC
    clear h1 hE hG h2
    rw [vertB_false] at h3
    by_cases h4 : q < 0
    · go_enter Tryz.func114, Tryz.ntmps114
      go_wp2_with fail
      refine (CC.out _ ((h.alloc (Nat.le_refl _) _).more (by simp))).mono ?_
      rintro e w1 ⟨rfl, hb1⟩
      have hbel1 : Below w.heap.size w w1 := ((Below.refl _ _).alloc (Nat.le_refl _) _).trans (hb1.mono (by simp))
      have g1 := g0.next hb1
      have c0 := g1.cell 0
      go_wp2
      go_ret
      exact ⟨rfl, hbel1⟩
    · have h5 : (m : Int) ≤ q := by omega
      clear h3
      go_enter Tryz.func114, Tryz.ntmps114
      go_wp2_with fail
      refine (CC.out _ ((h.alloc (Nat.le_refl _) _).more (by simp))).mono ?_
      rintro e w1 ⟨rfl, hb1⟩
      have hbel1 : Below w.heap.size w w1 := ((Below.refl _ _).alloc (Nat.le_refl _) _).trans (hb1.mono (by simp))
      have g1 := g0.next hb1
      have c0 := g1.cell 0
      go_wp2
      go_ret
      exact ⟨rfl, hbel1⟩
  · rw [hE]
    have hG := right_of h1
    have hlo := hG.lo
    obtain ⟨m, rfl⟩ := Int.eq_ofNat_of_zero_le (show 0 ≤ n by omega)
    have CC := Lib.hid (connected_ok m A c es hn h1)
    rw [Int.toNat_natCast] at h2
    rw [h2] at CC
    clear h1 hE hG h2
    rw [vertB_true] at h3
    have h4 : ¬ q < 0 := by omega
    have h5 : ¬ (m : Int) ≤ q := by omega
    clear h3
    go_enter Tryz.func114, Tryz.ntmps114
    go_wp2_with fail
    refine (CC.out _ ((h.alloc (Nat.le_refl _) _).more (by simp))).mono ?_
    rintro e w1 ⟨rfl, hb1⟩
    have hbel1 : Below w.heap.size w w1 := ((Below.refl _ _).alloc (Nat.le_refl _) _).trans (hb1.mono (by simp))
    have g1 := g0.next hb1
    have c0 := g1.cell 0
    go_wp2
    go_ret
    exact ⟨rfl, hbel1⟩

set_option maxRecDepth 100000 in
set_option maxHeartbeats 4000000 in
theorem scheck_any (n : Int) (A : Option Addr) (c : Nat) (es : List E3) (hn : es.length ≤ 1048576) (q : Int) (B : Option Addr) (d : Nat) (cs : List Int) (hm : cs.length ≤ 1048576) (w : World) (h : Reads w w.heap.size 3 A es.length (edgeCells es)) (h' : Reads w w.heap.size 1 B cs.length (ints cs)) :
    Calls Tryz.prog 92 #[.agg #[.int .i64 n, .slice A es.length c], .int .i64 q, .slice B cs.length d] w fun e w' => e = .returned (.int .i64 (confErr n es q cs)) ∧ Below w.heap.size w w' := by
  have GC := Lib.hid (rooted_any n A c es hn q)
  have DC := Lib.hid (dcheck_any B d cs hm n)
  have g0 := Blk.new w 24 #[.int .i64 n, .slice A es.length c]
  rcases conf_cases n es q cs with ⟨h1, hE⟩ | ⟨h1, h2, hE⟩ | ⟨h1, h2, hE⟩
  · rw [hE]
    obtain ⟨r, hr⟩ : ∃ r, rootErr n es q = r := ⟨_, rfl⟩
    rw [hr] at GC h1 ⊢
    have hb : (r != 0) = true := by simpa using h1
    clear hr h1 hE
    go_enter Tryz.func92, Tryz.ntmps92
    go_wp2_with fail
    refine (GC.out _ ((h.alloc (Nat.le_refl _) _).more (by simp))).mono ?_
    rintro e w1 ⟨rfl, hb1⟩
    have hbel1 : Below w.heap.size w w1 := ((Below.refl _ _).alloc (Nat.le_refl _) _).trans (hb1.mono (by simp))
    go_wp2
    go_ret
    exact ⟨rfl, hbel1⟩
  · rw [hE]
    rw [h1] at GC
    obtain ⟨r, hr⟩ : ∃ r, divErr cs n = r := ⟨_, rfl⟩
    rw [hr] at DC h2 ⊢
    have hb : (r != 0) = true := by simpa using h2
    clear hr h1 hE h2
    go_enter Tryz.func92, Tryz.ntmps92
    go_wp2_with fail
    refine (GC.out _ ((h.alloc (Nat.le_refl _) _).more (by simp))).mono ?_
    rintro e w1 ⟨rfl, hb1⟩
    have hbel1 : Below w.heap.size w w1 := ((Below.refl _ _).alloc (Nat.le_refl _) _).trans (hb1.mono (by simp))
    have g1 := g0.next hb1
    have c0 := g1.cell 0
    go_wp2_with fail
    refine (DC.out _ ((h'.below hbel1).more hbel1.size)).mono ?_
    rintro e w2 ⟨rfl, rfl⟩
    go_wp2
    go_ret
    exact ⟨rfl, hbel1⟩
  · rw [hE]
    rw [h1] at GC
    rw [h2] at DC
    obtain ⟨r, hr⟩ : ∃ r, (if debtTo cs q cs.length then (2 : Int) else 0) = r := ⟨_, rfl⟩
    rw [hr]
    have HR := Lib.hid hr
    have hlen := (divErr_zero h2).2.1
    have hlen2 := (divErr_zero h2).2.2.1
    clear hr h1 hE h2
    go_enter Tryz.func92, Tryz.ntmps92
    go_wp2_with fail
    refine (GC.out _ ((h.alloc (Nat.le_refl _) _).more (by simp))).mono ?_
    rintro e w1 ⟨rfl, hb1⟩
    have hbel1 : Below w.heap.size w w1 := ((Below.refl _ _).alloc (Nat.le_refl _) _).trans (hb1.mono (by simp))
    have g1 := g0.next hb1
    have c0 := g1.cell 0
    have hr1 := (h'.below hbel1).more hbel1.size
    have HL := Lib.hid hlen2
    clear hlen2
    go_wp2_with fail
    refine (DC.out _ hr1).mono ?_
    rintro e w2 ⟨rfl, rfl⟩
    go_wp2
    go_loop [26] (fun i => ∃ k : Nat, k ≤ cs.length ∧ i = .int .i64 k ∧ Hid (debtTo cs q k = false)) (fun i => cs.length - (intOf i).toNat)
    case atStart => exact ⟨0, by omega, rfl, by simp [Hid, debtTo]⟩
    case round =>
      obtain ⟨k, hk, rfl, HS⟩ := hrel
      by_cases hlt : k < cs.length
      · obtain ⟨x, hx⟩ := get_of_lt hlt
        obtain ⟨b, off, rfl, hb', hcell⟩ := hr1.at_ (ints_at hx)
        have hi : (k : Int) < (cs.length : Int) := by omega
        have hds := debtTo_succ cs q k
        rw [HS.out, getD_at hx] at hds
        have hkn : ∀ z, debtTo cs q (k + 1) = z → (z = true → r = 2) ∧ (z = false → Hid (debtTo cs q (k + 1) = false)) := fun z hz => ⟨fun e => by rw [← HR.out, if_pos (debtTo_mono (by omega) (hz.trans e))], fun e => hz.trans e⟩
        have HK := Lib.hid hkn
        clear hx h h' hkn
        by_cases h3 : (k : Int) = q
        · have hb : ((k : Int) != q) = false := by simpa using h3
          have HN := (HK.out _ hds).2 (by simp [h3])
          clear hds HK h3
          go_wp2
          go_round
          case rel => exact ⟨k + 1, by omega, by go_num, HN⟩
          case measure => simp [intOf]; omega
        · have hb : ((k : Int) != q) = true := by simpa using h3
          by_cases h4 : x < 0
          · obtain rfl := (HK.out _ hds).1 (by simp [h3, h4])
            clear hds HK h3
            go_wp2
            go_ret
            exact ⟨rfl, hbel1⟩
          · have HN := (HK.out _ hds).2 (by simp [h4])
            clear hds HK h3
            go_wp2
            go_round
            case rel => exact ⟨k + 1, by omega, by go_num, HN⟩
            case measure => simp [intOf]; omega
      · obtain rfl : k = cs.length := by omega
        go_wp2
        go_ret
        exact ⟨ret_int (by rw [← HR.out, HS.out]; rfl), hbel1⟩
end Go.Proofs.YtdnoeaoelgehcaaGreat

/-! burning.check. -/
namespace Go.Proofs.YtdnoeaoelgehcaaGreat
open Go.RowKit

set_option maxRecDepth 100000 in
set_option maxHeartbeats 2000000 in
theorem bcheck_any (n : Int) (A : Option Addr) (c : Nat) (es : List E3) (hn : es.length ≤ 1048576) (q : Int) (B : Option Addr) (d : Nat) (cs : List Int) (hm : cs.length ≤ 1048576) (w : World) (h : Reads w w.heap.size 3 A es.length (edgeCells es)) (h' : Reads w w.heap.size 1 B cs.length (ints cs)) :
    Calls Tryz.prog 69 #[.agg #[.int .i64 n, .slice A es.length c], .int .i64 q, .slice B cs.length d] w fun e w' => e = .returned (.int .i64 (burnErr n es q cs)) ∧ Below w.heap.size w w' := by
  have GC := Lib.hid (scheck_any n A c es hn q B d cs hm)
  rcases burn_cases n es q cs with ⟨h1, hE⟩ | ⟨h1, h2, hE⟩ | ⟨h1, h2, hE⟩
  · rw [hE]
    obtain ⟨r, hr⟩ : ∃ r, confErr n es q cs = r := ⟨_, rfl⟩
    rw [hr] at GC h1 ⊢
    have hb : (r != 0) = true := by simpa using h1
    clear hr h1 hE
    go_enter Tryz.func69, Tryz.ntmps69
    go_wp2_with fail
    refine (GC.out _ ((h.alloc (Nat.le_refl _) _).more (by simp)) ((h'.alloc (Nat.le_refl _) _).more (by simp))).mono ?_
    rintro e w1 ⟨rfl, hb1⟩
    have hbel1 : Below w.heap.size w w1 := ((Below.refl _ _).alloc (Nat.le_refl _) _).trans (hb1.mono (by simp))
    go_wp2
    go_ret
    exact ⟨rfl, hbel1⟩
  all_goals
    rw [hE]
    obtain ⟨_, _, hq0, hqn, hlen, _, _⟩ := conf_zero h1
    obtain ⟨v, rfl⟩ := Int.eq_ofNat_of_zero_le hq0
    rw [Int.toNat_natCast] at h2
    obtain ⟨x, hx⟩ := get_of_lt (xs := cs) (k := v) (by omega)
    rw [getD_at hx] at h2
    rw [h1] at GC
    have hi : (v : Int) < (cs.length : Int) := by omega
    have HX := Lib.hid hx
    clear h1 hE hx hlen
    go_enter Tryz.func69, Tryz.ntmps69
    go_wp2_with fail
    refine (GC.out _ ((h.alloc (Nat.le_refl _) _).more (by simp)) ((h'.alloc (Nat.le_refl _) _).more (by simp))).mono ?_
    rintro e w1 ⟨rfl, hb1⟩
    have hbel1 : Below w.heap.size w w1 := ((Below.refl _ _).alloc (Nat.le_refl _) _).trans (hb1.mono (by simp))
    obtain ⟨b, off, rfl, hb', hcell⟩ := (h'.below hbel1).at_ (ints_at HX.out)
    first
      | (have hb0 : (x != 0) = true := by simpa using h2
         clear h2
         go_wp2
         go_ret
         exact ⟨rfl, hbel1⟩)
      | (subst h2
         go_wp2
         go_ret
         exact ⟨rfl, hbel1⟩)
end Go.Proofs.YtdnoeaoelgehcaaGreat

/-! Package burning: the wood, its flames, and what is not burnt. -/
namespace Go.Proofs.YtdnoeaoelgehcaaGreat
open Go.RowKit

/-- The cells of a wood: n vertices, how often they are joined, the chips (a slice), what is burnt. -/
def wtail (ch : Value) (l : List Nat) : List Value := ch :: (List.range 12).map fun u => Value.bool (decide (u ∈ l))
def wtab (t : Nat → Nat → Int) : List Value := (List.range 144).map fun i => Value.int .i64 (t (i / 12) (i % 12))
def wcells (n : Nat) (t : Nat → Nat → Int) (ch : Value) (l : List Nat) : Array Value := (.int .i64 n :: (wtab t ++ wtail ch l)).toArray
section
variable {n : Nat} {t : Nat → Nat → Int} {ch : Value} {l : List Nat}
theorem wtab_length : (wtab t).length = 144 := by simp [wtab]
theorem wcells_n : (wcells n t ch l)[0]? = some (.int .i64 n) := by simp [wcells]
theorem wcells_tab {u v : Nat} (hu : u < 12) (hv : v < 12) : (wcells n t ch l)[1 + u * 12 + v]? = some (.int .i64 (t u v)) := by
  unfold wcells
  rw [List.getElem?_toArray, show 1 + u * 12 + v = (u * 12 + v) + 1 from by omega, List.getElem?_cons_succ, List.getElem?_append_left (by rw [wtab_length]; omega)]
  unfold wtab
  rw [List.getElem?_map, List.getElem?_range (by omega)]
  simp only [Option.map_some]
  rw [show (u * 12 + v) / 12 = u from by omega, show (u * 12 + v) % 12 = v from by omega]
theorem wcells_ch : (wcells n t ch l)[145]? = some ch := by
  unfold wcells
  rw [List.getElem?_toArray, List.getElem?_cons_succ, List.getElem?_append_right (by rw [wtab_length]; omega), wtab_length]
  rfl
theorem wcells_burnt {u : Nat} (hu : u < 12) : (wcells n t ch l)[146 + u]? = some (.bool (decide (u ∈ l))) := by
  unfold wcells
  rw [List.getElem?_toArray, show 146 + u = (145 + u) + 1 from by omega, List.getElem?_cons_succ, List.getElem?_append_right (by rw [wtab_length]; omega), wtab_length, show 145 + u - 144 = u + 1 from by omega, wtail, List.getElem?_cons_succ, List.getElem?_map, List.getElem?_range hu]
  rfl
theorem wcells_set_burnt {u : Nat} (hu : u < 12) : (wcells n t ch l).setIfInBounds (146 + u) (.bool true) = wcells n t ch (l ++ [u]) := by
  unfold wcells
  rw [List.setIfInBounds_toArray, show 146 + u = (145 + u) + 1 from by omega, List.set_cons_succ, List.set_append_right _ _ (by rw [wtab_length]; omega), wtab_length, show 145 + u - 144 = u + 1 from by omega]
  congr 3
  unfold wtail
  rw [List.set_cons_succ]
  congr 1
  apply List.ext_getElem?
  intro i
  rw [List.getElem?_set]
  by_cases hi : i < 12
  · by_cases he : u = i
    · subst he; simp [hu]
    · rw [if_neg he, List.getElem?_map, List.getElem?_map, List.getElem?_range hi]
      have : (i ∈ l ++ [u]) ↔ i ∈ l := by simp [Ne.symm he]
      simp only [Option.map_some, this]
  · rw [if_neg (by omega)]
    rw [List.getElem?_eq_none (by simp; omega), List.getElem?_eq_none (by simp; omega)]
theorem wcells_set_tab {u v : Nat} (hu : u < 12) (hv : v < 12) (x : Int) : (wcells n t ch l).setIfInBounds (1 + u * 12 + v) (.int .i64 x) = wcells n (fun a b => if a = u ∧ b = v then x else t a b) ch l := by
  unfold wcells
  rw [List.setIfInBounds_toArray, show 1 + u * 12 + v = (u * 12 + v) + 1 from by omega, List.set_cons_succ, List.set_append_left _ _ (by rw [wtab_length]; omega)]
  congr 3
  unfold wtab
  apply List.ext_getElem?
  intro i
  rw [List.getElem?_set]
  by_cases hi : i < 144
  · by_cases he : u * 12 + v = i
    · subst he
      simp only [if_true]
      rw [if_pos (by simp; omega), List.getElem?_map, List.getElem?_range hi]
      have h1 : (u * 12 + v) / 12 = u := by omega
      have h2 : (u * 12 + v) % 12 = v := by omega
      simp [h1, h2]
    · rw [if_neg he, List.getElem?_map, List.getElem?_map, List.getElem?_range hi]
      have hne : ¬ (i / 12 = u ∧ i % 12 = v) := by omega
      simp only [Option.map_some, if_neg hne]
  · rw [if_neg (by omega)]
    rw [List.getElem?_eq_none (by simp; omega), List.getElem?_eq_none (by simp; omega)]
theorem wcells_ext {t' : Nat → Nat → Int} (h : ∀ u v, u < 12 → v < 12 → t u v = t' u v) : wcells n t ch l = wcells n t' ch l := by
  unfold wcells
  congr 3
  unfold wtab
  apply List.map_congr_left
  intro i hi
  rw [List.mem_range] at hi
  rw [h _ _ (by omega) (by omega)]
theorem wcells_same {l' : List Nat} (h : ∀ u, u < 12 → (u ∈ l ↔ u ∈ l')) : wcells n t ch l = wcells n t ch l' := by
  unfold wcells wtail
  congr 4
  apply List.map_congr_left
  intro i hi
  rw [List.mem_range] at hi
  simp only [h i hi]
end
/-- Block g is a wood. -/
def Wood (w : World) (g n : Nat) (es : List E3) (ch : Value) (l : List Nat) : Prop := Blk w g 105 (wcells n (tt es) ch l)

section
variable {w w' : World} {g n : Nat} {es : List E3} {ch : Value} {l : List Nat}
theorem Wood.n_ (h : Wood w g n es ch l) : w.cell? ⟨g, 0, none⟩ = some (.int .i64 n) := (Blk.cell h 0).trans wcells_n
theorem Wood.tab_ (h : Wood w g n es ch l) {u v : Nat} (hu : u < 12) (hv : v < 12) : w.cell? ⟨g, 1 + u * 12 + v, none⟩ = some (.int .i64 (tt es u v)) := (Blk.cell h _).trans (wcells_tab hu hv)
theorem Wood.ch_ (h : Wood w g n es ch l) : w.cell? ⟨g, 145, none⟩ = some ch := (Blk.cell h _).trans wcells_ch
theorem Wood.burnt_ (h : Wood w g n es ch l) {u : Nat} (hu : u < 12) : w.cell? ⟨g, 146 + u, none⟩ = some (.bool (decide (u ∈ l))) := (Blk.cell h _).trans (wcells_burnt hu)
theorem Wood.burn (h : Wood w g n es ch l) {u : Nat} (hu : u < 12) : Wood (w.setCell ⟨g, 146 + u, none⟩ (.bool true)) g n es ch (l ++ [u]) := by
  have := Blk.set_ h (146 + u) (.bool true)
  rwa [wcells_set_burnt hu] at this
end

set_option maxHeartbeats 2000000 in
theorem flames_any (g n : Nat) (hn : n ≤ 12) (es : List E3) (N : Int) (hok : ∀ e ∈ es, okE N e) (ch : Value) (l : List Nat) (v : Nat) (hv : v < 12) (w : World) (h : Wood w g n es ch l) :
    Calls Tryz.prog 110 #[.pointer (some ⟨g, 0, none⟩), .int .i64 v] w fun e w' => e = .returned (.int .i64 (flmTo es l v n)) ∧ w = w' := by
  have c0 := h.n_
  have HO := Lib.hid hok
  have hvi : (v : Int) < 12 := by omega
  clear hok
  go_enter Tryz.func110, Tryz.ntmps110
  go_wp2
  go_loop [5, 11] (fun s i => ∃ k : Nat, k ≤ n ∧ i = .int .i64 k ∧ s = .int .i64 (flmTo es l v k)) (fun _ i => n - (intOf i).toNat)
  case atStart => exact ⟨0, by omega, rfl, rfl⟩
  case round =>
    obtain ⟨k, hk, rfl, rfl⟩ := hrel
    by_cases hlt : k < n
    · have hi : (k : Int) < (n : Int) := by omega
      have hi2 : (k : Int) < 12 := by omega
      have cb := h.burnt_ (u := k) (by omega)
      have ct := h.tab_ (u := v) (v := k) hv (by omega)
      have hf := flmTo_bd HO.out l v k
      have ht := tt_bd HO.out v k
      have hs : flmTo es l v (k + 1) = flmTo es l v k + if k ∈ l then tt es v k else 0 := rfl
      by_cases hm : k ∈ l
      · rw [if_pos hm] at hs
        rw [decide_eq_true hm] at cb
        have HS := Lib.hid hs
        obtain ⟨x, hx⟩ : ∃ x, flmTo es l v k = x := ⟨_, rfl⟩
        obtain ⟨y, hy⟩ : ∃ y, tt es v k = y := ⟨_, rfl⟩
        rw [hx] at hf HS ⊢
        rw [hy] at ht ct HS
        clear hs hm hx hy
        go_wp2
        go_round
        case rel => exact ⟨k + 1, by omega, by go_num, by rw [HS.out]⟩
        case measure => simp [intOf]; omega
      · rw [if_neg hm] at hs
        rw [decide_eq_false hm] at cb
        have HS := Lib.hid hs
        clear hs hm
        go_wp2
        go_round
        case rel => exact ⟨k + 1, by omega, by go_num, by rw [HS.out]; simp⟩
        case measure => simp [intOf]; omega
    · obtain rfl : k = n := by omega
      go_wp2
      go_ret
      exact ⟨rfl, rfl⟩
set_option maxHeartbeats 2000000 in
theorem catches_any (g n : Nat) (hn : n ≤ 12) (es : List E3) (N : Int) (hok : ∀ e ∈ es, okE N e) (A : Option Addr) (c : Nat) (cs : List Int) (hcl : cs.length = n) (l : List Nat) (hl : LOk n l) (v : Nat) (hv : v < n) (w : World) (h : Wood w g n es (.slice A cs.length c) l) (hr : Reads w w.heap.size 1 A cs.length (ints cs)) :
    Calls Tryz.prog 71 #[.pointer (some ⟨g, 0, none⟩), .int .i64 v] w fun e w' => e = .returned (.bool (catL es cs l v)) ∧ ∃ m, w' = w.drewN m := by
  have cb := h.burnt_ (u := v) (by omega)
  have hvi : (v : Int) < 12 := by omega
  have hcat : catL es cs l v = (!decide (v ∈ l) && decide (cs.getD v 0 < joinsN es v l)) := rfl
  by_cases hm : v ∈ l
  · rw [decide_eq_true hm] at cb hcat
    have HC := Lib.hid hcat
    clear hcat hm
    go_enter Tryz.func71, Tryz.ntmps71
    go_wp2
    go_quiet (fail)
    go_wp2
    go_ret
    exact ⟨ret_bool (by rw [HC.out]; rfl), ⟨_, rfl⟩⟩
  · have hf := flm_joins l hl hm (es := es)
    have FC := Lib.hid (fun w h => flames_any g n hn es N hok (.slice A cs.length c) l v (by omega) w h)
    rw [decide_eq_false hm] at cb hcat
    rw [hf] at FC
    obtain ⟨x, hx⟩ := get_of_lt (xs := cs) (k := v) (by omega)
    rw [getD_at hx] at hcat
    obtain ⟨b, off, rfl, hb', hcell⟩ := hr.at_ (ints_at hx)
    obtain ⟨q, hq⟩ : ∃ q, joinsN es v l = q := ⟨_, rfl⟩
    rw [hq] at hcat FC
    have HC := Lib.hid hcat
    have cc := h.ch_
    have hvl : (v : Int) < (cs.length : Int) := by omega
    have H := Lib.hid h
    clear hcat hm hf hq hx hl hok hcl h
    go_enter Tryz.func71, Tryz.ntmps71
    go_wp2
    go_quiet ((go_at_call 110; exact Calls.quiet_of_same ((FC.out _ (by exact H.out)).mono fun _ _ h => ⟨h.1, h.2.symm⟩)))
    go_wp2
    go_ret
    exact ⟨ret_bool (by rw [HC.out]; simp), ⟨_, rfl⟩⟩
end Go.Proofs.YtdnoeaoelgehcaaGreat

