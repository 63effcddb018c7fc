/-
  Texts of this claim, put together: RChips, RBurn, VerP, Funcs.
-/
import Derived.Test.YthbannpmfdflaaaK06
import Derived.Test.YthbannpmfdflaaaK07
import Derived.Test.YthbannpmfdflaaaK12
import Derived.StillTailTactics
import Derived.Deep.QuietTactic
import Derived.BigQuiet
import Derived.Deep.RegionWith
import Derived.Test.YthbannpmfdflaaaK01
import Derived.WalkKit
/-! ref08.Between; the error of a divisor: ref17.Check. -/
namespace Go.Proofs.Ythbannpmfdflaaa
open Go.RowKit

set_option maxRecDepth 100000 in
set_option maxHeartbeats 2000000 in
/-- ref08.Between -/
theorem between_any (n : Int) (A : Option Addr) (c : Nat) (es : List E3) (hn : es.length ≤ 1048576) (a b : Int) (w : World) (h : Reads w w.heap.size 3 A es.length (edgeCells es)) :
    Calls Try.prog 156 #[.agg #[.int .i64 n, .slice A es.length c], .int .i64 a, .int .i64 b] w fun e w' => e = .returned (.int .i64 (btw es a b)) ∧ Below w.heap.size w w' := by
  obtain ⟨r, hr⟩ : ∃ r, btw es a b = r := ⟨_, rfl⟩
  rw [hr]
  have HR := Lib.hid hr
  clear hr
  rcases Int.lt_trichotomy a b with hab | rfl | hab
  · have hba : ¬ b < a := by omega
    go_enter Try.func156, Try.ntmps156
    go_wp2
    go_loopw [7] (fun i wr => ∃ k : Nat, k ≤ es.length ∧ i = .int .i64 k ∧ Below w.heap.size w wr ∧ Blk wr w.heap.size 24 #[.int .i64 n, .slice A es.length c] ∧ Hid (btw es a b = btw (es.drop k) a b)) (fun i _ => es.length - (intOf i).toNat)
    case atStart => exact ⟨0, by omega, rfl, (Below.refl _ _).alloc (Nat.le_refl _) _, Blk.new _ _ _, by simp [Hid]⟩
    case round =>
      obtain ⟨k, hk, rfl, hbel, g1, HS⟩ := hrel
      have c1 := g1.cell 1
      have hsz := hbel.size
      have hlt0 := g1.lt
      by_cases hlt : k < es.length
      · obtain ⟨⟨x, y, m⟩, hx⟩ := get_of_lt hlt
        have hi : (k : Int) < (es.length : Int) := by omega
        have hd := btw_drop hx a b
        rw [show min a b = a from by omega, show max a b = b from by omega] at hd
        dsimp only at hd
        obtain ⟨bb, off, rfl, hb, q1, q2, q3⟩ := (h.below hbel).edge hx
        have G1 := g1.alloc (.cells #[.int .i64 x, .int .i64 y, .int .i64 m] 130)
        dsimp only at q1 q2 q3
        have HB := Lib.hid (hbel.alloc (Nat.le_trans (by simp) hsz) (.cells #[.int .i64 x, .int .i64 y, .int .i64 m] 130))
        clear hx h hbel
        by_cases h1 : x = a
        · by_cases h2 : y = b
          · rw [if_pos ⟨h1, h2⟩] at hd
            have HD := Lib.hid hd
            have e1 : (x == a) = true := by simpa using h1
            have e2 : (y == b) = true := by simpa using h2
            clear hd h1 h2
            go_wp2
            go_ret
            exact ⟨ret_int (by rw [← HR.out, HS.out, HD.out]), HB.out⟩
          · rw [if_neg (fun hc => h2 hc.2)] at hd
            have HD := Lib.hid hd
            have e1 : (x == a) = true := by simpa using h1
            have e2 : (y == b) = false := by simpa using h2
            clear hd h1 h2
            go_wp2
            go_roundw
            case rel => exact ⟨k + 1, by omega, by go_num, HB.out, G1, by rw [Hid, HS.out, HD.out]⟩
            case measure => simp [intOf]; omega
        · rw [if_neg (fun hc => h1 hc.1)] at hd
          have HD := Lib.hid hd
          have e1 : (x == a) = false := by simpa using h1
          clear hd h1
          go_wp2
          go_roundw
          case rel => exact ⟨k + 1, by omega, by go_num, HB.out, G1, by rw [Hid, HS.out, HD.out]⟩
          case measure => simp [intOf]; omega
      · go_wp2
        go_ret
        refine ⟨ret_int ?_, hbel⟩
        have e : btw es a b = 0 := by rw [HS.out, List.drop_eq_nil_of_le (by omega)]; rfl
        rw [← HR.out, e]
  · go_enter Try.func156, Try.ntmps156
    go_wp2
    go_loopw [7] (fun i wr => ∃ k : Nat, k ≤ es.length ∧ i = .int .i64 k ∧ Below w.heap.size w wr ∧ Blk wr w.heap.size 24 #[.int .i64 n, .slice A es.length c] ∧ Hid (btw es a a = btw (es.drop k) a a)) (fun i _ => es.length - (intOf i).toNat)
    case atStart => exact ⟨0, by omega, rfl, (Below.refl _ _).alloc (Nat.le_refl _) _, Blk.new _ _ _, by simp [Hid]⟩
    case round =>
      obtain ⟨k, hk, rfl, hbel, g1, HS⟩ := hrel
      have c1 := g1.cell 1
      have hsz := hbel.size
      have hlt0 := g1.lt
      by_cases hlt : k < es.length
      · obtain ⟨⟨x, y, m⟩, hx⟩ := get_of_lt hlt
        have hi : (k : Int) < (es.length : Int) := by omega
        have hd := btw_drop hx a a
        rw [show min a a = a from by omega, show max a a = a from by omega] at hd
        dsimp only at hd
        obtain ⟨bb, off, rfl, hb, q1, q2, q3⟩ := (h.below hbel).edge hx
        have G1 := g1.alloc (.cells #[.int .i64 x, .int .i64 y, .int .i64 m] 130)
        dsimp only at q1 q2 q3
        have HB := Lib.hid (hbel.alloc (Nat.le_trans (by simp) hsz) (.cells #[.int .i64 x, .int .i64 y, .int .i64 m] 130))
        clear hx h hbel
        by_cases h1 : x = a
        · by_cases h2 : y = a
          · rw [if_pos ⟨h1, h2⟩] at hd
            have HD := Lib.hid hd
            have e1 : (x == a) = true := by simpa using h1
            have e2 : (y == a) = true := by simpa using h2
            clear hd h1 h2
            go_wp2
            go_ret
            exact ⟨ret_int (by rw [← HR.out, HS.out, HD.out]), HB.out⟩
          · rw [if_neg (fun hc => h2 hc.2)] at hd
            have HD := Lib.hid hd
            have e1 : (x == a) = true := by simpa using h1
            have e2 : (y == a) = false := by simpa using h2
            clear hd h1 h2
            go_wp2
            go_roundw
            case rel => exact ⟨k + 1, by omega, by go_num, HB.out, G1, by rw [Hid, HS.out, HD.out]⟩
            case measure => simp [intOf]; omega
        · rw [if_neg (fun hc => h1 hc.1)] at hd
          have HD := Lib.hid hd
          have e1 : (x == a) = false := by simpa using h1
          clear hd h1
          go_wp2
          go_roundw
          case rel => exact ⟨k + 1, by omega, by go_num, HB.out, G1, by rw [Hid, HS.out, HD.out]⟩
          case measure => simp [intOf]; omega
      · go_wp2
        go_ret
        refine ⟨ret_int ?_, hbel⟩
        have e : btw es a a = 0 := by rw [HS.out, List.drop_eq_nil_of_le (by omega)]; rfl
        rw [← HR.out, e]
  · have hba : ¬ a < b := by omega
    go_enter Try.func156, Try.ntmps156
    go_wp2
    go_loopw [7] (fun i wr => ∃ k : Nat, k ≤ es.length ∧ i = .int .i64 k ∧ Below w.heap.size w wr ∧ Blk wr w.heap.size 24 #[.int .i64 n, .slice A es.length c] ∧ Hid (btw es a b = btw (es.drop k) a b)) (fun i _ => es.length - (intOf i).toNat)
    case atStart => exact ⟨0, by omega, rfl, (Below.refl _ _).alloc (Nat.le_refl _) _, Blk.new _ _ _, by simp [Hid]⟩
    case round =>
      obtain ⟨k, hk, rfl, hbel, g1, HS⟩ := hrel
      have c1 := g1.cell 1
      have hsz := hbel.size
      have hlt0 := g1.lt
      by_cases hlt : k < es.length
      · obtain ⟨⟨x, y, m⟩, hx⟩ := get_of_lt hlt
        have hi : (k : Int) < (es.length : Int) := by omega
        have hd := btw_drop hx a b
        rw [show min a b = b from by omega, show max a b = a from by omega] at hd
        dsimp only at hd
        obtain ⟨bb, off, rfl, hb, q1, q2, q3⟩ := (h.below hbel).edge hx
        have G1 := g1.alloc (.cells #[.int .i64 x, .int .i64 y, .int .i64 m] 130)
        dsimp only at q1 q2 q3
        have HB := Lib.hid (hbel.alloc (Nat.le_trans (by simp) hsz) (.cells #[.int .i64 x, .int .i64 y, .int .i64 m] 130))
        clear hx h hbel
        by_cases h1 : x = b
        · by_cases h2 : y = a
          · rw [if_pos ⟨h1, h2⟩] at hd
            have HD := Lib.hid hd
            have e1 : (x == b) = true := by simpa using h1
            have e2 : (y == a) = true := by simpa using h2
            clear hd h1 h2
            go_wp2
            go_ret
            exact ⟨ret_int (by rw [← HR.out, HS.out, HD.out]), HB.out⟩
          · rw [if_neg (fun hc => h2 hc.2)] at hd
            have HD := Lib.hid hd
            have e1 : (x == b) = true := by simpa using h1
            have e2 : (y == a) = false := by simpa using h2
            clear hd h1 h2
            go_wp2
            go_roundw
            case rel => exact ⟨k + 1, by omega, by go_num, HB.out, G1, by rw [Hid, HS.out, HD.out]⟩
            case measure => simp [intOf]; omega
        · rw [if_neg (fun hc => h1 hc.1)] at hd
          have HD := Lib.hid hd
          have e1 : (x == b) = false := by simpa using h1
          clear hd h1
          go_wp2
          go_roundw
          case rel => exact ⟨k + 1, by omega, by go_num, HB.out, G1, by rw [Hid, HS.out, HD.out]⟩
          case measure => simp [intOf]; omega
      · go_wp2
        go_ret
        refine ⟨ret_int ?_, hbel⟩
        have e : btw es a b = 0 := by rw [HS.out, List.drop_eq_nil_of_le (by omega)]; rfl
        rw [← HR.out, e]

set_option maxHeartbeats 400000 in
theorem rin_any (k : Int) (w : World) :
    Calls Try.prog 185 #[.int .i64 k] w fun e w' => e = .returned (.bool (chipB k)) ∧ w = w' := by
  go_enter Try.func185, Try.ntmps185
  go_wp2
  all_goals (go_ret; exact ⟨by simp only [chipB]; simp [*]; try omega, rfl⟩)
set_option maxHeartbeats 1000000 in
/-- ref17.Check -/
theorem rdcheck_any (A : Option Addr) (c : Nat) (cs : List Int) (hm : cs.length ≤ 1048576) (n : Int) (w : World) (h : Reads w w.heap.size 1 A cs.length (ints cs)) :
    Calls Try.prog 155 #[.slice A cs.length c, .int .i64 n] w fun e w' => e = .returned (.int .i64 (divErr cs n)) ∧ w = w' := by
  by_cases h1 : n < 1
  · have hd : divErr cs n = 2 := by unfold divErr; rw [if_pos (.inl h1)]
    rw [hd]
    go_enter Try.func155, Try.ntmps155
    go_wp2
    go_ret
    exact ⟨rfl, rfl⟩
  by_cases h2 : 12 < n
  · have hd : divErr cs n = 2 := by unfold divErr; rw [if_pos (.inr h2)]
    rw [hd]
    go_enter Try.func155, Try.ntmps155
    go_wp2
    go_ret
    exact ⟨rfl, rfl⟩
  by_cases hl : (cs.length : Int) = n
  · have hn : ¬ (n < 1 ∨ 12 < n) := by omega
    subst hl
    have hb : ((cs.length : Int) != (cs.length : Int)) = false := by simp
    have HE := Lib.hid (fun k x hx hb => divErr_at (cs := cs) (k := k) (x := x) hn rfl hx hb)
    have HF := Lib.hid (divErr_end (cs := cs) hn rfl)
    obtain ⟨r, hr⟩ : ∃ r, divErr cs cs.length = r := ⟨_, rfl⟩
    rw [hr] at HE HF ⊢
    clear hn hr
    go_enter Try.func155, Try.ntmps155
    go_wp2
    go_loop [5] (fun i => ∃ k : Nat, k ≤ cs.length ∧ i = .int .i64 k ∧ Hid ((cs.take k).all chipB = true)) (fun i => cs.length - (intOf i).toNat)
    case atStart => exact ⟨0, by omega, rfl, by simp [Hid]⟩
    case round =>
      obtain ⟨k, hk, rfl, HS⟩ := hrel
      by_cases hlt : k < cs.length
      · obtain ⟨x, hx⟩ := get_of_lt hlt
        obtain ⟨b, off, rfl, hb', hcell⟩ := h.at_ (ints_at hx)
        have hi : (k : Int) < (cs.length : Int) := by omega
        have HX := Lib.hid hx
        clear hx h
        cases hin : chipB x
        · obtain rfl := HE.out k x HX.out hin
          go_wp2_with (go_at_call 185; refine (rin_any _ _).mono ?_; rintro e w' ⟨rfl, rfl⟩)
          go_ret
          exact ⟨rfl, rfl⟩
        · have HN := Lib.hid (all_snoc HX.out HS.out hin)
          go_wp2_with (go_at_call 185; refine (rin_any _ _).mono ?_; rintro e w' ⟨rfl, rfl⟩)
          go_round
          case rel => exact ⟨k + 1, by omega, by go_num, HN.out⟩
          case measure => simp [intOf]; omega
      · obtain rfl : k = cs.length := by omega
        obtain rfl := HF.out HS.out
        go_wp2
        go_ret
        exact ⟨rfl, rfl⟩
  · have hd : divErr cs n = 8 := by unfold divErr; rw [if_neg (by omega), if_pos hl]
    have hb : ((cs.length : Int) != n) = true := by simpa using hl
    rw [hd]
    clear hl hd
    go_enter Try.func155, Try.ntmps155
    go_wp2
    go_ret
    exact ⟨rfl, rfl⟩
end Go.Proofs.Ythbannpmfdflaaa

/-! The reference's fire: ref08.Holds, ref23.Joins, ref23.ready, ref23.Burnt, ref23.Unburnt. -/
namespace Go.Proofs.Ythbannpmfdflaaa
open Go.RowKit

def natsI (l : List Nat) : List Int := l.map fun u : Nat => (u : Int)
theorem natsI_at {l : List Nat} {k x : Nat} (h : l[k]? = some x) : (natsI l)[k]? = some (x : Int) := by simp [natsI, h]
theorem natsI_length (l : List Nat) : (natsI l).length = l.length := by simp [natsI]
theorem natsI_snoc (l : List Nat) (x : Nat) : natsI (l ++ [x]) = natsI l ++ [(x : Int)] := by simp [natsI]
theorem natsI_mem {l : List Nat} {v : Nat} : ((v : Int) ∈ natsI l) ↔ v ∈ l := by
  unfold natsI; rw [List.mem_map]
  constructor
  · rintro ⟨u, hu, e⟩; have : u = v := by omega
    exact this ▸ hu
  · intro h; exact ⟨v, h, rfl⟩

set_option maxHeartbeats 1000000 in
theorem holds_any (A : Option Addr) (c : Nat) (xs : List Int) (hn : xs.length ≤ 1048576) (v : Int) (w : World) (h : Reads w w.heap.size 1 A xs.length (ints xs)) :
    Calls Try.prog 127 #[.slice A xs.length c, .int .i64 v] w fun e w' => e = .returned (.bool (decide (v ∈ xs))) ∧ w = w' := by
  obtain ⟨r, hr⟩ : ∃ r, decide (v ∈ xs) = r := ⟨_, rfl⟩
  rw [hr]
  have HR := Lib.hid hr
  clear hr
  go_enter Try.func127, Try.ntmps127
  go_wp2
  go_loop [5] (fun i => ∃ k : Nat, k ≤ xs.length ∧ i = .int .i64 k ∧ Hid (v ∉ xs.take k)) (fun i => xs.length - (intOf i).toNat)
  case atStart => exact ⟨0, by omega, rfl, by simp [Hid]⟩
  case round =>
    obtain ⟨k, hk, rfl, HS⟩ := hrel
    by_cases hlt : k < xs.length
    · obtain ⟨x, hx⟩ := get_of_lt hlt
      obtain ⟨b, off, rfl, hb, hcell⟩ := h.at_ (ints_at hx)
      have hi : (k : Int) < (xs.length : Int) := by omega
      have htk := take_snoc hx
      by_cases hv : x = v
      · have e : (x == v) = true := by simpa using hv
        have HT : Hid (decide (v ∈ xs) = true) := by
          rw [Hid, decide_eq_true_eq, ← hv]; exact List.mem_of_getElem? hx
        clear hx htk hv
        go_wp2
        go_ret
        exact ⟨ret_bool (by rw [← HR.out, HT.out]), rfl⟩
      · have e : (x == v) = false := by simpa using hv
        have HN : Hid (v ∉ xs.take (k + 1)) := by
          rw [htk, Hid, List.mem_append]
          rintro (hc | hc)
          · exact HS.out hc
          · exact hv (List.mem_singleton.1 hc).symm
        clear hx htk hv
        go_wp2
        go_round
        case rel => exact ⟨k + 1, by omega, by go_num, HN⟩
        case measure => simp [intOf]; omega
    · obtain rfl : k = xs.length := by omega
      rw [List.take_length] at HS
      go_wp2
      go_ret
      refine ⟨ret_bool ?_, rfl⟩
      rw [← HR.out, decide_eq_false HS.out]

set_option maxRecDepth 100000 in
set_option maxHeartbeats 2000000 in
theorem jns_any (n : Int) (A : Option Addr) (c : Nat) (es : List E3) (hn : es.length ≤ 1048576) (N : Int) (hok : ∀ e ∈ es, okE N e) (v : Nat) (B : Option Addr) (d : Nat) (l : List Nat) (hl : l.length ≤ 100) (w : World) (h : Reads w w.heap.size 3 A es.length (edgeCells es)) (h' : Reads w w.heap.size 1 B l.length (ints (natsI l))) :
    Calls Try.prog 128 #[.agg #[.int .i64 n, .slice A es.length c], .int .i64 v, .slice B l.length d] w fun e w' => e = .returned (.int .i64 (joinsN es v l)) ∧ Below w.heap.size w w' := by
  have HO := Lib.hid hok
  have g0 := Blk.new w 24 #[.int .i64 n, .slice A es.length c]
  clear hok
  go_enter Try.func128, Try.ntmps128
  go_wp2
  go_loopw [7, 8] (fun s i wr => ∃ (k : Nat) (x : Int), k ≤ l.length ∧ i = .int .i64 k ∧ s = .int .i64 x ∧ 0 ≤ x ∧ x ≤ 50 * k ∧ Hid (joinsN es v (l.take k) = x) ∧ Below w.heap.size w wr ∧ Blk wr w.heap.size 24 #[.int .i64 n, .slice A es.length c]) (fun _ i _ => l.length - (intOf i).toNat)
  case atStart => exact ⟨0, 0, by omega, rfl, rfl, by omega, by omega, rfl, (Below.refl _ _).alloc (Nat.le_refl _) _, g0⟩
  case round =>
    obtain ⟨k, x, hk, rfl, rfl, hx0, hx1, HS, hbel, g1⟩ := hrel
    clear g0
    have hsz := hbel.size
    by_cases hlt : k < l.length
    · obtain ⟨u, hu⟩ := get_of_lt hlt
      obtain ⟨b, off, rfl, hb, hcell⟩ := (h'.below hbel).at_ (ints_at (natsI_at hu))
      have hi : (k : Int) < (l.length : Int) := by omega
      have hj := joinsN_snoc es v (l.take k) u
      rw [← take_snoc hu, HS.out] at hj
      have hbd := btw_bd HO.out (v : Int) (u : Int)
      have BC := Lib.hid (between_any n A c es hn v u wr.drew (by exact (h.below hbel).more hsz))
      obtain ⟨y, hy⟩ : ∃ y, btw es v u = y := ⟨_, rfl⟩
      rw [hy] at hj hbd BC
      have HJ := Lib.hid hj
      have c0 := g1.cell 0
      have c1 := g1.cell 1
      clear hj hy hu
      go_wp2
      go_region_with (go_at_call 156; refine (BC.out).mono ?_; rintro e w' ⟨rfl, hb'⟩)
      all_goals (
        have hb2 : Below wr.heap.size wr w' := (Below.refl _ _).drew.trans hb'
        go_wp2
        go_roundw
        case rel => exact ⟨k + 1, x + y, by omega, by go_num, rfl, by omega, by omega, HJ.out, hbel.trans (hb2.mono hsz), g1.next hb2⟩
        case measure => simp [intOf]; omega)
    · obtain rfl : k = l.length := by omega
      rw [List.take_length] at HS
      go_wp2
      go_ret
      exact ⟨ret_int (by rw [HS.out]), hbel⟩

set_option maxRecDepth 100000 in
set_option maxHeartbeats 4000000 in
theorem rready_any (n : Nat) (hn12 : n ≤ 12) (A : Option Addr) (c : Nat) (es : List E3) (hn : es.length ≤ 1048576) (N : Int) (hok : ∀ e ∈ es, okE N e) (B : Option Addr) (d : Nat) (cs : List Int) (hcl : cs.length = n) (D : Option Addr) (f : Nat) (l : List Nat) (hl : l.length ≤ 100) (w : World)
    (h : Reads w w.heap.size 3 A es.length (edgeCells es)) (h' : Reads w w.heap.size 1 B cs.length (ints cs)) (h'' : Reads w w.heap.size 1 D l.length (ints (natsI l))) :
    Calls Try.prog 131 #[.agg #[.int .i64 n, .slice A es.length c], .slice B cs.length d, .slice D l.length f] w fun e w' => ∃ A' c', e = .returned (.slice A' (readyL es cs n l).length c') ∧ OwnI w' w.heap.size A' c' (natsI (readyL es cs n l)) ∧ Below w.heap.size w w' := by
  have HO := Lib.hid hok
  have HCL := Lib.hid hcl
  have g0 := Blk.new w 24 #[.int .i64 n, .slice A es.length c]
  have hfs : ∀ k, ((List.range (k + 1)).filter (catL es cs l)) = ((List.range k).filter (catL es cs l)) ++ if catL es cs l k then [k] else [] := fun k => by
    rw [List.range_succ, List.filter_append]
    cases hc : catL es cs l k <;> simp [hc]
  have HFS := Lib.hid hfs
  have HRD : Hid (readyL es cs n l = (List.range n).filter (catL es cs l)) := rfl
  have hcat : ∀ k, catL es cs l k = (!decide (k ∈ l) && decide (cs.getD k 0 < joinsN es k l)) := fun _ => rfl
  have HCAT := Lib.hid hcat
  clear hok hcl hfs hcat
  go_enter Try.func131, Try.ntmps131
  go_wp2
  go_loopw [7, 8] (fun s i wr => ∃ (k : Nat) (A' : Option Addr) (c' : Nat) (r : List Nat), k ≤ n ∧ i = .int .i64 k ∧ s = .slice A' (natsI r).length c' ∧ Hid ((List.range k).filter (catL es cs l) = r) ∧ (natsI r).length ≤ k ∧ OwnI wr w.heap.size A' c' (natsI r) ∧ Below w.heap.size w wr ∧ Blk wr w.heap.size 24 #[.int .i64 n, .slice A es.length c]) (fun _ i _ => n - (intOf i).toNat)
  case atStart => exact ⟨0, none, 0, [], by omega, rfl, rfl, rfl, by simp [natsI], OwnI.nil_ _ _, (Below.refl _ _).alloc (Nat.le_refl _) _, g0⟩
  case round =>
    obtain ⟨k, A', c', r, hk, rfl, rfl, HR, hrl, hown, hbel, g1⟩ := hrel
    clear g0
    have hsz := hbel.size
    have c0 := g1.cell 0
    have c1 := g1.cell 1
    by_cases hlt : k < n
    · have hi : (k : Int) < (n : Int) := by omega
      obtain ⟨x, hx⟩ := get_of_lt (xs := cs) (k := k) (by have := HCL.out; omega)
      obtain ⟨b, off, rfl, hb, hcell⟩ := (h'.below hbel).at_ (ints_at hx)
      have hkc : (k : Int) < (cs.length : Int) := by have := HCL.out; omega
      have hct := HCAT.out k
      rw [getD_at hx] at hct
      have hfk := HFS.out k
      rw [HR.out] at hfk
      have HC := holds_any D f (natsI l) (by rw [natsI_length]; omega) (k : Int) wr.drew (by have := (h''.below hbel).more hsz; rw [natsI_length]; exact this)
      rw [natsI_length, show decide ((k : Int) ∈ natsI l) = decide (k ∈ l) from by rw [Bool.eq_iff_iff]; simp [natsI_mem]] at HC
      have JC := jns_any n A c es hn N HO.out k D f l hl wr.drew (by exact (h.below hbel).more hsz) (by exact (h''.below hbel).more hsz)
      by_cases hm : k ∈ l
      · rw [decide_eq_true hm] at HC hct
        have hc0 : catL es cs l k = false := by rw [hct]; rfl
        rw [hc0] at hfk
        have HF := Lib.hid hfk
        have hrl2 := (h''.below hbel).more hsz
        have HQ : Hid (∀ W : World, Reads W W.heap.size 1 D l.length (ints (natsI l)) → Calls Try.prog 127 #[.slice D l.length f, .int .i64 k] W fun e w' => e = .returned (.bool true) ∧ W = w') := by
          intro W hW
          have := holds_any D f (natsI l) (by rw [natsI_length]; omega) (k : Int) W (by rw [natsI_length]; exact hW)
          rwa [natsI_length, decide_eq_true (natsI_mem.2 hm)] at this
        have HRL := Lib.hid hrl2
        clear hct hc0 hfk hx hm JC HC hrl2
        go_wp2
        go_quiet ((go_at_call 127; exact Calls.quiet_of_same ((HQ.out _ (by exact HRL.out)).mono fun _ _ h => ⟨h.1, h.2.symm⟩)))
        go_wp2
        go_roundw
        case rel => exact ⟨k + 1, A', c', r, by omega, by go_num, rfl, by rw [HF.out]; simp [Hid], by omega, hown.drewN _, below_drewN hbel _, g1.drewN _⟩
        case measure => simp [intOf]; omega
      · rw [decide_eq_false hm] at HC hct
        have HC := Lib.hid HC
        have JC := Lib.hid JC
        obtain ⟨y, hy⟩ : ∃ y, joinsN es k l = y := ⟨_, rfl⟩
        rw [hy] at hct JC
        by_cases hxy : x < y
        · have hc0 : catL es cs l k = true := by rw [hct, decide_eq_true hxy]; rfl
          rw [hc0] at hfk
          have HF := Lib.hid hfk
          clear hct hc0 hfk hx hm hy
          go_wp2
          go_region_with (first
            | (go_at_call 127; refine (HC.out).mono ?_; rintro e w' ⟨rfl, rfl⟩)
            | (go_at_call 128; refine (JC.out).mono ?_; rintro e w2 ⟨rfl, hb2⟩; have e2 := (hb2.cell (p := ⟨b, off + k, none⟩) (by show b < wr.heap.size; omega)).trans hcell))
          all_goals (
            have hb3 : Below wr.heap.size wr w2 := (Below.refl _ _).drew.trans hb2
            have hown3 := hown.next hb3
            have hbel3 := hbel.trans (hb3.mono hsz)
            have hsz3 := hbel3.size
            have g3 := g1.next hb3
            go_wp2_with (at_builtin; refine push_int rfl (.tmp 30) (.tmp 32) _ rfl Try.underlying25 w.heap.size A' c' (natsI r) (k : Int) rfl hown3 rfl rfl (by omega) hsz3 ?_; intro A4 c4 w4 hown4 hg4 hb4; have g4 := (g3.alloc _).grown hg4 (own_blk_ne hown3 g3 (by decide)))
            go_roundw
            case rel => exact ⟨k + 1, A4, c4, r ++ [k], by omega, by go_num, by rw [natsI_snoc]; simp, by rw [HF.out]; simp [Hid], by rw [natsI_snoc]; simp; omega, by rw [natsI_snoc]; exact hown4, hbel3.trans hb4, g4⟩
            case measure => simp [intOf]; omega)
        · have hc0 : catL es cs l k = false := by rw [hct, decide_eq_false hxy]; rfl
          rw [hc0] at hfk
          have HF := Lib.hid hfk
          clear hct hc0 hfk hx hm hy
          go_wp2
          go_region_with (first
            | (go_at_call 127; refine (HC.out).mono ?_; rintro e w' ⟨rfl, rfl⟩)
            | (go_at_call 128; refine (JC.out).mono ?_; rintro e w2 ⟨rfl, hb2⟩; have e2 := (hb2.cell (p := ⟨b, off + k, none⟩) (by show b < wr.heap.size; omega)).trans hcell))
          all_goals (
            have hb3 : Below wr.heap.size wr w2 := (Below.refl _ _).drew.trans hb2
            go_wp2
            go_roundw
            case rel => exact ⟨k + 1, A', c', r, by omega, by go_num, rfl, by rw [HF.out]; simp [Hid], by omega, hown.next hb3, hbel.trans (hb3.mono hsz), g1.next hb3⟩
            case measure => simp [intOf]; omega)
    · obtain rfl : k = n := by omega
      go_wp2
      go_ret
      exact ⟨A', c', by rw [HRD.out, HR.out, natsI_length]; rfl, by rw [HRD.out, HR.out]; exact hown, hbel⟩
end Go.Proofs.Ythbannpmfdflaaa

/-! Plain: what proves that a configuration is superstable; the part of a slice. -/
namespace Go.Proofs.Ythbannpmfdflaaa
open Go.RowKit

theorem Reads.from_ {w : World} {B b off : Nat} {xs : List Int} (h : Reads w B 1 (some ⟨b, off, none⟩) xs.length (ints xs)) (k : Nat) (hk : k < xs.length) : Reads w B 1 (some ⟨b, off + k, none⟩) (xs.length - k) (ints (xs.drop k)) := by
  refine ⟨by simp [ints], fun _ => ?_⟩
  obtain ⟨b', off', hA, hb, hc⟩ := h.2 (by omega)
  injection hA with hA; injection hA with e1 e2; subst e1 e2
  refine ⟨b, off + k, rfl, hb, fun j v hv => ?_⟩
  rw [show off + k + j = off + (k + j) from by omega]
  exact hc (k + j) v (by rw [← hv]; simp [ints])
theorem Reads.upto {w : World} {B b off : Nat} {xs : List Int} (h : Reads w B 1 (some ⟨b, off, none⟩) xs.length (ints xs)) (k : Nat) (hk : k < xs.length) : Reads w B 1 (some ⟨b, off, none⟩) k (ints (xs.take k)) := by
  refine ⟨by simp [ints]; omega, fun _ => ?_⟩
  obtain ⟨b', off', hA, hb, hc⟩ := h.2 (by omega)
  injection hA with hA; injection hA with e1 e2; subst e1 e2
  refine ⟨b, off, rfl, hb, fun j v hv => hc j v ?_⟩
  have hj : j < k := by
    have := (List.getElem?_eq_some_iff.1 hv).1
    simp [ints] at this; omega
  rw [← hv]
  simp [ints, List.getElem?_take_of_lt hj]

/-- The error of a list that is to rename the numbers below n. -/
def renFrom (n : Int) : List Int → List Int → Int
  | _, [] => 0
  | s, x :: r => if x < 0 ∨ n ≤ x then 2 else if x ∈ s then 7 else renFrom n (s ++ [x]) r
def renErr (n : Int) (xs : List Int) : Int := if (xs.length : Int) ≠ n then 8 else renFrom n [] xs
theorem renFrom_at {n : Int} {xs : List Int} {k : Nat} {x : Int} (h : xs[k]? = some x) :
    renFrom n (xs.take k) (xs.drop k) = if x < 0 ∨ n ≤ x then 2 else if x ∈ xs.take k then 7 else renFrom n (xs.take (k + 1)) (xs.drop (k + 1)) := by
  obtain ⟨l1, e1⟩ := List.getElem?_eq_some_iff.1 h
  rw [List.drop_eq_getElem_cons l1, e1, renFrom, take_snoc h]
theorem renFrom_end (n : Int) (xs : List Int) : renFrom n (xs.take xs.length) (xs.drop xs.length) = 0 := by rw [List.drop_length]; rfl
theorem renFrom_zero {n : Int} : ∀ {r s : List Int}, renFrom n s r = 0 → (∀ x ∈ r, 0 ≤ x ∧ x < n ∧ x ∉ s) ∧ r.Nodup
  | [], _, _ => ⟨by simp, List.nodup_nil⟩
  | x :: r, s, h => by
    rw [renFrom] at h
    split at h
    · omega
    · split at h
      · omega
      · rename_i h1 h2
        obtain ⟨h3, h4⟩ := renFrom_zero h
        refine ⟨fun y hy => ?_, List.nodup_cons.2 ⟨fun hx => (h3 x hx).2.2 (by simp), h4⟩⟩
        rcases List.mem_cons.1 hy with rfl | hy
        · exact ⟨by omega, by omega, h2⟩
        · have := h3 y hy
          exact ⟨this.1, this.2.1, fun hc => this.2.2 (by simp [hc])⟩
/-- A list that renames is one of natural numbers, each below n once. -/
theorem ren_nats {n : Nat} {xs : List Int} (h : renErr n xs = 0) : ∃ l : List Nat, xs = natsI l ∧ LOk n l ∧ l.length = n := by
  unfold renErr at h
  split at h
  · omega
  · rename_i hl
    obtain ⟨h1, h2⟩ := renFrom_zero h
    refine ⟨xs.map Int.toNat, ?_, ⟨?_, ?_⟩, by rw [List.length_map]; omega⟩
    · unfold natsI
      rw [List.map_map]
      have hid : xs.map ((fun u : Nat => (u : Int)) ∘ Int.toNat) = xs.map id := List.map_congr_left fun x hx => by
        have := h1 x hx
        simp only [Function.comp, id]
        omega
      rw [hid, List.map_id]
    · rw [List.nodup_iff_pairwise_ne, List.pairwise_map]
      refine List.Pairwise.imp_of_mem ?_ (List.nodup_iff_pairwise_ne.1 h2)
      intro a b ha hb hab
      have := h1 a ha
      have := h1 b hb
      omega
    · intro u hu
      obtain ⟨x, hx, rfl⟩ := List.mem_map.1 hu
      have := h1 x hx
      omega

/-- Does each vertex of a list burn when the earlier ones are burnt? -/
def provFrom (es : List E3) (cs : List Int) : List Nat → List Nat → Bool
  | _, [] => true
  | s, x :: r => decide (cs.getD x 0 < joinsN es x s) && provFrom es cs (s ++ [x]) r
def provL (es : List E3) (cs : List Int) (l : List Nat) : Bool := provFrom es cs (l.take 1) (l.drop 1)
theorem provFrom_at {es : List E3} {cs : List Int} {l : List Nat} {k x : Nat} (h : l[k]? = some x) :
    provFrom es cs (l.take k) (l.drop k) = (decide (cs.getD x 0 < joinsN es x (l.take k)) && provFrom es cs (l.take (k + 1)) (l.drop (k + 1))) := by
  obtain ⟨l1, e1⟩ := List.getElem?_eq_some_iff.1 h
  rw [List.drop_eq_getElem_cons l1, e1, provFrom, take_snoc h]
/-- What Verify returns. -/
def verErr (n : Int) (es : List E3) (q : Int) (cs xs : List Int) : Int := if burnErr n es q cs ≠ 0 then burnErr n es q cs else renErr n xs
def verB (n : Int) (es : List E3) (q : Int) (cs xs : List Int) : Bool := if verErr n es q cs xs = 0 then decide (xs.getD 0 0 = q) && provL es cs (xs.map Int.toNat) else false
theorem nats_toNat (l : List Nat) : (natsI l).map Int.toNat = l := by
  unfold natsI
  rw [List.map_map]
  have : l.map (Int.toNat ∘ fun u : Nat => (u : Int)) = l.map id := List.map_congr_left fun _ _ => rfl
  rw [this, List.map_id]
theorem natsI_getD (l : List Nat) (k : Nat) : (natsI l).getD k 0 = ((l.getD k 0 : Nat) : Int) := by
  simp only [List.getD_eq_getElem?_getD, natsI, List.getElem?_map]
  cases l[k]? <;> rfl
theorem cat_fresh {es : List E3} {cs : List Int} {l : List Nat} {v : Nat} (h : v ∉ l) : catL es cs l v = decide (cs.getD v 0 < joinsN es v l) := by simp [catL, h]
end Go.Proofs.Ythbannpmfdflaaa

/-! slices.IndexFunc and ContainsFunc on ints, with a function that has captured one variable. -/
namespace Go.Proofs.Ythbannpmfdflaaa
open Go.RowKit

set_option maxHeartbeats 1000000 in
theorem indexf_any (F : Nat) (y : Value) (eg : ∀ args w, (callFunc F args).run Try.prog w = .ok (.enter F args) w) (p : Int → Bool) (A : Option Addr) (c : Nat) (xs : List Int) (hn : xs.length ≤ 1048576) (w : World) (h : Reads w w.heap.size 1 A xs.length (ints xs))
    (hp : ∀ x ∈ xs, ∀ m, Calls Try.prog F #[.int .i64 x, y] (w.drewN m) fun e w' => e = .returned (.bool (p x)) ∧ ∃ m', w' = w.drewN m') :
    Calls Try.prog 74 #[.slice A xs.length c, .func (.func F) #[] #[y]] w fun e w' => ∃ r : Int, e = .returned (.int .i64 r) ∧ Hid (0 ≤ r ↔ ∃ x ∈ xs, p x = true) ∧ ∃ m, w' = w.drewN m := by
  have HP := Lib.hid hp
  clear hp
  go_enter Try.func74, Try.ntmps74
  go_wp2
  go_loopw [8] (fun i wr => ∃ k : Nat, k ≤ xs.length ∧ i = .int .i64 k ∧ Hid (∀ x ∈ xs.take k, p x = false) ∧ Hid (∃ m, wr = w.drewN m)) (fun i _ => xs.length - (intOf i).toNat)
  case atStart => exact ⟨0, by omega, rfl, by simp [Hid], ⟨0, rfl⟩⟩
  case round =>
    obtain ⟨k, hk, rfl, HS, HM⟩ := hrel
    by_cases hlt : k < xs.length
    · obtain ⟨x, hx⟩ := get_of_lt hlt
      obtain ⟨m, rfl⟩ := HM.out
      obtain ⟨b, off, rfl, hb, hcell0⟩ := h.at_ (ints_at hx)
      have hcell : (w.drewN m).cell? ⟨b, off + k, none⟩ = some (.int .i64 x) := hcell0
      have hi : (k : Int) < (xs.length : Int) := by omega
      have htk := take_snoc hx
      have PC := HP.out x (List.mem_of_getElem? hx) m
      have HX := Lib.hid hx
      cases hpx : p x
      · rw [hpx] at PC
        have PC := Lib.hid PC
        have HN : Hid (∀ x ∈ xs.take (k + 1), p x = false) := by
          rw [htk]
          intro z hz
          rcases List.mem_append.1 hz with hz | hz
          · exact HS.out z hz
          · rw [List.mem_singleton.1 hz]; exact hpx
        clear hx htk hpx hcell0 h
        go_wp2_with fail
        refine (PC.out).mono ?_
        rintro e w2 ⟨rfl, m2, rfl⟩
        go_wp2
        go_roundw
        case rel => exact ⟨k + 1, by omega, by go_num, HN, ⟨m2, rfl⟩⟩
        case measure => simp [intOf]; omega
      · rw [hpx] at PC
        have PC := Lib.hid PC
        have HT : Hid (∃ x ∈ xs, p x = true) := ⟨x, List.mem_of_getElem? hx, hpx⟩
        clear hx htk hpx hcell0 h
        go_wp2_with fail
        refine (PC.out).mono ?_
        rintro e w2 ⟨rfl, m2, rfl⟩
        go_wp2
        go_ret
        exact ⟨k, rfl, ⟨fun _ => HT.out, fun _ => by omega⟩, m2, rfl⟩
    · obtain rfl : k = xs.length := by omega
      rw [List.take_length] at HS
      go_wp2
      go_ret
      refine ⟨-1, rfl, ⟨fun h => absurd h (by decide), ?_⟩, HM.out⟩
      rintro ⟨x, hx, hp⟩
      rw [HS.out x hx] at hp; cases hp
set_option maxHeartbeats 1000000 in
theorem containsf_any (F : Nat) (y : Value) (eg : ∀ args w, (callFunc F args).run Try.prog w = .ok (.enter F args) w) (p : Int → Bool) (A : Option Addr) (c : Nat) (xs : List Int) (hn : xs.length ≤ 1048576) (w : World) (h : Reads w w.heap.size 1 A xs.length (ints xs))
    (hp : ∀ x ∈ xs, ∀ m, Calls Try.prog F #[.int .i64 x, y] (w.drewN m) fun e w' => e = .returned (.bool (p x)) ∧ ∃ m', w' = w.drewN m') :
    Calls Try.prog 22 #[.slice A xs.length c, .func (.func F) #[] #[y]] w fun e w' => e = .returned (.bool (xs.any p)) ∧ ∃ m, w' = w.drewN m := by
  have IC := Lib.hid (indexf_any F y eg p A c xs hn w h hp)
  have HA : Hid (∀ r : Int, (0 ≤ r ↔ ∃ x ∈ xs, p x = true) → decide (0 ≤ r) = xs.any p) := by
    intro r hr
    rw [Bool.eq_iff_iff, List.any_eq_true, decide_eq_true_eq]; exact hr
  clear hp h
  go_enter Try.func22, Try.ntmps22
  go_wp2_with fail
  refine (IC.out).mono ?_
  rintro e w1 ⟨r, rfl, HR, HM⟩
  go_wp2
  go_ret
  exact ⟨ret_bool (HA.out r HR.out), HM⟩
end Go.Proofs.Ythbannpmfdflaaa

