/-
  Texts of this claim, put together: RChips, RBurn, VerP, Funcs, Legal.
-/
import Derived.Test.YtdnoeaoelgehcaaGreatK06
import Derived.Test.YtdnoeaoelgehcaaGreatK07
import Derived.Test.YtdnoeaoelgehcaaGreatK12
import Derived.StillTailTactics
import Derived.Deep.QuietTactic
import Derived.BigQuiet
import Derived.Deep.RegionWith
import Derived.Test.YtdnoeaoelgehcaaGreatK01
import Derived.WalkKit
import Derived.BigRegion
import Derived.Test.YtdnoeaoelgehcaaGreatK11
/-! ref08.Between; the error of a divisor: ref17.Check. -/
namespace Go.Proofs.YtdnoeaoelgehcaaGreat
open Go.RowKit

set_option maxRecDepth 100000 in
set_option maxHeartbeats 2000000 in
/-- ref08.Between -/
theorem between_any (n : Int) (A : Option Addr) (c : Nat) (es : List E3) (hn : es.length ≤ 1048576) (a b : Int) (w : World) (h : Reads w w.heap.size 3 A es.length (edgeCells es)) :
    Calls Tryz.prog 52 #[.agg #[.int .i64 n, .slice A es.length c], .int .i64 a, .int .i64 b] w fun e w' => e = .returned (.int .i64 (btw es a b)) ∧ Below w.heap.size w w' := by
  obtain ⟨r, hr⟩ : ∃ r, btw es a b = r := ⟨_, rfl⟩
  rw [hr]
  have HR := Lib.hid hr
  clear hr
  rcases Int.lt_trichotomy a b with hab | rfl | hab
  · have hba : ¬ b < a := by omega
    go_enter Tryz.func52, Tryz.ntmps52
    go_wp2
    go_loopw [7] (fun i wr => ∃ k : Nat, k ≤ es.length ∧ i = .int .i64 k ∧ Below w.heap.size w wr ∧ Blk wr w.heap.size 24 #[.int .i64 n, .slice A es.length c] ∧ Hid (btw es a b = btw (es.drop k) a b)) (fun i _ => es.length - (intOf i).toNat)
    case atStart => exact ⟨0, by omega, rfl, (Below.refl _ _).alloc (Nat.le_refl _) _, Blk.new _ _ _, by simp [Hid]⟩
    case round =>
      obtain ⟨k, hk, rfl, hbel, g1, HS⟩ := hrel
      have c1 := g1.cell 1
      have hsz := hbel.size
      have hlt0 := g1.lt
      by_cases hlt : k < es.length
      · obtain ⟨⟨x, y, m⟩, hx⟩ := get_of_lt hlt
        have hi : (k : Int) < (es.length : Int) := by omega
        have hd := btw_drop hx a b
        rw [show min a b = a from by omega, show max a b = b from by omega] at hd
        dsimp only at hd
        obtain ⟨bb, off, rfl, hb, q1, q2, q3⟩ := (h.below hbel).edge hx
        have G1 := g1.alloc (.cells #[.int .i64 x, .int .i64 y, .int .i64 m] 83)
        dsimp only at q1 q2 q3
        have HB := Lib.hid (hbel.alloc (Nat.le_trans (by simp) hsz) (.cells #[.int .i64 x, .int .i64 y, .int .i64 m] 83))
        clear hx h hbel
        by_cases h1 : x = a
        · by_cases h2 : y = b
          · rw [if_pos ⟨h1, h2⟩] at hd
            have HD := Lib.hid hd
            have e1 : (x == a) = true := by simpa using h1
            have e2 : (y == b) = true := by simpa using h2
            clear hd h1 h2
            go_wp2
            go_ret
            exact ⟨ret_int (by rw [← HR.out, HS.out, HD.out]), HB.out⟩
          · rw [if_neg (fun hc => h2 hc.2)] at hd
            have HD := Lib.hid hd
            have e1 : (x == a) = true := by simpa using h1
            have e2 : (y == b) = false := by simpa using h2
            clear hd h1 h2
            go_wp2
            go_roundw
            case rel => exact ⟨k + 1, by omega, by go_num, HB.out, G1, by rw [Hid, HS.out, HD.out]⟩
            case measure => simp [intOf]; omega
        · rw [if_neg (fun hc => h1 hc.1)] at hd
          have HD := Lib.hid hd
          have e1 : (x == a) = false := by simpa using h1
          clear hd h1
          go_wp2
          go_roundw
          case rel => exact ⟨k + 1, by omega, by go_num, HB.out, G1, by rw [Hid, HS.out, HD.out]⟩
          case measure => simp [intOf]; omega
      · go_wp2
        go_ret
        refine ⟨ret_int ?_, hbel⟩
        have e : btw es a b = 0 := by rw [HS.out, List.drop_eq_nil_of_le (by omega)]; rfl
        rw [← HR.out, e]
  · go_enter Tryz.func52, Tryz.ntmps52
    go_wp2
    go_loopw [7] (fun i wr => ∃ k : Nat, k ≤ es.length ∧ i = .int .i64 k ∧ Below w.heap.size w wr ∧ Blk wr w.heap.size 24 #[.int .i64 n, .slice A es.length c] ∧ Hid (btw es a a = btw (es.drop k) a a)) (fun i _ => es.length - (intOf i).toNat)
    case atStart => exact ⟨0, by omega, rfl, (Below.refl _ _).alloc (Nat.le_refl _) _, Blk.new _ _ _, by simp [Hid]⟩
    case round =>
      obtain ⟨k, hk, rfl, hbel, g1, HS⟩ := hrel
      have c1 := g1.cell 1
      have hsz := hbel.size
      have hlt0 := g1.lt
      by_cases hlt : k < es.length
      · obtain ⟨⟨x, y, m⟩, hx⟩ := get_of_lt hlt
        have hi : (k : Int) < (es.length : Int) := by omega
        have hd := btw_drop hx a a
        rw [show min a a = a from by omega, show max a a = a from by omega] at hd
        dsimp only at hd
        obtain ⟨bb, off, rfl, hb, q1, q2, q3⟩ := (h.below hbel).edge hx
        have G1 := g1.alloc (.cells #[.int .i64 x, .int .i64 y, .int .i64 m] 83)
        dsimp only at q1 q2 q3
        have HB := Lib.hid (hbel.alloc (Nat.le_trans (by simp) hsz) (.cells #[.int .i64 x, .int .i64 y, .int .i64 m] 83))
        clear hx h hbel
        by_cases h1 : x = a
        · by_cases h2 : y = a
          · rw [if_pos ⟨h1, h2⟩] at hd
            have HD := Lib.hid hd
            have e1 : (x == a) = true := by simpa using h1
            have e2 : (y == a) = true := by simpa using h2
            clear hd h1 h2
            go_wp2
            go_ret
            exact ⟨ret_int (by rw [← HR.out, HS.out, HD.out]), HB.out⟩
          · rw [if_neg (fun hc => h2 hc.2)] at hd
            have HD := Lib.hid hd
            have e1 : (x == a) = true := by simpa using h1
            have e2 : (y == a) = false := by simpa using h2
            clear hd h1 h2
            go_wp2
            go_roundw
            case rel => exact ⟨k + 1, by omega, by go_num, HB.out, G1, by rw [Hid, HS.out, HD.out]⟩
            case measure => simp [intOf]; omega
        · rw [if_neg (fun hc => h1 hc.1)] at hd
          have HD := Lib.hid hd
          have e1 : (x == a) = false := by simpa using h1
          clear hd h1
          go_wp2
          go_roundw
          case rel => exact ⟨k + 1, by omega, by go_num, HB.out, G1, by rw [Hid, HS.out, HD.out]⟩
          case measure => simp [intOf]; omega
      · go_wp2
        go_ret
        refine ⟨ret_int ?_, hbel⟩
        have e : btw es a a = 0 := by rw [HS.out, List.drop_eq_nil_of_le (by omega)]; rfl
        rw [← HR.out, e]
  · have hba : ¬ a < b := by omega
    go_enter Tryz.func52, Tryz.ntmps52
    go_wp2
    go_loopw [7] (fun i wr => ∃ k : Nat, k ≤ es.length ∧ i = .int .i64 k ∧ Below w.heap.size w wr ∧ Blk wr w.heap.size 24 #[.int .i64 n, .slice A es.length c] ∧ Hid (btw es a b = btw (es.drop k) a b)) (fun i _ => es.length - (intOf i).toNat)
    case atStart => exact ⟨0, by omega, rfl, (Below.refl _ _).alloc (Nat.le_refl _) _, Blk.new _ _ _, by simp [Hid]⟩
    case round =>
      obtain ⟨k, hk, rfl, hbel, g1, HS⟩ := hrel
      have c1 := g1.cell 1
      have hsz := hbel.size
      have hlt0 := g1.lt
      by_cases hlt : k < es.length
      · obtain ⟨⟨x, y, m⟩, hx⟩ := get_of_lt hlt
        have hi : (k : Int) < (es.length : Int) := by omega
        have hd := btw_drop hx a b
        rw [show min a b = b from by omega, show max a b = a from by omega] at hd
        dsimp only at hd
        obtain ⟨bb, off, rfl, hb, q1, q2, q3⟩ := (h.below hbel).edge hx
        have G1 := g1.alloc (.cells #[.int .i64 x, .int .i64 y, .int .i64 m] 83)
        dsimp only at q1 q2 q3
        have HB := Lib.hid (hbel.alloc (Nat.le_trans (by simp) hsz) (.cells #[.int .i64 x, .int .i64 y, .int .i64 m] 83))
        clear hx h hbel
        by_cases h1 : x = b
        · by_cases h2 : y = a
          · rw [if_pos ⟨h1, h2⟩] at hd
            have HD := Lib.hid hd
            have e1 : (x == b) = true := by simpa using h1
            have e2 : (y == a) = true := by simpa using h2
            clear hd h1 h2
            go_wp2
            go_ret
            exact ⟨ret_int (by rw [← HR.out, HS.out, HD.out]), HB.out⟩
          · rw [if_neg (fun hc => h2 hc.2)] at hd
            have HD := Lib.hid hd
            have e1 : (x == b) = true := by simpa using h1
            have e2 : (y == a) = false := by simpa using h2
            clear hd h1 h2
            go_wp2
            go_roundw
            case rel => exact ⟨k + 1, by omega, by go_num, HB.out, G1, by rw [Hid, HS.out, HD.out]⟩
            case measure => simp [intOf]; omega
        · rw [if_neg (fun hc => h1 hc.1)] at hd
          have HD := Lib.hid hd
          have e1 : (x == b) = false := by simpa using h1
          clear hd h1
          go_wp2
          go_roundw
          case rel => exact ⟨k + 1, by omega, by go_num, HB.out, G1, by rw [Hid, HS.out, HD.out]⟩
          case measure => simp [intOf]; omega
      · go_wp2
        go_ret
        refine ⟨ret_int ?_, hbel⟩
        have e : btw es a b = 0 := by rw [HS.out, List.drop_eq_nil_of_le (by omega)]; rfl
        rw [← HR.out, e]

set_option maxHeartbeats 400000 in
theorem rin_any (k : Int) (w : World) :
    Calls Tryz.prog 140 #[.int .i64 k] w fun e w' => e = .returned (.bool (chipB k)) ∧ w = w' := by
  go_enter Tryz.func140, Tryz.ntmps140
  go_wp2
  all_goals (go_ret; exact ⟨by simp only [chipB]; simp [*]; try omega, rfl⟩)
set_option maxHeartbeats 1000000 in
/-- ref17.Check -/
theorem rdcheck_any (A : Option Addr) (c : Nat) (cs : List Int) (hm : cs.length ≤ 1048576) (n : Int) (w : World) (h : Reads w w.heap.size 1 A cs.length (ints cs)) :
    Calls Tryz.prog 96 #[.slice A cs.length c, .int .i64 n] w fun e w' => e = .returned (.int .i64 (divErr cs n)) ∧ w = w' := by
  by_cases h1 : n < 1
  · have hd : divErr cs n = 2 := by unfold divErr; rw [if_pos (.inl h1)]
    rw [hd]
    go_enter Tryz.func96, Tryz.ntmps96
    go_wp2
    go_ret
    exact ⟨rfl, rfl⟩
  by_cases h2 : 12 < n
  · have hd : divErr cs n = 2 := by unfold divErr; rw [if_pos (.inr h2)]
    rw [hd]
    go_enter Tryz.func96, Tryz.ntmps96
    go_wp2
    go_ret
    exact ⟨rfl, rfl⟩
  by_cases hl : (cs.length : Int) = n
  · have hn : ¬ (n < 1 ∨ 12 < n) := by omega
    subst hl
    have hb : ((cs.length : Int) != (cs.length : Int)) = false := by simp
    have HE := Lib.hid (fun k x hx hb => divErr_at (cs := cs) (k := k) (x := x) hn rfl hx hb)
    have HF := Lib.hid (divErr_end (cs := cs) hn rfl)
    obtain ⟨r, hr⟩ : ∃ r, divErr cs cs.length = r := ⟨_, rfl⟩
    rw [hr] at HE HF ⊢
    clear hn hr
    go_enter Tryz.func96, Tryz.ntmps96
    go_wp2
    go_loop [5] (fun i => ∃ k : Nat, k ≤ cs.length ∧ i = .int .i64 k ∧ Hid ((cs.take k).all chipB = true)) (fun i => cs.length - (intOf i).toNat)
    case atStart => exact ⟨0, by omega, rfl, by simp [Hid]⟩
    case round =>
      obtain ⟨k, hk, rfl, HS⟩ := hrel
      by_cases hlt : k < cs.length
      · obtain ⟨x, hx⟩ := get_of_lt hlt
        obtain ⟨b, off, rfl, hb', hcell⟩ := h.at_ (ints_at hx)
        have hi : (k : Int) < (cs.length : Int) := by omega
        have HX := Lib.hid hx
        clear hx h
        cases hin : chipB x
        · obtain rfl := HE.out k x HX.out hin
          go_wp2_with (go_at_call 140; refine (rin_any _ _).mono ?_; rintro e w' ⟨rfl, rfl⟩)
          go_ret
          exact ⟨rfl, rfl⟩
        · have HN := Lib.hid (all_snoc HX.out HS.out hin)
          go_wp2_with (go_at_call 140; refine (rin_any _ _).mono ?_; rintro e w' ⟨rfl, rfl⟩)
          go_round
          case rel => exact ⟨k + 1, by omega, by go_num, HN.out⟩
          case measure => simp [intOf]; omega
      · obtain rfl : k = cs.length := by omega
        obtain rfl := HF.out HS.out
        go_wp2
        go_ret
        exact ⟨rfl, rfl⟩
  · have hd : divErr cs n = 8 := by unfold divErr; rw [if_neg (by omega), if_pos hl]
    have hb : ((cs.length : Int) != n) = true := by simpa using hl
    rw [hd]
    clear hl hd
    go_enter Tryz.func96, Tryz.ntmps96
    go_wp2
    go_ret
    exact ⟨rfl, rfl⟩
end Go.Proofs.YtdnoeaoelgehcaaGreat

/-! The reference's fire: ref08.Holds, ref23.Joins, ref23.ready, ref23.Burnt, ref23.Unburnt. -/
namespace Go.Proofs.YtdnoeaoelgehcaaGreat
open Go.RowKit

def natsI (l : List Nat) : List Int := l.map fun u : Nat => (u : Int)
theorem natsI_at {l : List Nat} {k x : Nat} (h : l[k]? = some x) : (natsI l)[k]? = some (x : Int) := by simp [natsI, h]
theorem natsI_length (l : List Nat) : (natsI l).length = l.length := by simp [natsI]
theorem natsI_snoc (l : List Nat) (x : Nat) : natsI (l ++ [x]) = natsI l ++ [(x : Int)] := by simp [natsI]
theorem natsI_mem {l : List Nat} {v : Nat} : ((v : Int) ∈ natsI l) ↔ v ∈ l := by
  unfold natsI; rw [List.mem_map]
  constructor
  · rintro ⟨u, hu, e⟩; have : u = v := by omega
    exact this ▸ hu
  · intro h; exact ⟨v, h, rfl⟩

set_option maxHeartbeats 1000000 in
theorem holds_any (A : Option Addr) (c : Nat) (xs : List Int) (hn : xs.length ≤ 1048576) (v : Int) (w : World) (h : Reads w w.heap.size 1 A xs.length (ints xs)) :
    Calls Tryz.prog 99 #[.slice A xs.length c, .int .i64 v] w fun e w' => e = .returned (.bool (decide (v ∈ xs))) ∧ w = w' := by
  obtain ⟨r, hr⟩ : ∃ r, decide (v ∈ xs) = r := ⟨_, rfl⟩
  rw [hr]
  have HR := Lib.hid hr
  clear hr
  go_enter Tryz.func99, Tryz.ntmps99
  go_wp2
  go_loop [5] (fun i => ∃ k : Nat, k ≤ xs.length ∧ i = .int .i64 k ∧ Hid (v ∉ xs.take k)) (fun i => xs.length - (intOf i).toNat)
  case atStart => exact ⟨0, by omega, rfl, by simp [Hid]⟩
  case round =>
    obtain ⟨k, hk, rfl, HS⟩ := hrel
    by_cases hlt : k < xs.length
    · obtain ⟨x, hx⟩ := get_of_lt hlt
      obtain ⟨b, off, rfl, hb, hcell⟩ := h.at_ (ints_at hx)
      have hi : (k : Int) < (xs.length : Int) := by omega
      have htk := take_snoc hx
      by_cases hv : x = v
      · have e : (x == v) = true := by simpa using hv
        have HT : Hid (decide (v ∈ xs) = true) := by
          rw [Hid, decide_eq_true_eq, ← hv]; exact List.mem_of_getElem? hx
        clear hx htk hv
        go_wp2
        go_ret
        exact ⟨ret_bool (by rw [← HR.out, HT.out]), rfl⟩
      · have e : (x == v) = false := by simpa using hv
        have HN : Hid (v ∉ xs.take (k + 1)) := by
          rw [htk, Hid, List.mem_append]
          rintro (hc | hc)
          · exact HS.out hc
          · exact hv (List.mem_singleton.1 hc).symm
        clear hx htk hv
        go_wp2
        go_round
        case rel => exact ⟨k + 1, by omega, by go_num, HN⟩
        case measure => simp [intOf]; omega
    · obtain rfl : k = xs.length := by omega
      rw [List.take_length] at HS
      go_wp2
      go_ret
      refine ⟨ret_bool ?_, rfl⟩
      rw [← HR.out, decide_eq_false HS.out]

set_option maxRecDepth 100000 in
set_option maxHeartbeats 2000000 in
theorem jns_any (n : Int) (A : Option Addr) (c : Nat) (es : List E3) (hn : es.length ≤ 1048576) (N : Int) (hok : ∀ e ∈ es, okE N e) (v : Nat) (B : Option Addr) (d : Nat) (l : List Nat) (hl : l.length ≤ 100) (w : World) (h : Reads w w.heap.size 3 A es.length (edgeCells es)) (h' : Reads w w.heap.size 1 B l.length (ints (natsI l))) :
    Calls Tryz.prog 143 #[.agg #[.int .i64 n, .slice A es.length c], .int .i64 v, .slice B l.length d] w fun e w' => e = .returned (.int .i64 (joinsN es v l)) ∧ Below w.heap.size w w' := by
  have HO := Lib.hid hok
  have g0 := Blk.new w 24 #[.int .i64 n, .slice A es.length c]
  clear hok
  go_enter Tryz.func143, Tryz.ntmps143
  go_wp2
  go_loopw [7, 8] (fun s i wr => ∃ (k : Nat) (x : Int), k ≤ l.length ∧ i = .int .i64 k ∧ s = .int .i64 x ∧ 0 ≤ x ∧ x ≤ 50 * k ∧ Hid (joinsN es v (l.take k) = x) ∧ Below w.heap.size w wr ∧ Blk wr w.heap.size 24 #[.int .i64 n, .slice A es.length c]) (fun _ i _ => l.length - (intOf i).toNat)
  case atStart => exact ⟨0, 0, by omega, rfl, rfl, by omega, by omega, rfl, (Below.refl _ _).alloc (Nat.le_refl _) _, g0⟩
  case round =>
    obtain ⟨k, x, hk, rfl, rfl, hx0, hx1, HS, hbel, g1⟩ := hrel
    clear g0
    have hsz := hbel.size
    by_cases hlt : k < l.length
    · obtain ⟨u, hu⟩ := get_of_lt hlt
      obtain ⟨b, off, rfl, hb, hcell⟩ := (h'.below hbel).at_ (ints_at (natsI_at hu))
      have hi : (k : Int) < (l.length : Int) := by omega
      have hj := joinsN_snoc es v (l.take k) u
      rw [← take_snoc hu, HS.out] at hj
      have hbd := btw_bd HO.out (v : Int) (u : Int)
      have BC := Lib.hid (between_any n A c es hn v u wr.drew (by exact (h.below hbel).more hsz))
      obtain ⟨y, hy⟩ : ∃ y, btw es v u = y := ⟨_, rfl⟩
      rw [hy] at hj hbd BC
      have HJ := Lib.hid hj
      have c0 := g1.cell 0
      have c1 := g1.cell 1
      clear hj hy hu
      go_wp2
      go_region_with (go_at_call 52; refine (BC.out).mono ?_; rintro e w' ⟨rfl, hb'⟩)
      all_goals (
        have hb2 : Below wr.heap.size wr w' := (Below.refl _ _).drew.trans hb'
        go_wp2
        go_roundw
        case rel => exact ⟨k + 1, x + y, by omega, by go_num, rfl, by omega, by omega, HJ.out, hbel.trans (hb2.mono hsz), g1.next hb2⟩
        case measure => simp [intOf]; omega)
    · obtain rfl : k = l.length := by omega
      rw [List.take_length] at HS
      go_wp2
      go_ret
      exact ⟨ret_int (by rw [HS.out]), hbel⟩

end Go.Proofs.YtdnoeaoelgehcaaGreat

/-! Plain: what proves that a configuration is superstable; the part of a slice. -/
namespace Go.Proofs.YtdnoeaoelgehcaaGreat
open Go.RowKit

theorem Reads.from_ {w : World} {B b off : Nat} {xs : List Int} (h : Reads w B 1 (some ⟨b, off, none⟩) xs.length (ints xs)) (k : Nat) (hk : k < xs.length) : Reads w B 1 (some ⟨b, off + k, none⟩) (xs.length - k) (ints (xs.drop k)) := by
  refine ⟨by simp [ints], fun _ => ?_⟩
  obtain ⟨b', off', hA, hb, hc⟩ := h.2 (by omega)
  injection hA with hA; injection hA with e1 e2; subst e1 e2
  refine ⟨b, off + k, rfl, hb, fun j v hv => ?_⟩
  rw [show off + k + j = off + (k + j) from by omega]
  exact hc (k + j) v (by rw [← hv]; simp [ints])
theorem Reads.upto {w : World} {B b off : Nat} {xs : List Int} (h : Reads w B 1 (some ⟨b, off, none⟩) xs.length (ints xs)) (k : Nat) (hk : k < xs.length) : Reads w B 1 (some ⟨b, off, none⟩) k (ints (xs.take k)) := by
  refine ⟨by simp [ints]; omega, fun _ => ?_⟩
  obtain ⟨b', off', hA, hb, hc⟩ := h.2 (by omega)
  injection hA with hA; injection hA with e1 e2; subst e1 e2
  refine ⟨b, off, rfl, hb, fun j v hv => hc j v ?_⟩
  have hj : j < k := by
    have := (List.getElem?_eq_some_iff.1 hv).1
    simp [ints] at this; omega
  rw [← hv]
  simp [ints, List.getElem?_take_of_lt hj]

/-- The error of a list that is to rename the numbers below n. -/
def renFrom (n : Int) : List Int → List Int → Int
  | _, [] => 0
  | s, x :: r => if x < 0 ∨ n ≤ x then 2 else if x ∈ s then 7 else renFrom n (s ++ [x]) r
def renErr (n : Int) (xs : List Int) : Int := if (xs.length : Int) ≠ n then 8 else renFrom n [] xs
theorem renFrom_at {n : Int} {xs : List Int} {k : Nat} {x : Int} (h : xs[k]? = some x) :
    renFrom n (xs.take k) (xs.drop k) = if x < 0 ∨ n ≤ x then 2 else if x ∈ xs.take k then 7 else renFrom n (xs.take (k + 1)) (xs.drop (k + 1)) := by
  obtain ⟨l1, e1⟩ := List.getElem?_eq_some_iff.1 h
  rw [List.drop_eq_getElem_cons l1, e1, renFrom, take_snoc h]
theorem renFrom_end (n : Int) (xs : List Int) : renFrom n (xs.take xs.length) (xs.drop xs.length) = 0 := by rw [List.drop_length]; rfl
theorem renFrom_zero {n : Int} : ∀ {r s : List Int}, renFrom n s r = 0 → (∀ x ∈ r, 0 ≤ x ∧ x < n ∧ x ∉ s) ∧ r.Nodup
  | [], _, _ => ⟨by simp, List.nodup_nil⟩
  | x :: r, s, h => by
    rw [renFrom] at h
    split at h
    · omega
    · split at h
      · omega
      · rename_i h1 h2
        obtain ⟨h3, h4⟩ := renFrom_zero h
        refine ⟨fun y hy => ?_, List.nodup_cons.2 ⟨fun hx => (h3 x hx).2.2 (by simp), h4⟩⟩
        rcases List.mem_cons.1 hy with rfl | hy
        · exact ⟨by omega, by omega, h2⟩
        · have := h3 y hy
          exact ⟨this.1, this.2.1, fun hc => this.2.2 (by simp [hc])⟩
/-- A list that renames is one of natural numbers, each below n once. -/
theorem ren_nats {n : Nat} {xs : List Int} (h : renErr n xs = 0) : ∃ l : List Nat, xs = natsI l ∧ LOk n l ∧ l.length = n := by
  unfold renErr at h
  split at h
  · omega
  · rename_i hl
    obtain ⟨h1, h2⟩ := renFrom_zero h
    refine ⟨xs.map Int.toNat, ?_, ⟨?_, ?_⟩, by rw [List.length_map]; omega⟩
    · unfold natsI
      rw [List.map_map]
      have hid : xs.map ((fun u : Nat => (u : Int)) ∘ Int.toNat) = xs.map id := List.map_congr_left fun x hx => by
        have := h1 x hx
        simp only [Function.comp, id]
        omega
      rw [hid, List.map_id]
    · rw [List.nodup_iff_pairwise_ne, List.pairwise_map]
      refine List.Pairwise.imp_of_mem ?_ (List.nodup_iff_pairwise_ne.1 h2)
      intro a b ha hb hab
      have := h1 a ha
      have := h1 b hb
      omega
    · intro u hu
      obtain ⟨x, hx, rfl⟩ := List.mem_map.1 hu
      have := h1 x hx
      omega

/-- Does each vertex of a list burn when the earlier ones are burnt? -/
def provFrom (es : List E3) (cs : List Int) : List Nat → List Nat → Bool
  | _, [] => true
  | s, x :: r => decide (cs.getD x 0 < joinsN es x s) && provFrom es cs (s ++ [x]) r
def provL (es : List E3) (cs : List Int) (l : List Nat) : Bool := provFrom es cs (l.take 1) (l.drop 1)
theorem provFrom_at {es : List E3} {cs : List Int} {l : List Nat} {k x : Nat} (h : l[k]? = some x) :
    provFrom es cs (l.take k) (l.drop k) = (decide (cs.getD x 0 < joinsN es x (l.take k)) && provFrom es cs (l.take (k + 1)) (l.drop (k + 1))) := by
  obtain ⟨l1, e1⟩ := List.getElem?_eq_some_iff.1 h
  rw [List.drop_eq_getElem_cons l1, e1, provFrom, take_snoc h]
/-- What Verify returns. -/
def verErr (n : Int) (es : List E3) (q : Int) (cs xs : List Int) : Int := if burnErr n es q cs ≠ 0 then burnErr n es q cs else renErr n xs
def verB (n : Int) (es : List E3) (q : Int) (cs xs : List Int) : Bool := if verErr n es q cs xs = 0 then decide (xs.getD 0 0 = q) && provL es cs (xs.map Int.toNat) else false
theorem nats_toNat (l : List Nat) : (natsI l).map Int.toNat = l := by
  unfold natsI
  rw [List.map_map]
  have : l.map (Int.toNat ∘ fun u : Nat => (u : Int)) = l.map id := List.map_congr_left fun _ _ => rfl
  rw [this, List.map_id]
theorem natsI_getD (l : List Nat) (k : Nat) : (natsI l).getD k 0 = ((l.getD k 0 : Nat) : Int) := by
  simp only [List.getD_eq_getElem?_getD, natsI, List.getElem?_map]
  cases l[k]? <;> rfl
theorem cat_fresh {es : List E3} {cs : List Int} {l : List Nat} {v : Nat} (h : v ∉ l) : catL es cs l v = decide (cs.getD v 0 < joinsN es v l) := by simp [catL, h]
end Go.Proofs.YtdnoeaoelgehcaaGreat

/-! slices.IndexFunc and ContainsFunc on ints, with a function that has captured one variable. -/
namespace Go.Proofs.YtdnoeaoelgehcaaGreat
open Go.RowKit

end Go.Proofs.YtdnoeaoelgehcaaGreat

/-! Package firing: may a set fire legally? -/
/-! Sets of vertices: graph.Subset; slices.Index and Contains on ints; firing.given and subset. -/
namespace Go.Proofs.YtdnoeaoelgehcaaGreat
open Go.RowKit

/-- The error of a set of vertices. -/
def setFrom (n : Int) : Option Int → List Int → Int
  | _, [] => 0
  | p, x :: xs => if vertB n x = false then 2 else match p with
    | none => setFrom n (some x) xs
    | some y => if x ≤ y then 9 else setFrom n (some x) xs
def prevI (xs : List Int) (k : Nat) : Option Int := if k = 0 then none else xs[k - 1]?
theorem setFrom_drop {n : Int} {xs : List Int} {k : Nat} {x : Int} (h : xs[k]? = some x) :
    setFrom n (prevI xs k) (xs.drop k) = if vertB n x = false then 2 else match prevI xs k with
      | none => setFrom n (prevI xs (k + 1)) (xs.drop (k + 1))
      | some y => if x ≤ y then 9 else setFrom n (prevI xs (k + 1)) (xs.drop (k + 1)) := by
  obtain ⟨l1, e1⟩ := List.getElem?_eq_some_iff.1 h
  have hp : prevI xs (k + 1) = some x := by simp [prevI, h]
  rw [List.drop_eq_getElem_cons l1, e1, setFrom.eq_def, hp]
def setErr (n : Int) (xs : List Int) : Int := setFrom n none xs
/-- .. of a graph with a set of vertices. -/
def subErr (n : Int) (es : List E3) (xs : List Int) : Int := if checkG n es ≠ 0 then checkG n es else setErr n xs

set_option maxHeartbeats 1000000 in
theorem index_any (A : Option Addr) (c : Nat) (xs : List Int) (hn : xs.length ≤ 1048576) (v : Int) (w : World) (h : Reads w w.heap.size 1 A xs.length (ints xs)) :
    Calls Tryz.prog 109 #[.slice A xs.length c, .int .i64 v] w fun e w' => ∃ r : Int, e = .returned (.int .i64 r) ∧ Hid (0 ≤ r ↔ v ∈ xs) ∧ w = w' := by
  go_enter Tryz.func109, Tryz.ntmps109
  go_wp2
  go_loop [8] (fun i => ∃ k : Nat, k ≤ xs.length ∧ i = .int .i64 k ∧ Hid (v ∉ xs.take k)) (fun i => xs.length - (intOf i).toNat)
  case atStart => exact ⟨0, by omega, rfl, by simp [Hid]⟩
  case round =>
    obtain ⟨k, hk, rfl, HS⟩ := hrel
    by_cases hlt : k < xs.length
    · obtain ⟨x, hx⟩ := get_of_lt hlt
      obtain ⟨b, off, rfl, hb, hcell⟩ := h.at_ (ints_at hx)
      have hi : (k : Int) < (xs.length : Int) := by omega
      have htk := take_snoc hx
      by_cases hv : v = x
      · have e : (v == x) = true := by simpa using hv
        have HT : Hid (v ∈ xs) := by rw [hv]; exact List.mem_of_getElem? hx
        clear hx htk hv
        go_wp2
        go_ret
        exact ⟨k, rfl, ⟨fun _ => HT.out, fun _ => by omega⟩, rfl⟩
      · have e : (v == x) = false := by simpa using hv
        have HN : Hid (v ∉ xs.take (k + 1)) := by
          rw [htk, Hid, List.mem_append]
          rintro (hc | hc)
          · exact HS.out hc
          · exact hv (List.mem_singleton.1 hc)
        clear hx htk hv
        go_wp2
        go_round
        case rel => exact ⟨k + 1, by omega, by go_num, HN⟩
        case measure => simp [intOf]; omega
    · obtain rfl : k = xs.length := by omega
      rw [List.take_length] at HS
      go_wp2
      go_ret
      exact ⟨-1, rfl, ⟨fun h => absurd h (by decide), fun h => absurd h HS.out⟩, rfl⟩
set_option maxHeartbeats 1000000 in
theorem contains_any (A : Option Addr) (c : Nat) (xs : List Int) (hn : xs.length ≤ 1048576) (v : Int) (w : World) (h : Reads w w.heap.size 1 A xs.length (ints xs)) :
    Calls Tryz.prog 67 #[.slice A xs.length c, .int .i64 v] w fun e w' => e = .returned (.bool (decide (v ∈ xs))) ∧ w = w' := by
  have IC := Lib.hid (index_any A c xs hn v w h)
  go_enter Tryz.func67, Tryz.ntmps67
  go_wp2_with fail
  refine (IC.out).mono ?_
  rintro e w1 ⟨r, rfl, HR, rfl⟩
  go_wp2
  go_ret
  exact ⟨ret_bool (by rw [Bool.eq_iff_iff]; simp [HR.out]), rfl⟩

/-- The error of a graph with a divisor on its vertices. -/
def givErr (n : Int) (es : List E3) (cs : List Int) : Int := if checkG n es ≠ 0 then checkG n es else divErr cs n
end Go.Proofs.YtdnoeaoelgehcaaGreat

namespace Go.Proofs.YtdnoeaoelgehcaaGreat
open Go.RowKit

/-- The vertex of a set from which an edge leads out of the set. -/
def goesE (S : List Int) (e : E3) : Option Int := if e.1 ∈ S ∧ e.2.1 ∉ S then some e.1 else if e.2.1 ∈ S ∧ e.1 ∉ S then some e.2.1 else none
def lostE : List E3 → List Int → Int → Int
  | [], _, _ => 0
  | e :: es, S, v => (if goesE S e = some v then e.2.2 else 0) + lostE es S v
def leavesE (es : List E3) (S : List Int) : Bool := es.any fun e => (goesE S e).isSome
theorem lostE_append (es fs : List E3) (S : List Int) (v : Int) : lostE (es ++ fs) S v = lostE es S v + lostE fs S v := by
  induction es with
  | nil => simp [lostE]
  | cons e es ih => rw [List.cons_append, lostE, lostE, ih]; omega
theorem lostE_take {es : List E3} {k : Nat} {e : E3} (h : es[k]? = some e) (S : List Int) (v : Int) : lostE (es.take (k + 1)) S v = lostE (es.take k) S v + if goesE S e = some v then e.2.2 else 0 := by
  rw [take_snoc h, lostE_append, lostE, lostE]; omega
theorem lostE_bd {N : Int} {es : List E3} (h : ∀ e ∈ es, okE N e) (S : List Int) (v : Int) : 0 ≤ lostE es S v ∧ lostE es S v ≤ 50 * es.length := by
  induction es with
  | nil => simp [lostE]
  | cons e es ih =>
    have h1 := h e (by simp)
    have h2 := ih fun x hx => h x (by simp [hx])
    unfold okE at h1
    rw [lostE]
    simp only [List.length_cons]
    split <;> omega
/-- What all vertices lose. -/
def lostL (n : Nat) (es : List E3) (S : List Int) : List Int := (List.range n).map fun v : Nat => lostE es S v
theorem lostL_length (n : Nat) (es : List E3) (S : List Int) : (lostL n es S).length = n := by simp [lostL]
theorem lostL_get {n : Nat} {es : List E3} {S : List Int} {v : Nat} (h : v < n) : (lostL n es S)[v]? = some (lostE es S v) := by
  unfold lostL; rw [List.getElem?_map, List.getElem?_range h]; rfl
theorem lostL_same {n : Nat} {es : List E3} {k : Nat} {e : E3} {S : List Int} (h : es[k]? = some e) (hg : goesE S e = none) : lostL n (es.take (k + 1)) S = lostL n (es.take k) S := by
  unfold lostL
  apply List.map_congr_left
  intro v _
  rw [lostE_take h, hg, if_neg (by simp), Int.add_zero]
theorem lostL_set {n : Nat} {es : List E3} {k : Nat} {e : E3} {S : List Int} {a : Nat} (h : es[k]? = some e) (hg : goesE S e = some (a : Int)) : lostL n (es.take (k + 1)) S = (lostL n (es.take k) S).set a (lostE (es.take k) S a + e.2.2) := by
  apply List.ext_getElem?
  intro i
  rw [List.getElem?_set, lostL_length]
  by_cases hi : i < n
  · rw [lostL_get hi, lostL_get hi, lostE_take h, hg]
    by_cases he : a = i
    · subst he; simp [hi]
    · rw [if_neg he, if_neg (by simp; omega), Int.add_zero]
  · rw [List.getElem?_eq_none (by rw [lostL_length]; omega), List.getElem?_eq_none (by rw [lostL_length]; omega)]
    split <;> (try split) <;> first | rfl | omega
theorem leavesE_take {es : List E3} {k : Nat} {e : E3} (h : es[k]? = some e) (S : List Int) : leavesE (es.take (k + 1)) S = (leavesE (es.take k) S || (goesE S e).isSome) := by
  rw [take_snoc h]; simp [leavesE]

/-- The error of a graph, a divisor and a set. -/
def legErr (n : Int) (es : List E3) (cs S : List Int) : Int := if givErr n es cs ≠ 0 then givErr n es cs else subErr n es S
end Go.Proofs.YtdnoeaoelgehcaaGreat

