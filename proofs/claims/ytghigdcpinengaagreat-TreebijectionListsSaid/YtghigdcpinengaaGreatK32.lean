/-
  Texts of this claim, put together: RForbP, RChips, RCalm, REnumP, RowsD.
-/
import Derived.Test.YtghigdcpinengaaGreatK31
import Derived.Test.YtghigdcpinengaaGreatK09
import Derived.Test.YtghigdcpinengaaGreatK30
import Derived.Deep.RegionHeld3
import Derived.Test.YtghigdcpinengaaGreatK21
import Derived.Test.YtghigdcpinengaaGreatK03
/-! Plain: the greatest forbidden set is what the fire leaves; what is above a recurrent configuration is recurrent. -/
namespace Go.Proofs.YtghigdcpinengaaGreat
open Go.RowKit

/-- What the fire leaves. -/
def worstL (n : Nat) (es : List E3) (cs : List Int) (q : Nat) : List Nat := restL n (recL n es cs q)
theorem full_iff {n q : Nat} {es : List E3} {cs : List Int} (hq : q < n) : (recL n es cs q).length = n ↔ worstL n es cs q = [] := by
  have := rest_len (recL n es cs q) (recL_ok hq)
  unfold worstL
  rw [← List.length_eq_zero_iff]
  omega
/-- What is above a recurrent configuration, and stable, is recurrent. -/
theorem recB_mono {n q : Nat} {es : List E3} (hG : RightG n es) (hq : q < n) {x y : List Int} (h : ∀ i, i < n → x.getD i 0 ≤ y.getD i 0) (hy : stabTo es y q n = true) (hx : recB n es x q = true) : recB n es y q = true := by
  unfold recB at hx ⊢
  rw [Bool.and_eq_true] at hx ⊢
  refine ⟨hy, ?_⟩
  have h1 := of_decide_eq_true hx.2
  refine decide_eq_true ?_
  rw [full_iff hq] at h1 ⊢
  unfold worstL at h1 ⊢
  have hf := fewer_burn (n := n) (q := q) (es := es) (fun a b => (btw_bd hG.ok a b).1) hq (cs := dualL n es x) (ds := dualL n es y) (fun v hv => by rw [dualL_get es x hv, dualL_get es y hv]; have := h v hv; omega)
  apply List.eq_nil_iff_forall_not_mem.2
  intro u hu
  obtain ⟨h2, h3⟩ := mem_rest.1 hu
  apply h3
  refine hf u ?_
  apply Classical.byContradiction
  intro hn
  have := mem_rest.2 ⟨h2, hn⟩
  unfold recL at h1
  rw [h1] at this
  cases this
theorem stabTo_iff {n q : Nat} {es : List E3} {cs : List Int} : stabTo es cs q n = true ↔ ∀ v, v < n → v ≠ q → cs.getD v 0 < valE es v := by
  unfold stabTo
  rw [List.all_eq_true]
  constructor
  · intro h v hv hq
    have := h v (List.mem_range.2 hv)
    rw [decide_eq_false hq, Bool.false_or] at this
    exact of_decide_eq_true this
  · intro h v hv
    by_cases hq : v = q
    · simp [hq]
    · rw [decide_eq_true (h v (List.mem_range.1 hv) hq), Bool.or_true]
end Go.Proofs.YtghigdcpinengaaGreat

/-! ref08.Between; the error of a divisor: ref17.Check. -/
namespace Go.Proofs.YtghigdcpinengaaGreat
open Go.RowKit

set_option maxRecDepth 100000 in
set_option maxHeartbeats 2000000 in
/-- ref08.Between -/
theorem between_any (n : Int) (A : Option Addr) (c : Nat) (es : List E3) (hn : es.length ≤ 1048576) (a b : Int) (w : World) (h : Reads w w.heap.size 3 A es.length (edgeCells es)) :
    Calls Tryz.prog 125 #[.agg #[.int .i64 n, .slice A es.length c], .int .i64 a, .int .i64 b] w fun e w' => e = .returned (.int .i64 (btw es a b)) ∧ Below w.heap.size w w' := by
  obtain ⟨r, hr⟩ : ∃ r, btw es a b = r := ⟨_, rfl⟩
  rw [hr]
  have HR := Lib.hid hr
  clear hr
  rcases Int.lt_trichotomy a b with hab | rfl | hab
  · have hba : ¬ b < a := by omega
    go_enter Tryz.func125, Tryz.ntmps125
    go_wp2
    go_loopw [7] (fun i wr => ∃ k : Nat, k ≤ es.length ∧ i = .int .i64 k ∧ Below w.heap.size w wr ∧ Blk wr w.heap.size 24 #[.int .i64 n, .slice A es.length c] ∧ Hid (btw es a b = btw (es.drop k) a b)) (fun i _ => es.length - (intOf i).toNat)
    case atStart => exact ⟨0, by omega, rfl, (Below.refl _ _).alloc (Nat.le_refl _) _, Blk.new _ _ _, by simp [Hid]⟩
    case round =>
      obtain ⟨k, hk, rfl, hbel, g1, HS⟩ := hrel
      have c1 := g1.cell 1
      have hsz := hbel.size
      have hlt0 := g1.lt
      by_cases hlt : k < es.length
      · obtain ⟨⟨x, y, m⟩, hx⟩ := get_of_lt hlt
        have hi : (k : Int) < (es.length : Int) := by omega
        have hd := btw_drop hx a b
        rw [show min a b = a from by omega, show max a b = b from by omega] at hd
        dsimp only at hd
        obtain ⟨bb, off, rfl, hb, q1, q2, q3⟩ := (h.below hbel).edge hx
        have G1 := g1.alloc (.cells #[.int .i64 x, .int .i64 y, .int .i64 m] 104)
        dsimp only at q1 q2 q3
        have HB := Lib.hid (hbel.alloc (Nat.le_trans (by simp) hsz) (.cells #[.int .i64 x, .int .i64 y, .int .i64 m] 104))
        clear hx h hbel
        by_cases h1 : x = a
        · by_cases h2 : y = b
          · rw [if_pos ⟨h1, h2⟩] at hd
            have HD := Lib.hid hd
            have e1 : (x == a) = true := by simpa using h1
            have e2 : (y == b) = true := by simpa using h2
            clear hd h1 h2
            go_wp2
            go_ret
            exact ⟨ret_int (by rw [← HR.out, HS.out, HD.out]), HB.out⟩
          · rw [if_neg (fun hc => h2 hc.2)] at hd
            have HD := Lib.hid hd
            have e1 : (x == a) = true := by simpa using h1
            have e2 : (y == b) = false := by simpa using h2
            clear hd h1 h2
            go_wp2
            go_roundw
            case rel => exact ⟨k + 1, by omega, by go_num, HB.out, G1, by rw [Hid, HS.out, HD.out]⟩
            case measure => simp [intOf]; omega
        · rw [if_neg (fun hc => h1 hc.1)] at hd
          have HD := Lib.hid hd
          have e1 : (x == a) = false := by simpa using h1
          clear hd h1
          go_wp2
          go_roundw
          case rel => exact ⟨k + 1, by omega, by go_num, HB.out, G1, by rw [Hid, HS.out, HD.out]⟩
          case measure => simp [intOf]; omega
      · go_wp2
        go_ret
        refine ⟨ret_int ?_, hbel⟩
        have e : btw es a b = 0 := by rw [HS.out, List.drop_eq_nil_of_le (by omega)]; rfl
        rw [← HR.out, e]
  · go_enter Tryz.func125, Tryz.ntmps125
    go_wp2
    go_loopw [7] (fun i wr => ∃ k : Nat, k ≤ es.length ∧ i = .int .i64 k ∧ Below w.heap.size w wr ∧ Blk wr w.heap.size 24 #[.int .i64 n, .slice A es.length c] ∧ Hid (btw es a a = btw (es.drop k) a a)) (fun i _ => es.length - (intOf i).toNat)
    case atStart => exact ⟨0, by omega, rfl, (Below.refl _ _).alloc (Nat.le_refl _) _, Blk.new _ _ _, by simp [Hid]⟩
    case round =>
      obtain ⟨k, hk, rfl, hbel, g1, HS⟩ := hrel
      have c1 := g1.cell 1
      have hsz := hbel.size
      have hlt0 := g1.lt
      by_cases hlt : k < es.length
      · obtain ⟨⟨x, y, m⟩, hx⟩ := get_of_lt hlt
        have hi : (k : Int) < (es.length : Int) := by omega
        have hd := btw_drop hx a a
        rw [show min a a = a from by omega, show max a a = a from by omega] at hd
        dsimp only at hd
        obtain ⟨bb, off, rfl, hb, q1, q2, q3⟩ := (h.below hbel).edge hx
        have G1 := g1.alloc (.cells #[.int .i64 x, .int .i64 y, .int .i64 m] 104)
        dsimp only at q1 q2 q3
        have HB := Lib.hid (hbel.alloc (Nat.le_trans (by simp) hsz) (.cells #[.int .i64 x, .int .i64 y, .int .i64 m] 104))
        clear hx h hbel
        by_cases h1 : x = a
        · by_cases h2 : y = a
          · rw [if_pos ⟨h1, h2⟩] at hd
            have HD := Lib.hid hd
            have e1 : (x == a) = true := by simpa using h1
            have e2 : (y == a) = true := by simpa using h2
            clear hd h1 h2
            go_wp2
            go_ret
            exact ⟨ret_int (by rw [← HR.out, HS.out, HD.out]), HB.out⟩
          · rw [if_neg (fun hc => h2 hc.2)] at hd
            have HD := Lib.hid hd
            have e1 : (x == a) = true := by simpa using h1
            have e2 : (y == a) = false := by simpa using h2
            clear hd h1 h2
            go_wp2
            go_roundw
            case rel => exact ⟨k + 1, by omega, by go_num, HB.out, G1, by rw [Hid, HS.out, HD.out]⟩
            case measure => simp [intOf]; omega
        · rw [if_neg (fun hc => h1 hc.1)] at hd
          have HD := Lib.hid hd
          have e1 : (x == a) = false := by simpa using h1
          clear hd h1
          go_wp2
          go_roundw
          case rel => exact ⟨k + 1, by omega, by go_num, HB.out, G1, by rw [Hid, HS.out, HD.out]⟩
          case measure => simp [intOf]; omega
      · go_wp2
        go_ret
        refine ⟨ret_int ?_, hbel⟩
        have e : btw es a a = 0 := by rw [HS.out, List.drop_eq_nil_of_le (by omega)]; rfl
        rw [← HR.out, e]
  · have hba : ¬ a < b := by omega
    go_enter Tryz.func125, Tryz.ntmps125
    go_wp2
    go_loopw [7] (fun i wr => ∃ k : Nat, k ≤ es.length ∧ i = .int .i64 k ∧ Below w.heap.size w wr ∧ Blk wr w.heap.size 24 #[.int .i64 n, .slice A es.length c] ∧ Hid (btw es a b = btw (es.drop k) a b)) (fun i _ => es.length - (intOf i).toNat)
    case atStart => exact ⟨0, by omega, rfl, (Below.refl _ _).alloc (Nat.le_refl _) _, Blk.new _ _ _, by simp [Hid]⟩
    case round =>
      obtain ⟨k, hk, rfl, hbel, g1, HS⟩ := hrel
      have c1 := g1.cell 1
      have hsz := hbel.size
      have hlt0 := g1.lt
      by_cases hlt : k < es.length
      · obtain ⟨⟨x, y, m⟩, hx⟩ := get_of_lt hlt
        have hi : (k : Int) < (es.length : Int) := by omega
        have hd := btw_drop hx a b
        rw [show min a b = b from by omega, show max a b = a from by omega] at hd
        dsimp only at hd
        obtain ⟨bb, off, rfl, hb, q1, q2, q3⟩ := (h.below hbel).edge hx
        have G1 := g1.alloc (.cells #[.int .i64 x, .int .i64 y, .int .i64 m] 104)
        dsimp only at q1 q2 q3
        have HB := Lib.hid (hbel.alloc (Nat.le_trans (by simp) hsz) (.cells #[.int .i64 x, .int .i64 y, .int .i64 m] 104))
        clear hx h hbel
        by_cases h1 : x = b
        · by_cases h2 : y = a
          · rw [if_pos ⟨h1, h2⟩] at hd
            have HD := Lib.hid hd
            have e1 : (x == b) = true := by simpa using h1
            have e2 : (y == a) = true := by simpa using h2
            clear hd h1 h2
            go_wp2
            go_ret
            exact ⟨ret_int (by rw [← HR.out, HS.out, HD.out]), HB.out⟩
          · rw [if_neg (fun hc => h2 hc.2)] at hd
            have HD := Lib.hid hd
            have e1 : (x == b) = true := by simpa using h1
            have e2 : (y == a) = false := by simpa using h2
            clear hd h1 h2
            go_wp2
            go_roundw
            case rel => exact ⟨k + 1, by omega, by go_num, HB.out, G1, by rw [Hid, HS.out, HD.out]⟩
            case measure => simp [intOf]; omega
        · rw [if_neg (fun hc => h1 hc.1)] at hd
          have HD := Lib.hid hd
          have e1 : (x == b) = false := by simpa using h1
          clear hd h1
          go_wp2
          go_roundw
          case rel => exact ⟨k + 1, by omega, by go_num, HB.out, G1, by rw [Hid, HS.out, HD.out]⟩
          case measure => simp [intOf]; omega
      · go_wp2
        go_ret
        refine ⟨ret_int ?_, hbel⟩
        have e : btw es a b = 0 := by rw [HS.out, List.drop_eq_nil_of_le (by omega)]; rfl
        rw [← HR.out, e]

end Go.Proofs.YtghigdcpinengaaGreat

/-! ref08.Valence, ref19.Waiting, ref19.Calm. -/
namespace Go.Proofs.YtghigdcpinengaaGreat
open Go.RowKit

theorem valS_bd {N : Int} {es : List E3} (hok : ∀ e ∈ es, okE N e) (v k : Nat) : 0 ≤ sumTo (fun w => tt es v w) k ∧ sumTo (fun w => tt es v w) k ≤ 50 * k := by
  induction k with
  | zero => simp [sumTo]
  | succ k ih =>
    have := tt_bd hok v k
    rw [sumTo]
    omega
set_option maxRecDepth 100000 in
set_option maxHeartbeats 4000000 in
theorem val08_any (n : Nat) (A : Option Addr) (c : Nat) (es : List E3) (hlen : es.length ≤ 10000) (hG : RightG n es) (v : Nat) (w : World) (h : Reads w w.heap.size 3 A es.length (edgeCells es)) :
    Calls Tryz.prog 122 #[.agg #[.int .i64 n, .slice A es.length c], .int .i64 v] w fun e w' => e = .returned (.int .i64 (valE es v)) ∧ Below w.heap.size w w' := by
  have HSB := Lib.hid (fun k => valS_bd hG.ok v k)
  have HVS : Hid (valE es v = sumTo (fun w => tt es v w) n) := valE_valS hG
  have hn12 : n ≤ 12 := by have := hG.hi; omega
  have HOK := Lib.hid hG.ok
  have g0 := Blk.new w 24 #[.int .i64 n, .slice A es.length c]
  have B0 : Below w.heap.size w (w.alloc (.cells #[.int .i64 n, .slice A es.length c] 24)) := (Below.refl _ _).alloc (Nat.le_refl _) _
  clear hG
  go_enter Tryz.func122, Tryz.ntmps122
  go_wp2_with fail
  go_loopw [5, 6] (fun s i wl => ∃ (k : Nat), i = .int .i64 k ∧ k ≤ n ∧ s = .int .i64 (sumTo (fun w => tt es v w) k) ∧ Hid (Below w.heap.size w wl) ∧ Hid (Blk wl w.heap.size 24 #[.int .i64 n, .slice A es.length c])) (fun _ i _ => n - (intOf i).toNat)
  case atStart => exact ⟨0, rfl, by omega, rfl, B0, g0⟩
  case round =>
    obtain ⟨k, rfl, hk, rfl, HB, HGr⟩ := hrel
    clear g0 B0
    have c0 := HGr.out.cell 0
    have c1 := HGr.out.cell 1
    have hs := HSB.out k
    obtain ⟨x, hx⟩ : ∃ x, sumTo (fun w => tt es v w) k = x := ⟨_, rfl⟩
    have hxs : sumTo (fun w => tt es v w) (k + 1) = x + tt es v k := by rw [sumTo, hx]
    rw [hx] at hs ⊢
    clear hx
    by_cases hlt : k < n
    · have hi : (k : Int) < (n : Int) := by omega
      by_cases hkv : k = v
      · have hne : ((k : Int) != (v : Int)) = false := by simp [hkv]
        have ht : tt es v k = 0 := by unfold tt; rw [if_pos hkv.symm]
        rw [ht, Int.add_zero] at hxs
        have HX := Lib.hid hxs
        clear hxs ht
        go_wp2
        go_roundw
        case rel => exact ⟨k + 1, by go_num, by omega, by rw [HX.out], HB, HGr⟩
        case measure => simp [intOf]; omega
      · have hne : ((k : Int) != (v : Int)) = true := by rw [bne_iff_ne]; omega
        have ht : tt es v k = btw es k v := by rw [tt_comm]; unfold tt; rw [if_neg hkv]
        have hbd := btw_bd HOK.out (k : Int) (v : Int)
        have BC := Lib.hid (between_any n A c es (by omega) k v wr ((h.below HB.out).more HB.out.size))
        rw [ht] at hxs
        obtain ⟨y, hy⟩ : ∃ y, btw es k v = y := ⟨_, rfl⟩
        rw [hy] at hxs hbd BC
        have hw1 : IntKind.i64.wrap (x + y) = x + y := IntWalk.i64_in _ (by omega)
        have HX := Lib.hid hxs
        clear hxs ht hy
        go_wp2_with fail
        refine (BC.out).mono ?_
        rintro e w5 ⟨rfl, b5⟩
        have B5 := Lib.hid (HB.out.trans (b5.mono HB.out.size))
        have G5 := Lib.hid (HGr.out.next b5)
        go_wp2
        go_roundw
        case rel => exact ⟨k + 1, by go_num, by omega, by rw [HX.out], B5, G5⟩
        case measure => simp [intOf]; omega
    · obtain rfl : k = n := by omega
      have hB := HB.out
      have HVX : Hid (valE es v = x) := by rw [Hid, HVS.out]; rw [sumTo] at hxs; omega
      go_wp2
      go_ret
      exact ⟨by rw [HVX.out]; rfl, hB⟩

end Go.Proofs.YtghigdcpinengaaGreat

/-! Plain: lists below a list, in lexicographic order; those with a property that what is more has too. No program is in sight. -/
namespace Go.Proofs.YtghigdcpinengaaGreat

/-- The lists that are found from a list on: fuel f, so the place is n - f. -/
def enumR (rec : List Int → Bool) (top : List Int) (n : Nat) : Nat → List Int → List (List Int)
  | 0, c => if rec c then [c] else []
  | f + 1, c => if rec c then (List.range ((top.getD (n - (f + 1)) 0) + 1).toNat).flatMap fun k : Nat => enumR rec top n f (c.set (n - (f + 1)) (k : Int)) else []
/-- .. from the k-th number on. -/
def remR (rec : List Int → Bool) (top : List Int) (n f : Nat) (c : List Int) (k : Nat) : List (List Int) := ((List.range ((top.getD (n - (f + 1)) 0) + 1).toNat).drop k).flatMap fun k : Nat => enumR rec top n f (c.set (n - (f + 1)) (k : Int))
/-- All lists that go on like this. -/
def extL (top : List Int) (n : Nat) : Nat → List Int → List (List Int)
  | 0, c => [c]
  | f + 1, c => (List.range ((top.getD (n - (f + 1)) 0) + 1).toNat).flatMap fun k : Nat => extL top n f (c.set (n - (f + 1)) (k : Int))
/-- The lists of v numbers below. -/
def belL (top : List Int) : Nat → List (List Int)
  | 0 => [[]]
  | v + 1 => (belL top v).flatMap fun p => (List.range ((top.getD v 0) + 1).toNat).map fun k : Nat => p ++ [(k : Int)]
theorem flat_congr {α β : Type} {f g : α → List β} : ∀ {l : List α}, (∀ a ∈ l, f a = g a) → l.flatMap f = l.flatMap g
  | [], _ => rfl
  | a :: l, h => by rw [List.flatMap_cons, List.flatMap_cons, h a (by simp), flat_congr fun b hb => h b (by simp [hb])]
section
variable {rec : List Int → Bool} {top : List Int} {n f v k : Nat} {c : List Int}
theorem enumR_no (h : rec c = false) : enumR rec top n f c = [] := by
  cases f <;> simp [enumR, h]
theorem enumR_succ (h : rec c = true) : enumR rec top n (f + 1) c = remR rec top n f c 0 := by simp [enumR, remR, h]
theorem remR_step (hv : v + (f + 1) = n) (hk : (k : Int) ≤ top.getD v 0) : remR rec top n f c k = enumR rec top n f (c.set v (k : Int)) ++ remR rec top n f c (k + 1) := by
  unfold remR
  obtain rfl : n - (f + 1) = v := by omega
  rw [List.drop_eq_getElem_cons (by rw [List.length_range]; omega), List.flatMap_cons]
  simp
theorem remR_end (hv : v + (f + 1) = n) (hk : top.getD v 0 < (k : Int)) : remR rec top n f c k = [] := by
  unfold remR
  obtain rfl : n - (f + 1) = v := by omega
  rw [List.drop_eq_nil_of_le (by rw [List.length_range]; omega)]
  rfl
theorem extL_some (hv : v + (f + 1) = n) : extL top n (f + 1) c = (List.range ((top.getD v 0) + 1).toNat).flatMap fun k : Nat => extL top n f (c.set v (k : Int)) := by
  obtain rfl : n - (f + 1) = v := by omega
  rfl
theorem set_drop {p : List Int} (hv : v < top.length) (hp : p.length = v) (x : Int) : (p ++ top.drop v).set v x = (p ++ [x]) ++ top.drop (v + 1) := by
  rw [List.set_append_right _ _ (by omega), hp, Nat.sub_self, List.drop_eq_getElem_cons hv, List.set_cons_zero, List.append_assoc]
  rfl
theorem belL_length : ∀ v, ∀ p ∈ belL top v, p.length = v
  | 0, p, h => by simp [belL] at h; simp [h]
  | v + 1, p, h => by
    rw [belL, List.mem_flatMap] at h
    obtain ⟨x, hx, h⟩ := h
    rw [List.mem_map] at h
    obtain ⟨k, _, rfl⟩ := h
    simp [belL_length v x hx]
theorem ext_bel (hn : top.length = n) : ∀ f v, v + f = n → ((belL top v).flatMap fun p => extL top n f (p ++ top.drop v)) = belL top n
  | 0, v, h => by
    obtain rfl : v = n := by omega
    have h1 : ∀ p, p ++ top.drop v = p := fun p => by rw [List.drop_eq_nil_of_le (by omega), List.append_nil]
    simp only [h1, extL]
    simp
  | f + 1, v, h => by
    rw [← ext_bel hn f (v + 1) (by omega), belL, List.flatMap_assoc]
    apply flat_congr
    intro p hp
    rw [extL_some h, List.flatMap_map]
    apply flat_congr
    intro k hk
    rw [set_drop (by omega) (belL_length v p hp)]
theorem bel_ext (hn : top.length = n) : belL top n = extL top n n top := by
  have := ext_bel hn n 0 (by omega)
  simpa [belL] using this.symm
/-- What is found goes on like the list, and is less. -/
theorem ext_le : ∀ f, f ≤ n → ∀ c : List Int, c.length = n → (∀ i, n - f ≤ i → i < n → c.getD i 0 = top.getD i 0) → ∀ x ∈ extL top n f c, x.length = n ∧ ∀ i, i < n → x.getD i 0 ≤ c.getD i 0
  | 0, _, c, hc, _, x, hx => by
    simp [extL] at hx; subst hx; exact ⟨hc, fun i _ => Int.le_refl _⟩
  | f + 1, hf, c, hc, ht, x, hx => by
    rw [extL_some (v := n - (f + 1)) (by omega), List.mem_flatMap] at hx
    obtain ⟨k, hk, hx⟩ := hx
    have hk := List.mem_range.1 hk
    have hset : ∀ i, (c.set (n - (f + 1)) (k : Int)).getD i 0 = if i = n - (f + 1) then (k : Int) else c.getD i 0 := by
      intro i
      rw [List.getD_eq_getElem?_getD, List.getElem?_set]
      by_cases h : n - (f + 1) = i
      · rw [if_pos h, if_pos (by omega), if_pos h.symm]; rfl
      · rw [if_neg h, if_neg (fun e => h e.symm), ← List.getD_eq_getElem?_getD]
    obtain ⟨h1, h2⟩ := ext_le f (by omega) (c.set (n - (f + 1)) (k : Int)) (by simpa using hc) (fun i h1 h2 => by rw [hset, if_neg (by omega)]; exact ht i (by omega) h2) x hx
    refine ⟨h1, fun i hi => ?_⟩
    have h3 := h2 i hi
    rw [hset] at h3
    by_cases h : i = n - (f + 1)
    · rw [if_pos h] at h3
      have := ht i (by omega) hi
      rw [← h] at hk
      omega
    · rw [if_neg h] at h3; exact h3
/-- What is cut off has no element with the property. -/
theorem enum_filter (hm : ∀ x y : List Int, x.length = n → (∀ i, i < n → x.getD i 0 ≤ y.getD i 0) → (∀ i, i < n → y.getD i 0 ≤ top.getD i 0) → rec x = true → rec y = true) :
    ∀ f, f ≤ n → ∀ c : List Int, c.length = n → (∀ i, n - f ≤ i → i < n → c.getD i 0 = top.getD i 0) → (∀ i, i < n → c.getD i 0 ≤ top.getD i 0) → enumR rec top n f c = (extL top n f c).filter rec
  | 0, _, c, _, _, _ => by
    simp only [enumR, extL, List.filter_cons, List.filter_nil]
  | f + 1, hf, c, hc, ht, hl => by
    cases h : rec c
    · rw [enumR_no h]
      symm
      rw [List.filter_eq_nil_iff]
      intro x hx hr
      obtain ⟨h1, h2⟩ := ext_le (f + 1) hf c hc ht x hx
      rw [hm x c h1 h2 hl hr] at h
      cases h
    · rw [enumR, if_pos h, extL, List.filter_flatMap]
      apply flat_congr
      intro k hk
      have hk := List.mem_range.1 hk
      have hset : ∀ i, (c.set (n - (f + 1)) (k : Int)).getD i 0 = if i = n - (f + 1) then (k : Int) else c.getD i 0 := by
        intro i
        rw [List.getD_eq_getElem?_getD, List.getElem?_set]
        by_cases h : n - (f + 1) = i
        · rw [if_pos h, if_pos (by omega), if_pos h.symm]; rfl
        · rw [if_neg h, if_neg (fun e => h e.symm), ← List.getD_eq_getElem?_getD]
      refine enum_filter hm f (by omega) _ (by simpa using hc) (fun i h1 h2 => by rw [hset, if_neg (by omega)]; exact ht i (by omega) h2) (fun i hi => ?_)
      rw [hset]
      split
      · rename_i e; subst e; omega
      · exact hl i hi
theorem enum_bel (hm : ∀ x y : List Int, x.length = n → (∀ i, i < n → x.getD i 0 ≤ y.getD i 0) → (∀ i, i < n → y.getD i 0 ≤ top.getD i 0) → rec x = true → rec y = true) (hn : top.length = n) : enumR rec top n n top = (belL top n).filter rec := by
  rw [bel_ext hn]
  exact enum_filter hm n (Nat.le_refl _) top hn (fun _ _ _ => rfl) (fun _ _ => Int.le_refl _)
end
end Go.Proofs.YtghigdcpinengaaGreat

/-! Slices of divisors, of the call's own. -/
namespace Go.Proofs.YtghigdcpinengaaGreat
open Go.RowKit

theorem info_divs : (Tryz.prog.info? 26).map (fun i => (i.zero, i.size, i.bytes)) = some (some (.slice none 0 0), 1, 24) := by kernel_rfl
/-- The slice value is the call's own, and so is each of its rows; they read as the lists. -/
def OwnDivs (w : World) (base : Nat) (A : Option Addr) (c : Nat) (vs : List Value) (xss : List (List Int)) : Prop :=
  w.ownsRow base 26 1 (.slice A xss.length c) xss.length vs ∧ (∀ u ∈ vs, u.oneCell' = true) ∧
  ∀ (i : Nat) (xs : List Int), xss[i]? = some xs → ∃ A' c', vs[i]? = some (.slice A' xs.length c') ∧ OwnI w base A' c' xs
section
variable {w w' : World} {base : Nat} {A : Option Addr} {c : Nat} {vs : List Value} {xss : List (List Int)}
theorem OwnDivs.nil_ (w : World) (base : Nat) : OwnDivs w base none 0 [] [] := ⟨World.ownsRow_nil _ _ _ _, by simp, by simp⟩
theorem OwnDivs.len (h : OwnDivs w base A c vs xss) : vs.length = xss.length := by have := h.1.1; omega
theorem OwnDivs.kept (h : OwnDivs w base A c vs xss) (hk : ∀ k, rowBlock A vs k → w'.heap[k]? = w.heap[k]?) : OwnDivs w' base A c vs xss := by
  refine ⟨own_kept h.1 fun k hb => hk k (.inl hb), h.2.1, fun i xs hi => ?_⟩
  obtain ⟨A', c', hv, ho⟩ := h.2.2 i xs hi
  exact ⟨A', c', hv, own_kept ho fun k hb => hk k (.inr ⟨_, List.mem_of_getElem? hv, blockOf_own.2 hb⟩)⟩
theorem OwnDivs.lt (h : OwnDivs w base A c vs xss) {k : Nat} (hk : rowBlock A vs k) : base ≤ k ∧ k < w.heap.size := by
  rcases hk with hk | ⟨v, hv, hk⟩
  · exact own_lt h.1 hk
  · obtain ⟨i, hi⟩ := List.getElem?_of_mem hv
    have hil : i < xss.length := by
      have := (List.getElem?_eq_some_iff.1 hi).1
      rw [h.len] at this; exact this
    obtain ⟨xs, hxs⟩ := get_of_lt hil
    obtain ⟨A', c', hv', ho⟩ := h.2.2 i xs hxs
    rw [hi] at hv'
    injection hv' with hv'
    subst hv'
    exact own_lt ho (blockOf_own.1 hk)
theorem OwnDivs.next (h : OwnDivs w base A c vs xss) (hb : Below w.heap.size w w') : OwnDivs w' base A c vs xss := h.kept fun k hk => hb.block k (h.lt hk).2
theorem OwnDivs.mono {base' : Nat} (h : OwnDivs w base A c vs xss) (hb : base' ≤ base) : OwnDivs w base' A c vs xss := by
  refine ⟨own_rebase h.1 fun k hk => Nat.le_trans hb (own_lt h.1 hk).1, h.2.1, fun i xs hi => ?_⟩
  obtain ⟨A', c', hv, ho⟩ := h.2.2 i xs hi
  exact ⟨A', c', hv, ho.mono hb⟩
end

theorem OwnDivs.ne_blk {w : World} {base : Nat} {A : Option Addr} {c : Nat} {vs : List Value} {xss : List (List Int)} (h : OwnDivs w base A c vs xss) {g : Nat} {t : TypeId} {cs : Array Value} (hg : Blk w g t cs) (h1 : 26 ≠ t) (h2 : 3 ≠ t) {k : Nat} (hk : rowBlock A vs k) : k ≠ g := by
  rcases hk with hk | ⟨v, hv, hk⟩
  · exact own_blk h.1 hg h1 hk
  · obtain ⟨i, hi⟩ := List.getElem?_of_mem hv
    have hil : i < xss.length := by
      have := (List.getElem?_eq_some_iff.1 hi).1
      rw [h.len] at this; exact this
    obtain ⟨xs, hxs⟩ := get_of_lt hil
    obtain ⟨A', c', hv', ho⟩ := h.2.2 i xs hxs
    rw [hi] at hv'
    injection hv' with hv'
    subst hv'
    exact own_blk ho hg h2 (blockOf_own.1 hk)
theorem OwnDivs.set_blk {w : World} {base : Nat} {A : Option Addr} {c : Nat} {vs : List Value} {xss : List (List Int)} (h : OwnDivs w base A c vs xss) {g : Nat} {t : TypeId} {cs : Array Value} (hg : Blk w g t cs) (h1 : 26 ≠ t) (h2 : 3 ≠ t) (o : Nat) (u : Value) : OwnDivs (w.setCell ⟨g, o, none⟩ u) base A c vs xss :=
  h.kept fun _ hk => Below.heap_setCell w ⟨g, o, none⟩ u _ (h.ne_blk hg h1 h2 hk)
/-- One row more. -/
theorem OwnDivs.push {w w' : World} {base : Nat} {A A' A8 : Option Addr} {c c' c8 : Nat} {vs : List Value} {xss : List (List Int)} {x : List Int} (h : OwnDivs w base A c vs xss) (h8 : OwnI w base A8 c8 x)
    (hown : w'.ownsRow base 26 1 (.slice A' (xss.length + 1) c') (xss.length + 1) (vs ++ [.slice A8 x.length c8])) (hg : w.grownBy w' (Value.slice A xss.length c).ownBlock) : OwnDivs w' base A' c' (vs ++ [.slice A8 x.length c8]) (xss ++ [x]) := by
  have keep : ∀ {A1 : Option Addr} {c1 : Nat} {y : List Int}, OwnI w base A1 c1 y → OwnI w' base A1 c1 y := fun {A1 c1 y} ho => own_kept ho fun k hk => hg.block k (own_lt ho hk).2 fun e => by
    exact own_ne ho h.1 (by decide) hk (blockOf_own.1 e.symm) rfl
  refine ⟨by rw [List.length_append]; exact hown, ?_, fun i xs hi => ?_⟩
  · intro u hu
    rcases List.mem_append.1 hu with hu | hu
    · exact h.2.1 u hu
    · rw [List.mem_singleton.1 hu]; rfl
  · have hl := h.len
    rcases Nat.lt_trichotomy i xss.length with hlt | rfl | hgt
    · rw [List.getElem?_append_left hlt] at hi
      obtain ⟨A1, c1, hv, ho⟩ := h.2.2 i xs hi
      exact ⟨A1, c1, by rw [List.getElem?_append_left (by omega)]; exact hv, keep ho⟩
    · have : xs = x := by simpa using hi.symm
      subst this
      exact ⟨A8, c8, by rw [← hl]; simp, keep h8⟩
    · rw [List.getElem?_eq_none (by simp; omega)] at hi; cases hi

theorem OwnDivs.reads {w : World} {base : Nat} {A : Option Addr} {c : Nat} {vs : List Value} {xss : List (List Int)} (h : OwnDivs w base A c vs xss) : RowsR w w.heap.size A xss :=
  ⟨vs, Reads.of_own h.1, fun i xs hi => by
    obtain ⟨A', c', hv, ho⟩ := h.2.2 i xs hi
    exact ⟨A', c', hv, ho.reads⟩⟩
/-- The argument of a round is a slice of its own. -/
def ArgD (xs : List Int) (args : Array Value) (O : Nat → Prop) (W : World) : Prop := ∃ A c, args = #[.slice A xs.length c] ∧ OwnI W 0 A c xs ∧ ∀ k, blockOf A k → O k
end Go.Proofs.YtghigdcpinengaaGreat

