/-
 Texts of this claim, put together: SortO, Chips, Val, RChips, SameL, RBel.
-/
import Derived.Test.YtnbikkcalcpedaaGreatDoorK12
import Derived.Test.YtnbikkcalcpedaaGreatDoorK03
import Derived.Test.YtnbikkcalcpedaaGreatDoorK06
import Derived.Test.YtnbikkcalcpedaaGreatDoorK05
import Derived.BigQuiet
import Derived.Test.YtnbikkcalcpedaaGreatDoorK02
import Derived.Test.YtnbikkcalcpedaaGreatDoorK04
import Derived.Deep.QuietTactic
import Derived.Test.YtnbikkcalcpedaaGreatDoorK08
set_option maxRecDepth 100000
set_option maxHeartbeats 4000000
namespace Go.Proofs.YtnbikkcalcpedaaGreatDoor
open Go.RowKit
theorem insertionO_any (A : Option Addr) (c : Nat) (xs : List Int) (h1 : 1 ≤ xs.length) (hn : xs.length ≤ 1048576) (w : World) (base : Nat) (h : OwnI w base A c xs) :
  Calls Tryz.prog 243 #[.slice A xs.length c, .int .i64 0, .int .i64 xs.length] w fun e w' => e = .returned (.tuple #[]) ∧ ∃ ys, ys.Perm xs ∧ Srt ys (ys.length - 1) ys.length ∧ OwnI w' base A c ys ∧ Only (blockOf A) w w' := by
 obtain ⟨g, hA, hg, hf, hcell⟩ := h.block (by omega)
 subst hA
 clear hf hcell
 go_enter Tryz.func243, Tryz.ntmps243
 go_wp2
 go_loopw [6] (fun i wr => ∃ (k : Nat) (L : List Int), i = .int .i64 ((k : Int) + 1) ∧ k + 1 ≤ xs.length ∧ L.length = xs.length ∧ Hid (L.Perm xs) ∧ Hid (Srt L k (k + 1)) ∧ OwnI wr base (some ⟨g, 0, none⟩) c L ∧ Only (blockOf (some ⟨g, 0, none⟩)) w wr) (fun i _ => xs.length - (intOf i).toNat)
 case atStart => exact ⟨0, xs, by go_num, by omega, rfl, List.Perm.refl _, fun p q h1 h2 => by omega, h, Only.refl _ _⟩
 case round =>
  obtain ⟨k, L, rfl, hk, hL, HP, HS, hown, hbel⟩ := hrel
  by_cases hlt : k + 1 < xs.length
  ·have hi : (k : Int) + 1 < (xs.length : Int) := by omega
   obtain ⟨wo, rfl⟩ : ∃ wo : World, wo = wr := ⟨_, rfl⟩
   go_wp2
   go_loopw [7] (fun i wr => ∃ (j : Nat) (L : List Int), i = .int .i64 j ∧ j ≤ k + 1 ∧ L.length = xs.length ∧ Hid (L.Perm xs) ∧ Hid (Srt L (k + 1) j) ∧ OwnI wr base (some ⟨g, 0, none⟩) c L ∧ Only (blockOf (some ⟨g, 0, none⟩)) w wr) (fun i _ => (intOf i).toNat)
   case atStart => exact ⟨k + 1, L, by go_num, by omega, hL, HP, HS.out.next, hown, hbel⟩
   case round =>
    clear hL HP HS hown hbel
    obtain ⟨j, L, rfl, hj, hL, HP, HS, hown, hbel⟩ := hrel
    rcases j with _ | m
    ·go_wp2
     go_quiet (fail)
     go_wp2
     go_roundw
     case rel => exact ⟨k + 1, L, by go_num, by omega, hL, HP, HS.out.zero, hown.drewN _, hbel.drewN _⟩
     case measure => simp [intOf]; omega
    ·obtain ⟨a, ha⟩ := get_of_lt (xs := L) (k := m) (by omega)
     obtain ⟨b, hb⟩ := get_of_lt (xs := L) (k := m + 1) (by omega)
     obtain ⟨g', hA, _, hfz, hcell⟩ := hown.block (by omega)
     have hgg : g = g' := by injection hA with hA; injection hA
     subst hgg
     have c1 := hcell m a ha
     have c2 := hcell (m + 1) b hb
     have i1 : (m : Int) < (xs.length : Int) := by omega
     have i2 : (m : Int) + 1 < (xs.length : Int) := by omega
     have i3 : (0 : Int) < (m : Int) + 1 := by omega
     have i4 : (0 : Int) ≤ (m : Int) := by omega
     have HA := Lib.hid ha
     have HB := Lib.hid hb
     have HL := Lib.hid (lessq_any b a)
     clear ha hb hA hcell
     by_cases hab : b < a
     ·have hd : decide (b < a) = true := decide_eq_true hab
      have HAB := Lib.hid hab
      go_wp2
      go_quiet ((go_at_call 249; exact Calls.quiet_of (HL.out _)))
      go_wp2
      go_region
      all_goals (
       go_wp2
       go_roundw
       case rel => exact ⟨m, swapL L m a b, by go_num, by omega, by simp [swapL]; omega, (swapL_perm HA.out HB.out).trans HP.out, HS.out.swap HA.out HB.out HAB.out, ((hown.drewN _).set rfl (m + 1) a).set rfl m b, ((hbel.drewN _).setCell (p := ⟨g, m + 1, none⟩) (.inl ⟨_, rfl, rfl⟩) _).setCell (p := ⟨g, m, none⟩) (.inl ⟨_, rfl, rfl⟩) _⟩
       case measure => simp [intOf])
     ·have hd : decide (b < a) = false := decide_eq_false hab
      have HNAB : Hid (a ≤ b) := Lib.hid (by omega)
      clear hab
      go_wp2
      go_quiet ((go_at_call 249; exact Calls.quiet_of (HL.out _)))
      go_wp2
      go_roundw
      case rel => exact ⟨k + 1, L, by go_num, by omega, hL, HP, HS.out.done (by omega) HA.out HB.out HNAB.out, hown.drewN _, hbel.drewN _⟩
      case measure => simp [intOf]; omega
  ·have hi : ¬ (k : Int) + 1 < (xs.length : Int) := by omega
   go_wp2
   go_end0
   have hkk : k = L.length - 1 := by omega
   refine ⟨rfl, L, HP.out, ?_, hown, hbel⟩
   have := HS.out
   rw [show k + 1 = L.length from by omega, hkk] at this
   exact this
theorem pdqO_any (A : Option Addr) (c : Nat) (xs : List Int) (lim : Int) (h1 : 1 ≤ xs.length) (hn : xs.length ≤ 12) (w : World) (base : Nat) (h : OwnI w base A c xs) :
  Calls Tryz.prog 189 #[.slice A xs.length c, .int .i64 0, .int .i64 xs.length, .int .i64 lim] w fun e w' => e = .returned (.tuple #[]) ∧ ∃ ys, ys.Perm xs ∧ Srt ys (ys.length - 1) ys.length ∧ OwnI w' base A c ys ∧ Only (blockOf A) w w' := by
 have HI := Lib.hid (insertionO_any A c xs h1 (by omega) w base h)
 have h12 : (xs.length : Int) ≤ 12 := by omega
 go_enter Tryz.func189, Tryz.ntmps189
 go_wp2
 go_loopw [1, 2] (fun a b wr => a = .int .i64 0 ∧ b = .int .i64 xs.length ∧ wr = w) (fun _ _ _ => 0)
 case atStart => exact ⟨rfl, rfl, rfl⟩
 case round =>
  obtain ⟨rfl, rfl, rfl⟩ := hrel
  go_wp2_with (go_at_call 243; refine (HI.out).mono ?_; rintro e w1 ⟨rfl, ys, h1, h2, h3, h4⟩)
  refine bodyPost_ret (results_none rfl _ _ _) rfl ?_
  exact ⟨rfl, ys, h1, h2, h3, h4⟩
theorem sortO_any (A : Option Addr) (c : Nat) (xs : List Int) (h1 : 1 ≤ xs.length) (hn : xs.length ≤ 12) (w : World) (base : Nat) (h : OwnI w base A c xs) :
  Calls Tryz.prog 135 #[.slice A xs.length c] w fun e w' => e = .returned (.tuple #[]) ∧ ∃ ys, ys.Perm xs ∧ Srt ys (ys.length - 1) ys.length ∧ OwnI w' base A c ys ∧ Only (blockOf A) w w' := by
 have HB := Lib.hid (bitsLen_any xs.length hn w)
 have HP := Lib.hid (fun lim => pdqO_any A c xs lim h1 hn w base h)
 have hw0 : (0 : Int) ≤ (xs.length : Int) := by omega
 have hw1 : (xs.length : Int) < 18446744073709551616 := by omega
 clear h
 go_enter Tryz.func135, Tryz.ntmps135
 go_wp2_with first
  | (go_at_call 118; refine (HB.out).mono ?_; rintro e w1 ⟨⟨v, rfl⟩, rfl⟩)
  | (go_at_call 189; refine (HP.out _).mono ?_; rintro e w1 ⟨rfl, ys, h1, h2, h3, h4⟩)
 go_end0
 exact ⟨rfl, ys, h1, h2, h3, h4⟩
theorem sort_nil (A : Option Addr) (c : Nat) (w : World) : Calls Tryz.prog 135 #[.slice A 0 c] w fun e w' => e = .returned (.tuple #[]) ∧ w = w' := by
 have HB := Lib.hid (bitsLen_any 0 (by omega) w)
 have HP : Hid (∀ lim, Calls Tryz.prog 189 #[.slice A 0 c, .int .i64 0, .int .i64 0, .int .i64 lim] w fun e w' => e = .returned (.tuple #[]) ∧ w = w') := by
  intro lim
  have HI : Hid (Calls Tryz.prog 243 #[.slice A 0 c, .int .i64 0, .int .i64 0] w fun e w' => e = .returned (.tuple #[]) ∧ w = w') := by
   go_enter Tryz.func243, Tryz.ntmps243
   go_wp2
   go_loopw [6] (fun i wr => i = .int .i64 1 ∧ wr = w) (fun _ _ => 0)
   case atStart => exact ⟨rfl, rfl⟩
   case round =>
    obtain ⟨rfl, rfl⟩ := hrel
    go_wp2
    go_end0
    exact ⟨rfl, rfl⟩
  go_enter Tryz.func189, Tryz.ntmps189
  go_wp2
  go_loopw [1, 2] (fun a b wr => a = .int .i64 0 ∧ b = .int .i64 0 ∧ wr = w) (fun _ _ _ => 0)
  case atStart => exact ⟨rfl, rfl, rfl⟩
  case round =>
   obtain ⟨rfl, rfl, rfl⟩ := hrel
   go_wp2_with (go_at_call 243; refine (HI.out).mono ?_; rintro e w1 ⟨rfl, rfl⟩)
   refine bodyPost_ret (results_none rfl _ _ _) rfl ?_
   exact ⟨rfl, rfl⟩
 go_enter Tryz.func135, Tryz.ntmps135
 go_wp2_with first
  | (go_at_call 118; refine (HB.out).mono ?_; rintro e w1 ⟨⟨v, rfl⟩, rfl⟩)
  | (go_at_call 189; refine (HP.out _).mono ?_; rintro e w1 ⟨rfl, rfl⟩)
 go_end0
 exact ⟨rfl, rfl⟩
theorem sortS_any (A : Option Addr) (c : Nat) (xs : List Int) (hn : xs.length ≤ 12) (w : World) (base : Nat) (h : OwnI w base A c xs) :
  Calls Tryz.prog 135 #[.slice A xs.length c] w fun e w' => e = .returned (.tuple #[]) ∧ OwnI w' base A c (sortG ltI xs) ∧ Only (blockOf A) w w' := by
 rcases Nat.eq_zero_or_pos xs.length with h0 | h0
 ·obtain rfl := List.eq_nil_of_length_eq_zero h0
  refine (sort_nil A c w).mono ?_
  rintro e w' ⟨rfl, rfl⟩
  exact ⟨rfl, h, Only.refl _ _⟩
 ·refine (sortO_any A c xs h0 hn w base h).mono ?_
  rintro e w' ⟨rfl, ys, h1, h2, h3, h4⟩
  rw [srt_eq h1 h2] at h3
  exact ⟨rfl, h3, h4⟩
theorem within1_any (k : Int) (w : World) :
  Calls Tryz.prog 274 #[.int .i64 k] w fun e w' => e = .returned (.bool (chipB k)) ∧ w = w' := by
 go_enter Tryz.func274, Tryz.ntmps274
 go_wp2
 all_goals (go_ret; exact ⟨by simp only [chipB]; simp [*]; try omega, rfl⟩)
theorem dcheck_any (A : Option Addr) (c : Nat) (cs : List Int) (hm : cs.length ≤ 1048576) (n : Int) (w : World) (h : Reads w w.heap.size 1 A cs.length (ints cs)) :
  Calls Tryz.prog 217 #[.slice A cs.length c, .int .i64 n] w fun e w' => e = .returned (.int .i64 (divErr cs n)) ∧ w = w' := by
 by_cases h1 : n < 1
 ·have hd : divErr cs n = 2 := by unfold divErr; rw [if_pos (.inl h1)]
  rw [hd]
  go_enter Tryz.func217, Tryz.ntmps217
  go_wp2
  go_ret
  exact ⟨rfl, rfl⟩
 by_cases h2 : 12 < n
 ·have hd : divErr cs n = 2 := by unfold divErr; rw [if_pos (.inr h2)]
  rw [hd]
  go_enter Tryz.func217, Tryz.ntmps217
  go_wp2
  go_ret
  exact ⟨rfl, rfl⟩
 by_cases hl : (cs.length : Int) = n
 ·have hn : ¬ (n < 1 ∨ 12 < n) := by omega
  subst hl
  have hb : ((cs.length : Int) != (cs.length : Int)) = false := by simp
  have HE := Lib.hid (fun k x hx hb => divErr_at (cs := cs) (k := k) (x := x) hn rfl hx hb)
  have HF := Lib.hid (divErr_end (cs := cs) hn rfl)
  obtain ⟨r, hr⟩ : ∃ r, divErr cs cs.length = r := ⟨_, rfl⟩
  rw [hr] at HE HF ⊢
  clear hn hr
  go_enter Tryz.func217, Tryz.ntmps217
  go_wp2
  go_loop [19] (fun i => ∃ k : Nat, k ≤ cs.length ∧ i = .int .i64 k ∧ Hid ((cs.take k).all chipB = true)) (fun i => cs.length - (intOf i).toNat)
  case atStart => exact ⟨0, by omega, rfl, by simp [Hid]⟩
  case round =>
   obtain ⟨k, hk, rfl, HS⟩ := hrel
   by_cases hlt : k < cs.length
   ·obtain ⟨x, hx⟩ := get_of_lt hlt
    obtain ⟨b, off, rfl, hb', hcell⟩ := h.at_ (ints_at hx)
    have hi : (k : Int) < (cs.length : Int) := by omega
    have HX := Lib.hid hx
    clear hx h
    cases hin : chipB x
    ·obtain rfl := HE.out k x HX.out hin
     go_wp2_with (go_at_call 274; refine (within1_any _ _).mono ?_; rintro e w' ⟨rfl, rfl⟩)
     go_ret
     exact ⟨rfl, rfl⟩
    ·have HN := Lib.hid (all_snoc HX.out HS.out hin)
     go_wp2_with (go_at_call 274; refine (within1_any _ _).mono ?_; rintro e w' ⟨rfl, rfl⟩)
     go_round
     case rel => exact ⟨k + 1, by omega, by go_num, HN.out⟩
     case measure => simp [intOf]; omega
   ·obtain rfl : k = cs.length := by omega
    obtain rfl := HF.out HS.out
    go_wp2
    go_ret
    exact ⟨rfl, rfl⟩
 ·have hd : divErr cs n = 8 := by unfold divErr; rw [if_neg (by omega), if_pos hl]
  have hb : ((cs.length : Int) != n) = true := by simpa using hl
  rw [hd]
  clear hl hd
  go_enter Tryz.func217, Tryz.ntmps217
  go_wp2
  go_ret
  exact ⟨rfl, rfl⟩
theorem gat_ok (n : Int) (A : Option Addr) (c : Nat) (es : List E3) (hn : es.length ≤ 1048576) (hz : checkG n es = 0) (v : Int) (hv : vertB n v = true) (g : Nat) (w : World) (hg : Blk w g 3 #[.int .i64 v]) (h : Reads w w.heap.size 3 A es.length (edgeCells es)) :
  Calls Tryz.prog 194 #[.agg #[.int .i64 n, .slice A es.length c], .slice (some ⟨g, 0, none⟩) 1 1] w fun e w' => e = .returned (.int .i64 0) ∧ Below w.heap.size w w' := by
 have GC := gcheck_any n A c es hn
 rw [hz] at GC
 have GC := Lib.hid GC
 have HV := Lib.hid hv
 have g0 := Blk.new w 24 #[.int .i64 n, .slice A es.length c]
 have c0 := g0.cell 0
 have c1 := g0.cell 1
 clear hz hv
 go_enter Tryz.func194, Tryz.ntmps194
 go_wp2_with fail
 refine (GC.out _ ((h.alloc (Nat.le_refl _) _).more (by simp))).mono ?_
 rintro e w1 ⟨rfl, hb1⟩
 have hB1 : Below w.heap.size w w1 := ((Below.refl _ _).alloc (Nat.le_refl _) _).trans (hb1.mono (by simp))
 have g1 := g0.next hb1
 have d0 := g1.cell 0
 have hgc := (hg.below hB1 hg.lt).cell 0
 clear g0 c0 c1
 go_wp2_with fail
 go_loop [7, 15] (fun _ i => i = .int .i64 0 ∨ i = .int .i64 1) (fun _ i => 1 - (intOf i).toNat)
 case atStart => exact .inl rfl
 case round =>
  rcases hrel with rfl | rfl
  ·have VC := Lib.hid (vertex_any n v)
   rw [HV.out] at VC
   go_wp2_with (go_at_call 55; refine (VC.out _).mono ?_; rintro e w2 ⟨rfl, rfl⟩)
   go_round
   case rel => exact .inr (by go_num)
   case measure => simp [intOf]
  ·go_wp2
   go_ret
   exact ⟨rfl, hB1⟩
theorem gvalence_ok (n : Nat) (A : Option Addr) (c : Nat) (es : List E3) (hn : es.length ≤ 10000) (hz : checkG n es = 0) (v : Nat) (hv : v < n) (w : World) (h : Reads w w.heap.size 3 A es.length (edgeCells es)) :
  Calls Tryz.prog 140 #[.agg #[.int .i64 n, .slice A es.length c], .int .i64 v] w fun e w' => e = .returned (.tuple #[.int .i64 (valE es v), .int .i64 0]) ∧ Below w.heap.size w w' := by
 have hok := (right_of hz).ok
 have GA := Lib.hid (gat_ok n A c es (by omega) hz v (vertB_true.2 (by omega)))
 have HOK := Lib.hid hok
 have hvb := valE_bd hok
 have HVB := Lib.hid (fun k => valE_bd (es := es.take k) (fun e he => hok e (List.mem_of_mem_take he)) v)
 have g0 := Blk.new w 24 #[.int .i64 n, .slice A es.length c]
 have c0 := g0.cell 0
 have c1 := g0.cell 1
 have c0' := (g0.alloc (.cells #[.int .i64 v] 3)).cell 0
 have c1' := (g0.alloc (.cells #[.int .i64 v] 3)).cell 1
 clear hz hok hvb
 go_enter Tryz.func140, Tryz.ntmps140
 go_wp2_with fail
 refine (GA.out (w.heap.size + 1) _ ((by have := Blk.new (w.alloc (.cells #[.int .i64 n, .slice A es.length c] 24)) 3 #[.int .i64 v]; simpa using this)) ((((h.alloc (Nat.le_refl _) _).more (by simp)).alloc (Nat.le_refl _) _).more (by simp))).mono ?_
 rintro e w1 ⟨rfl, hb1⟩
 have hB1 : Below w.heap.size w w1 := (((Below.refl _ _).alloc (Nat.le_refl _) _).alloc (by simp) _).trans (hb1.mono (by simp; omega))
 have g1 := (g0.alloc (.cells #[.int .i64 v] 3)).next hb1
 have d1 := g1.cell 1
 clear g0 c0 c1 c0' c1' hb1
 go_wp2_with fail
 go_loopw [7, 20] (fun s i wl => ∃ (k : Nat), i = .int .i64 k ∧ s = .int .i64 (valE (es.take k) v) ∧ k ≤ es.length ∧ Below w.heap.size w wl) (fun _ i _ => es.length - (intOf i).toNat)
 case atStart => exact ⟨0, rfl, rfl, by omega, hB1⟩
 case round =>
  obtain ⟨k, rfl, rfl, hk, hbel⟩ := hrel
  clear hB1 g1 d1
  by_cases hlt : k < es.length
  ·obtain ⟨⟨x, y, m⟩, hx⟩ := get_of_lt hlt
   have hok := HOK.out _ (List.mem_of_getElem? hx)
   unfold okE at hok
   dsimp only at hok
   have hi : (k : Int) < (es.length : Int) := by omega
   obtain ⟨b, off, hA, hbb, q1, q2, q3⟩ := (h.below hbel).edge hx
   subst hA
   dsimp only at q1 q2 q3
   have e3 := Blk.new wr 107 #[.int .i64 x, .int .i64 y, .int .i64 m]
   have p0 := e3.cell 0
   have p1 := e3.cell 1
   have p2 := e3.cell 2
   have hs := valE_snoc hx v
   unfold valT at hs
   dsimp only at hs
   have hb0 := HVB.out k
   have hb2 := hbel.alloc hbel.size (.cells #[.int .i64 x, .int .i64 y, .int .i64 m] 107)
   have htl : (es.take k).length ≤ 10000 := by rw [List.length_take]; omega
   obtain ⟨S, hS⟩ : ∃ S, valE (es.take k) v = S := ⟨_, rfl⟩
   rw [hS] at hb0 hs ⊢
   clear hS hx
   have hw : IntKind.i64.wrap (S + m) = S + m := IntWalk.i64_in _ (by omega)
   by_cases hxy : x = y
   ·have n1 : (x != y) = false := by simp [hxy]
    rw [if_neg (fun h => h.1 hxy)] at hs
    have HS := Lib.hid hs
    clear hs hxy
    go_wp2
    go_roundw
    case rel => exact ⟨k + 1, by go_num, by rw [HS.out, Int.add_zero], by omega, hb2⟩
    case measure => simp [intOf]; omega
   ·have n1 : (x != y) = true := by simpa using hxy
    by_cases hxv : x = (v : Int)
    ·have n2 : (x == (v : Int)) = true := by simpa using hxv
     rw [if_pos ⟨hxy, .inl hxv⟩] at hs
     have HS := Lib.hid hs
     clear hs hxy hxv
     go_wp2
     go_roundw
     case rel => exact ⟨k + 1, by go_num, by rw [HS.out], by omega, hb2⟩
     case measure => simp [intOf]; omega
    ·have n2 : (x == (v : Int)) = false := by simpa using hxv
     by_cases hyv : y = (v : Int)
     ·have n3 : (y == (v : Int)) = true := by simpa using hyv
      rw [if_pos ⟨hxy, .inr hyv⟩] at hs
      have HS := Lib.hid hs
      clear hs hxy hxv hyv
      go_wp2
      go_roundw
      case rel => exact ⟨k + 1, by go_num, by rw [HS.out], by omega, hb2⟩
      case measure => simp [intOf]; omega
     ·have n3 : (y == (v : Int)) = false := by simpa using hyv
      rw [if_neg (fun h => h.2.elim hxv hyv)] at hs
      have HS := Lib.hid hs
      clear hs hxy hxv hyv
      go_wp2
      go_roundw
      case rel => exact ⟨k + 1, by go_num, by rw [HS.out, Int.add_zero], by omega, hb2⟩
      case measure => simp [intOf]; omega
  ·obtain rfl : k = es.length := by omega
   rw [List.take_length]
   go_wp2
   go_ret2
   exact ⟨rfl, hbel⟩
theorem between_any (n : Int) (A : Option Addr) (c : Nat) (es : List E3) (hn : es.length ≤ 1048576) (a b : Int) (w : World) (h : Reads w w.heap.size 3 A es.length (edgeCells es)) :
  Calls Tryz.prog 104 #[.agg #[.int .i64 n, .slice A es.length c], .int .i64 a, .int .i64 b] w fun e w' => e = .returned (.int .i64 (btw es a b)) ∧ Below w.heap.size w w' := by
 obtain ⟨r, hr⟩ : ∃ r, btw es a b = r := ⟨_, rfl⟩
 rw [hr]
 have HR := Lib.hid hr
 clear hr
 rcases Int.lt_trichotomy a b with hab | rfl | hab
 ·have hba : ¬ b < a := by omega
  go_enter Tryz.func104, Tryz.ntmps104
  go_wp2
  go_loopw [7] (fun i wr => ∃ k : Nat, k ≤ es.length ∧ i = .int .i64 k ∧ Below w.heap.size w wr ∧ Blk wr w.heap.size 24 #[.int .i64 n, .slice A es.length c] ∧ Hid (btw es a b = btw (es.drop k) a b)) (fun i _ => es.length - (intOf i).toNat)
  case atStart => exact ⟨0, by omega, rfl, (Below.refl _ _).alloc (Nat.le_refl _) _, Blk.new _ _ _, by simp [Hid]⟩
  case round =>
   obtain ⟨k, hk, rfl, hbel, g1, HS⟩ := hrel
   have c1 := g1.cell 1
   have hsz := hbel.size
   have hlt0 := g1.lt
   by_cases hlt : k < es.length
   ·obtain ⟨⟨x, y, m⟩, hx⟩ := get_of_lt hlt
    have hi : (k : Int) < (es.length : Int) := by omega
    have hd := btw_drop hx a b
    rw [show min a b = a from by omega, show max a b = b from by omega] at hd
    dsimp only at hd
    obtain ⟨bb, off, rfl, hb, q1, q2, q3⟩ := (h.below hbel).edge hx
    have G1 := g1.alloc (.cells #[.int .i64 x, .int .i64 y, .int .i64 m] 107)
    dsimp only at q1 q2 q3
    have HB := Lib.hid (hbel.alloc (Nat.le_trans (by simp) hsz) (.cells #[.int .i64 x, .int .i64 y, .int .i64 m] 107))
    clear hx h hbel
    by_cases h1 : x = a
    ·by_cases h2 : y = b
     ·rw [if_pos ⟨h1, h2⟩] at hd
      have HD := Lib.hid hd
      have e1 : (x == a) = true := by simpa using h1
      have e2 : (y == b) = true := by simpa using h2
      clear hd h1 h2
      go_wp2
      go_ret
      exact ⟨ret_int (by rw [← HR.out, HS.out, HD.out]), HB.out⟩
     ·rw [if_neg (fun hc => h2 hc.2)] at hd
      have HD := Lib.hid hd
      have e1 : (x == a) = true := by simpa using h1
      have e2 : (y == b) = false := by simpa using h2
      clear hd h1 h2
      go_wp2
      go_roundw
      case rel => exact ⟨k + 1, by omega, by go_num, HB.out, G1, by rw [Hid, HS.out, HD.out]⟩
      case measure => simp [intOf]; omega
    ·rw [if_neg (fun hc => h1 hc.1)] at hd
     have HD := Lib.hid hd
     have e1 : (x == a) = false := by simpa using h1
     clear hd h1
     go_wp2
     go_roundw
     case rel => exact ⟨k + 1, by omega, by go_num, HB.out, G1, by rw [Hid, HS.out, HD.out]⟩
     case measure => simp [intOf]; omega
   ·go_wp2
    go_ret
    refine ⟨ret_int ?_, hbel⟩
    have e : btw es a b = 0 := by rw [HS.out, List.drop_eq_nil_of_le (by omega)]; rfl
    rw [← HR.out, e]
 ·go_enter Tryz.func104, Tryz.ntmps104
  go_wp2
  go_loopw [7] (fun i wr => ∃ k : Nat, k ≤ es.length ∧ i = .int .i64 k ∧ Below w.heap.size w wr ∧ Blk wr w.heap.size 24 #[.int .i64 n, .slice A es.length c] ∧ Hid (btw es a a = btw (es.drop k) a a)) (fun i _ => es.length - (intOf i).toNat)
  case atStart => exact ⟨0, by omega, rfl, (Below.refl _ _).alloc (Nat.le_refl _) _, Blk.new _ _ _, by simp [Hid]⟩
  case round =>
   obtain ⟨k, hk, rfl, hbel, g1, HS⟩ := hrel
   have c1 := g1.cell 1
   have hsz := hbel.size
   have hlt0 := g1.lt
   by_cases hlt : k < es.length
   ·obtain ⟨⟨x, y, m⟩, hx⟩ := get_of_lt hlt
    have hi : (k : Int) < (es.length : Int) := by omega
    have hd := btw_drop hx a a
    rw [show min a a = a from by omega, show max a a = a from by omega] at hd
    dsimp only at hd
    obtain ⟨bb, off, rfl, hb, q1, q2, q3⟩ := (h.below hbel).edge hx
    have G1 := g1.alloc (.cells #[.int .i64 x, .int .i64 y, .int .i64 m] 107)
    dsimp only at q1 q2 q3
    have HB := Lib.hid (hbel.alloc (Nat.le_trans (by simp) hsz) (.cells #[.int .i64 x, .int .i64 y, .int .i64 m] 107))
    clear hx h hbel
    by_cases h1 : x = a
    ·by_cases h2 : y = a
     ·rw [if_pos ⟨h1, h2⟩] at hd
      have HD := Lib.hid hd
      have e1 : (x == a) = true := by simpa using h1
      have e2 : (y == a) = true := by simpa using h2
      clear hd h1 h2
      go_wp2
      go_ret
      exact ⟨ret_int (by rw [← HR.out, HS.out, HD.out]), HB.out⟩
     ·rw [if_neg (fun hc => h2 hc.2)] at hd
      have HD := Lib.hid hd
      have e1 : (x == a) = true := by simpa using h1
      have e2 : (y == a) = false := by simpa using h2
      clear hd h1 h2
      go_wp2
      go_roundw
      case rel => exact ⟨k + 1, by omega, by go_num, HB.out, G1, by rw [Hid, HS.out, HD.out]⟩
      case measure => simp [intOf]; omega
    ·rw [if_neg (fun hc => h1 hc.1)] at hd
     have HD := Lib.hid hd
     have e1 : (x == a) = false := by simpa using h1
     clear hd h1
     go_wp2
     go_roundw
     case rel => exact ⟨k + 1, by omega, by go_num, HB.out, G1, by rw [Hid, HS.out, HD.out]⟩
     case measure => simp [intOf]; omega
   ·go_wp2
    go_ret
    refine ⟨ret_int ?_, hbel⟩
    have e : btw es a a = 0 := by rw [HS.out, List.drop_eq_nil_of_le (by omega)]; rfl
    rw [← HR.out, e]
 ·have hba : ¬ a < b := by omega
  go_enter Tryz.func104, Tryz.ntmps104
  go_wp2
  go_loopw [7] (fun i wr => ∃ k : Nat, k ≤ es.length ∧ i = .int .i64 k ∧ Below w.heap.size w wr ∧ Blk wr w.heap.size 24 #[.int .i64 n, .slice A es.length c] ∧ Hid (btw es a b = btw (es.drop k) a b)) (fun i _ => es.length - (intOf i).toNat)
  case atStart => exact ⟨0, by omega, rfl, (Below.refl _ _).alloc (Nat.le_refl _) _, Blk.new _ _ _, by simp [Hid]⟩
  case round =>
   obtain ⟨k, hk, rfl, hbel, g1, HS⟩ := hrel
   have c1 := g1.cell 1
   have hsz := hbel.size
   have hlt0 := g1.lt
   by_cases hlt : k < es.length
   ·obtain ⟨⟨x, y, m⟩, hx⟩ := get_of_lt hlt
    have hi : (k : Int) < (es.length : Int) := by omega
    have hd := btw_drop hx a b
    rw [show min a b = b from by omega, show max a b = a from by omega] at hd
    dsimp only at hd
    obtain ⟨bb, off, rfl, hb, q1, q2, q3⟩ := (h.below hbel).edge hx
    have G1 := g1.alloc (.cells #[.int .i64 x, .int .i64 y, .int .i64 m] 107)
    dsimp only at q1 q2 q3
    have HB := Lib.hid (hbel.alloc (Nat.le_trans (by simp) hsz) (.cells #[.int .i64 x, .int .i64 y, .int .i64 m] 107))
    clear hx h hbel
    by_cases h1 : x = b
    ·by_cases h2 : y = a
     ·rw [if_pos ⟨h1, h2⟩] at hd
      have HD := Lib.hid hd
      have e1 : (x == b) = true := by simpa using h1
      have e2 : (y == a) = true := by simpa using h2
      clear hd h1 h2
      go_wp2
      go_ret
      exact ⟨ret_int (by rw [← HR.out, HS.out, HD.out]), HB.out⟩
     ·rw [if_neg (fun hc => h2 hc.2)] at hd
      have HD := Lib.hid hd
      have e1 : (x == b) = true := by simpa using h1
      have e2 : (y == a) = false := by simpa using h2
      clear hd h1 h2
      go_wp2
      go_roundw
      case rel => exact ⟨k + 1, by omega, by go_num, HB.out, G1, by rw [Hid, HS.out, HD.out]⟩
      case measure => simp [intOf]; omega
    ·rw [if_neg (fun hc => h1 hc.1)] at hd
     have HD := Lib.hid hd
     have e1 : (x == b) = false := by simpa using h1
     clear hd h1
     go_wp2
     go_roundw
     case rel => exact ⟨k + 1, by omega, by go_num, HB.out, G1, by rw [Hid, HS.out, HD.out]⟩
     case measure => simp [intOf]; omega
   ·go_wp2
    go_ret
    refine ⟨ret_int ?_, hbel⟩
    have e : btw es a b = 0 := by rw [HS.out, List.drop_eq_nil_of_le (by omega)]; rfl
    rw [← HR.out, e]
end Go.Proofs.YtnbikkcalcpedaaGreatDoor
