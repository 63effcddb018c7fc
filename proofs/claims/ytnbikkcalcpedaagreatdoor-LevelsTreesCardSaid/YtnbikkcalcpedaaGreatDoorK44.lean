/-
 Texts of this claim, put together: Div2, Nat7, Div3, Weight, PolyW, RMono, PolyA, RDig01, Ear31, RAdd01, RPlus01, RPlus06, Div4.
-/
import Derived.Test.YtnbikkcalcpedaaGreatDoorK43
import Derived.Test.YtnbikkcalcpedaaGreatDoorK40
import Derived.Test.YtnbikkcalcpedaaGreatDoorK32
import Derived.Laws.OwnMore
import Derived.Test.YtnbikkcalcpedaaGreatDoorK39
import Derived.Test.YtnbikkcalcpedaaGreatDoorK29
import Derived.Deep.RegionHeld3
import Derived.Test.YtnbikkcalcpedaaGreatDoorK04
import Derived.Test.YtnbikkcalcpedaaGreatDoorK34
import Derived.Test.YtnbikkcalcpedaaGreatDoorK33
import Derived.Test.YtnbikkcalcpedaaGreatDoorK06
import Derived.Laws.IdiomStrings
import Derived.Test.YtnbikkcalcpedaaGreatDoorK03
set_option maxRecDepth 100000
set_option maxHeartbeats 4000000
namespace Go.Proofs.YtnbikkcalcpedaaGreatDoor
open Go.RowKit Go.Lib
theorem divided_any (a d : Nat) (hd : 0 < d) (ha9 : a < 1000000000) (hd9 : d < 1000000000) (A1 : Option Addr) (c1 : Nat) (A2 : Option Addr) (c2 : Nat) (w : World) (h1 : Reads w w.heap.size 1 A1 (wordsN a).length (u32s (wordsN a))) (h2 : Reads w w.heap.size 1 A2 1 (u32s [d])) :
  Calls Tryz.prog 307 #[.slice A1 (wordsN a).length c1, .slice A2 1 c2] w fun e w' => ∃ A c A' c', e = .returned (.tuple #[.slice A (wordsN (a / d)).length c, .slice A' (wordsN (a % d)).length c']) ∧ WordsAt w' w.heap.size A (a / d) ∧ WordsAt w' w.heap.size A' (a % d) ∧ Below w.heap.size w w' := by
 have SC := Lib.hid (short_any a d hd ha9 hd9 A1 c1 w h1)
 obtain ⟨b2, o2, rfl, hb2, q2⟩ := h2.at_ (u32s_at (k := 0) (n := d) rfl)
 have q2 : w.cell? ⟨b2, o2, none⟩ = some (.int .u32 (d : Nat)) := q2
 obtain ⟨la, hla⟩ : ∃ l, (wordsN a).length = l := ⟨_, rfl⟩
 obtain ⟨lq, hlq⟩ : ∃ l, (wordsN (a / d)).length = l := ⟨_, rfl⟩
 obtain ⟨lr, hlr⟩ : ∃ l, (wordsN (a % d)).length = l := ⟨_, rfl⟩
 rw [hla, hlq, hlr] at SC
 rw [hla, hlq, hlr]
 clear h1 h2 hla hlq hlr hd ha9 hd9
 go_enter Tryz.func307, Tryz.ntmps307
 go_wp2_with fail
 refine (SC.out).mono ?_
 rintro e w' ⟨A, c, A', c', rfl, h1, h2, h3⟩
 go_wp2
 go_ret2
 exact ⟨A, c, A', c', rfl, h1, h2, h3⟩
def wordOf (v : Value) (w : World) : Nat := match v with
 | .slice (some p) 1 _ => (match w.cell? p with | some (.int _ z) => z.toNat | _ => 0)
 | _ => 0
theorem wordOf_reads {w : World} {A : Option Addr} {n c : Nat} (h : Reads w w.heap.size 1 A (wordsN n).length (u32s (wordsN n))) : wordOf (.slice A (wordsN n).length c) w = n := by
 by_cases h0 : n = 0
 ·subst h0
  unfold wordOf
  cases A <;> rfl
 ·rw [wordsN_pos (by omega)] at h ⊢
  obtain ⟨b, o, rfl, hb, q⟩ := h.at_ (u32s_at (k := 0) (n := n) rfl)
  unfold wordOf
  show (match w.cell? ⟨b, o, none⟩ with | some (.int _ z) => z.toNat | _ => 0) = n
  rw [show w.cell? ⟨b, o, none⟩ = some (.int .u32 (n : Nat)) from q]
  rfl
theorem words_lt {w : World} {B n : Nat} {A : Option Addr} (h : Reads w B 1 A (wordsN n).length (u32s (wordsN n))) (h0 : 0 < n) : ∀ k, blockOf A k → k < B := by
 rw [wordsN_pos h0] at h
 obtain ⟨b, o, rfl, hb, q⟩ := h.at_ (u32s_at (k := 0) (n := n) rfl)
 rintro k ⟨a, ha, rfl⟩
 injection ha with ha; subst ha; exact hb
theorem common_any (a b : Nat) (ha9 : a < 1000000000) (hb9 : b < 1000000000) (A1 : Option Addr) (c1 : Nat) (A2 : Option Addr) (c2 B : Nat) (w : World) (hBw : B ≤ w.heap.size) (h1 : Reads w B 1 A1 (wordsN a).length (u32s (wordsN a))) (h2 : Reads w B 1 A2 (wordsN b).length (u32s (wordsN b))) :
  Calls Tryz.prog 265 #[.slice A1 (wordsN a).length c1, .slice A2 (wordsN b).length c2] w fun e w' => ∃ A c, e = .returned (.slice A (wordsN (Nat.gcd a b)).length c) ∧ Reads w' w'.heap.size 1 A (wordsN (Nat.gcd a b)).length (u32s (wordsN (Nat.gcd a b))) ∧ (0 < Nat.gcd a b → ∀ k, blockOf A k → k < B ∨ w.heap.size ≤ k) ∧ Below w.heap.size w w' := by
 have H1 := Lib.hid (h1.more hBw)
 have H2 := Lib.hid (h2.more hBw)
 have L1 : Hid (0 < a → ∀ k, blockOf A1 k → k < B ∨ w.heap.size ≤ k) := fun h0 k hk => .inl (words_lt h1 h0 k hk)
 have L2 : Hid (0 < b → ∀ k, blockOf A2 k → k < B ∨ w.heap.size ≤ k) := fun h0 k hk => .inl (words_lt h2 h0 k hk)
 have DC := Lib.hid divided_any
 have HA := Lib.hid ha9
 have HB := Lib.hid hb9
 have hB0 := Lib.hid (Below.refl w.heap.size w)
 obtain ⟨la, hla⟩ : ∃ l, (wordsN a).length = l := ⟨_, rfl⟩
 obtain ⟨lb, hlb⟩ : ∃ l, (wordsN b).length = l := ⟨_, rfl⟩
 have HLA := Lib.hid hla
 have HLB := Lib.hid hlb
 rw [hla, hlb]
 obtain ⟨g, hg⟩ : ∃ g, Nat.gcd a b = g := ⟨_, rfl⟩
 have HG := Lib.hid hg
 rw [hg]
 obtain ⟨lg, hlg⟩ : ∃ l, (wordsN g).length = l := ⟨_, rfl⟩
 have HLG := Lib.hid hlg
 rw [hlg]
 clear h1 h2 ha9 hb9 hla hlb hg hlg
 go_enter Tryz.func265, Tryz.ntmps265
 go_wp2
 go_loopw [0, 1] (fun u v wr => ∃ (x y : Nat) (X : Option Addr) (cx : Nat) (Y : Option Addr) (cy lx ly : Nat), u = .slice X lx cx ∧ v = .slice Y ly cy ∧ Hid ((wordsN x).length = lx ∧ (wordsN y).length = ly) ∧ Hid (Nat.gcd x y = g ∧ x < 1000000000 ∧ y < 1000000000) ∧
  Hid (Reads wr wr.heap.size 1 X (wordsN x).length (u32s (wordsN x))) ∧ Hid (Reads wr wr.heap.size 1 Y (wordsN y).length (u32s (wordsN y))) ∧ Hid (0 < x → ∀ k, blockOf X k → k < B ∨ w.heap.size ≤ k) ∧ Hid (0 < y → ∀ k, blockOf Y k → k < B ∨ w.heap.size ≤ k) ∧ Hid (Below w.heap.size w wr)) (fun _ v wr => wordOf v wr)
 case atStart => exact ⟨a, b, A1, c1, A2, c2, _, _, rfl, rfl, ⟨HLA.out, HLB.out⟩, ⟨HG.out, HA.out, HB.out⟩, H1.out, H2.out, L1.out, L2.out, hB0.out⟩
 case round =>
  obtain ⟨x, y, X, cx, Y, cy, lx, ly, rfl, rfl, hl, hg, hX, hY, m1, m2, hB⟩ := hrel
  by_cases h0 : 0 < y
  ·have hly : ly = 1 := by rw [← hl.out.2, wordsN_pos h0]; rfl
   subst hly
   have hY1 : Reads wr wr.heap.size 1 Y 1 (u32s [y]) := by have := hY.out; rw [wordsN_pos h0] at this; exact this
   have D := Lib.hid (DC.out x y h0 hg.out.2.1 hg.out.2.2 X cx Y cy wr hX.out hY1)
   rw [hl.out.1] at D
   have HW : Hid (wordOf (.slice Y 1 cy) wr = y) := by have := wordOf_reads (c := cy) hY.out; rw [hl.out.2] at this; exact this
   obtain ⟨lr, hlr⟩ : ∃ l, (wordsN (x % y)).length = l := ⟨_, rfl⟩
   rw [hlr] at D
   have HLR := Lib.hid hlr
   have H0 := Lib.hid h0
   have HM : Hid (x % y < y) := Nat.mod_lt x h0
   clear hlr h0 hY1
   go_wp2_with fail
   refine (D.out).mono ?_
   rintro e w2 ⟨A, c, A', c', rfl, _, r2, hb⟩
   have N1 := Lib.hid (hY.out.next hb)
   have N2 := Lib.hid r2.1
   have N3 : Hid (0 < x % y → ∀ k, blockOf A' k → k < B ∨ w.heap.size ≤ k) := fun _ k hk => .inr (Nat.le_trans hB.out.size (r2.2 k hk))
   have N4 := Lib.hid (hB.out.trans (hb.mono hB.out.size))
   have N5 : Hid (wordOf (.slice A' lr c') w2 = x % y) := by have := wordOf_reads (c := c') r2.1; rw [HLR.out] at this; exact this
   clear r2 hb
   go_wp2
   go_roundw
   case rel => exact ⟨y, x % y, Y, cy, A', c', 1, lr, rfl, rfl, ⟨hl.out.2, HLR.out⟩, ⟨by rw [← hg.out.1, Nat.gcd_comm x y, Nat.gcd_rec y x, Nat.gcd_comm], hg.out.2.2, Nat.lt_trans HM.out hg.out.2.2⟩, N1.out, N2.out, m2.out, N3.out, N4.out⟩
   case measure => rw [N5.out, HW.out]; exact HM.out
  ·obtain rfl : y = 0 := by omega
   have hly : ly = 0 := by rw [← hl.out.2]; rfl
   subst hly
   have hxg : x = g := by have := hg.out.1; rw [Nat.gcd_zero_right] at this; exact this
   have hlx : lx = lg := by rw [← hl.out.1, ← HLG.out, hxg]
   subst hlx
   have hXg := hX.out
   have m1g := m1.out
   rw [hxg] at hXg m1g
   have R1 := Lib.hid hXg
   have R2 := Lib.hid m1g
   rw [← HLG.out]
   clear hxg hXg m1g
   rw [HLG.out]
   go_wp2
   go_ret
   exact ⟨_, _, rfl, by have := R1.out; rw [HLG.out] at this; exact this, R2.out, hB.out⟩
end Go.Proofs.YtnbikkcalcpedaaGreatDoor
namespace Go.Proofs.YtnbikkcalcpedaaGreatDoor
open Go.RowKit Go.Lib
theorem bothN_any (a b r f : Nat) (ha : a < 1000000000) (hb : b < 1000000000) (hr0 : 0 < r) (hr : r < 1000000000) (eg : ∀ args w, (callFunc f args).run Tryz.prog w = .ok (.enter f args) w)
  (HF : ∀ (A1 : Option Addr) (c1 : Nat) (A2 : Option Addr) (c2 : Nat) (W : World), Reads W W.heap.size 1 A1 (wordsN a).length (u32s (wordsN a)) → Reads W W.heap.size 1 A2 (wordsN b).length (u32s (wordsN b)) →
   Calls Tryz.prog f #[.agg #[.bool false, .slice A1 (wordsN a).length c1], .agg #[.bool false, .slice A2 (wordsN b).length c2]] W fun e w' => ∃ A c, e = .returned (.agg #[.bool false, .slice A 1 c]) ∧ Reads w' w'.heap.size 1 A 1 (u32s [r]) ∧ Below W.heap.size W w')
  (w : World) (ht : Tab10 w) :
  Calls Tryz.prog 182 #[.string (intS a), .string (intS b), .func (.func f) #[] #[]] w fun e w' => e = .returned (.tuple #[.string (intS r), .int .i64 0]) ∧ Below w.heap.size w w' := by
 have g := Blk.new w 40 #[.string (intS a), .string (intS b)]
 have hB : Below w.heap.size w (w.alloc (.cells #[.string (intS a), .string (intS b)] 40)) := (Below.refl _ _).alloc (Nat.le_refl _) _
 have CC := Lib.hid (checked_two a b (by omega) (by omega) w.heap.size 2 _ g)
 have RA := Lib.hid (read_any a ha)
 have RB := Lib.hid (read_any b hb)
 have FC := Lib.hid HF
 have RC := Lib.hid (fun (A : Option Addr) (c : Nat) (W : World) (hB : Below w.heap.size w W) (h : Reads W W.heap.size 1 A 1 (u32s [r])) => resultNum_any r hr0 hr A c W h (ht.below hB))
 obtain ⟨s, hs⟩ : ∃ s, intS a = s := ⟨_, rfl⟩
 obtain ⟨t, htt⟩ : ∃ t, intS b = t := ⟨_, rfl⟩
 obtain ⟨u, hu⟩ : ∃ u, intS r = u := ⟨_, rfl⟩
 obtain ⟨la, hla⟩ : ∃ l, wordsN a = l := ⟨_, rfl⟩
 obtain ⟨lb, hlb⟩ : ∃ l, wordsN b = l := ⟨_, rfl⟩
 rw [hs, htt] at hB CC ⊢
 rw [hs, hla] at RA
 rw [htt, hlb] at RB
 rw [hla, hlb] at FC
 rw [hu] at RC ⊢
 clear hs htt hu ha hb hr hr0 ht g hla hlb HF
 go_enter Tryz.func182, Tryz.ntmps182
 go_wp2_with fail
 refine (CC.out).mono ?_
 rintro e w1 ⟨rfl, hb⟩
 have hB := hB.trans (hb.mono hB.size)
 clear hb
 go_wp2_with fail
 refine (RA.out _).mono ?_
 rintro e w2 ⟨A1, c1, rfl, r1, n1, hb⟩
 have hB := hB.trans (hb.mono hB.size)
 clear hb n1
 go_wp2_with fail
 refine (RB.out _).mono ?_
 rintro e w3 ⟨A2, c2, rfl, r2, n2, hb⟩
 have r1 := r1.next hb
 have hB := hB.trans (hb.mono hB.size)
 clear hb n2
 go_wp2_with fail
 refine (FC.out _ _ _ _ _ r1 r2).mono ?_
 rintro e w4 ⟨A3, c3, rfl, r3, hb⟩
 have hB := hB.trans (hb.mono hB.size)
 clear hb r1 r2
 go_wp2_with fail
 refine (RC.out _ _ _ hB r3).mono ?_
 rintro e w5 ⟨rfl, hb⟩
 have hB := hB.trans (hb.mono hB.size)
 clear hb
 go_wp2
 go_ret2
 exact ⟨rfl, hB⟩
end Go.Proofs.YtnbikkcalcpedaaGreatDoor
namespace Go.Proofs.YtnbikkcalcpedaaGreatDoor
open Go.RowKit Go.Lib
theorem gcdFn_any (a b : Nat) (ha9 : a < 1000000000) (hb9 : b < 1000000000) (hb0 : 0 < b) (A1 : Option Addr) (c1 : Nat) (A2 : Option Addr) (c2 : Nat) (w : World) (h1 : Reads w w.heap.size 1 A1 (wordsN a).length (u32s (wordsN a))) (h2 : Reads w w.heap.size 1 A2 (wordsN b).length (u32s (wordsN b))) :
  Calls Tryz.prog 264 #[.agg #[.bool false, .slice A1 (wordsN a).length c1], .agg #[.bool false, .slice A2 (wordsN b).length c2]] w fun e w' => ∃ A c, e = .returned (.agg #[.bool false, .slice A 1 c]) ∧ Reads w' w'.heap.size 1 A 1 (u32s [Nat.gcd a b]) ∧ Below w.heap.size w w' := by
 have hg0 : 0 < Nat.gcd a b := Nat.gcd_pos_of_pos_right a hb0
 have CC := Lib.hid (fun (W : World) (hB : Below w.heap.size w W) => common_any a b ha9 hb9 A1 c1 A2 c2 w.heap.size W hB.size (h1.below hB) (h2.below hB))
 obtain ⟨la, hla⟩ : ∃ l, (wordsN a).length = l := ⟨_, rfl⟩
 obtain ⟨lb, hlb⟩ : ∃ l, (wordsN b).length = l := ⟨_, rfl⟩
 obtain ⟨g, hg⟩ : ∃ g, Nat.gcd a b = g := ⟨_, rfl⟩
 rw [hg] at hg0 CC ⊢
 rw [hla, hlb, wordsN_pos hg0] at CC
 rw [hla, hlb]
 have HG0 := Lib.hid hg0
 have r1 := (((Blk.new w 215 #[.bool false, .slice A1 la c1]).alloc (.cells #[.bool false, .slice A2 lb c2] 215)).alloc (.cells #[.bool false, .slice none 0 0] 215))
 have r2 : Blk (((w.alloc (.cells #[.bool false, .slice A1 la c1] 215)).alloc (.cells #[.bool false, .slice A2 lb c2] 215)).alloc (.cells #[.bool false, .slice none 0 0] 215)) (w.heap.size + 1) 215 #[.bool false, .slice A2 lb c2] := (blk_at5 (by simp)).alloc _
 have r3 : Blk (((w.alloc (.cells #[.bool false, .slice A1 la c1] 215)).alloc (.cells #[.bool false, .slice A2 lb c2] 215)).alloc (.cells #[.bool false, .slice none 0 0] 215)) (w.heap.size + 2) 215 #[.bool false, .slice none 0 0] := blk_at5 (by simp)
 have B3 : Below w.heap.size w (((w.alloc (.cells #[.bool false, .slice A1 la c1] 215)).alloc (.cells #[.bool false, .slice A2 lb c2] 215)).alloc (.cells #[.bool false, .slice none 0 0] 215)) := (((Below.refl _ _).alloc (Nat.le_refl _) _).alloc (by simp) _).alloc (by simp; omega) _
 obtain ⟨w3, hw3⟩ : ∃ w3, (((w.alloc (.cells #[.bool false, .slice A1 la c1] 215)).alloc (.cells #[.bool false, .slice A2 lb c2] 215)).alloc (.cells #[.bool false, .slice none 0 0] 215)) = w3 := ⟨_, rfl⟩
 have hs3 : Hid (w3.heap.size = w.heap.size + 3) := by rw [Hid, ← hw3]; simp
 rw [hw3] at r1 r2 r3 B3
 have HW := Lib.hid hw3
 have TS := Lib.hid (signed_any false)
 have k0 := r1.cell 0
 have k1 := r1.cell 1
 have k2 := r2.cell 0
 have k3 := r2.cell 1
 clear hw3 hla hlb hg hg0 h1 h2 ha9 hb9 hb0
 go_enter Tryz.func264, Tryz.ntmps264
 go_wp2_with fail
 rw [HW.out]
 refine (CC.out _ B3).mono ?_
 rintro e w5 ⟨A5, c5, rfl, o5, n5, hb5⟩
 have q3 := r3.next hb5
 have B5 := B3.trans (hb5.mono B3.size)
 go_wp2_with fail
 refine (TS.out _ _ _ _).mono ?_
 rintro e w6 ⟨rfl, hb6⟩
 have q3 := q3.next hb6
 have o5 := o5.next hb6
 have B5 := B5.trans (hb6.mono B5.size)
 have c0 := q3.cell 0
 have c1' := q3.cell 1
 have f0 := q3.frozen 0
 have f1 := q3.frozen 1
 go_wp2
 refine bodyPost_ret (results_n rfl rfl ((q3.set_ 0 _).set_ 1 _) rfl) rfl ?_
 have O := ((Only.refl (fun k => k = w.heap.size + 2) w6).setCell (p := ⟨w.heap.size + 2, 0, none⟩) (.inl rfl) (.bool false)).setCell (p := ⟨w.heap.size + 2, 1, none⟩) (.inl rfl) (.slice A5 1 c5)
 have hn5 : ∀ k, blockOf A5 k → k < w.heap.size ∨ w.heap.size + 3 ≤ k := fun k hk => by have := n5 HG0.out k hk; rw [hs3.out] at this; exact this
 exact ⟨A5, c5, rfl, (reads_only o5 O (Nat.le_refl _) (fun k hk hc => by have := hn5 k hk; omega)).more O.size, B5.trans (O.below (fun k hk hc => by omega) B5.size)⟩
theorem gcd_any (a b : Nat) (ha9 : a < 1000000000) (hb9 : b < 1000000000) (hb0 : 0 < b) (w : World) (ht : Tab10 w) :
  Calls Tryz.prog 210 #[.string (intS a), .string (intS b)] w fun e w' => e = .returned (.tuple #[.string (intS (Nat.gcd a b : Nat)), .int .i64 0]) ∧ Below w.heap.size w w' := by
 have hg0 : 0 < Nat.gcd a b := Nat.gcd_pos_of_pos_right a hb0
 have hgb : Nat.gcd a b ≤ b := Nat.gcd_le_right a hb0
 have BC := Lib.hid (bothN_any a b (Nat.gcd a b) 264 ha9 hb9 hg0 (by omega) (enters_of Tryz.func264 (by kernel_rfl) rfl)
  (fun A1 c1 A2 c2 W h1 h2 => gcdFn_any a b ha9 hb9 hb0 A1 c1 A2 c2 W h1 h2) w ht)
 obtain ⟨s, hs⟩ : ∃ s, intS a = s := ⟨_, rfl⟩
 obtain ⟨t, htt⟩ : ∃ t, intS b = t := ⟨_, rfl⟩
 obtain ⟨u, hu⟩ : ∃ u, intS (Nat.gcd a b : Nat) = u := ⟨_, rfl⟩
 rw [hs, htt, hu] at BC
 rw [hs, htt, hu]
 clear hs htt hu hg0 hgb ha9 hb9 hb0 ht
 go_enter Tryz.func210, Tryz.ntmps210
 go_wp2_with fail
 refine (BC.out).mono ?_
 rintro e w1 ⟨rfl, hb⟩
 go_wp2
 go_ret2
 exact ⟨rfl, hb⟩
theorem textW_any (n : Nat) (h : n < 1000000000) (A : Option Addr) (c : Nat) (w : World) (hr : Reads w w.heap.size 1 A (wordsN n).length (u32s (wordsN n))) (ht : Tab10 w) :
  Calls Tryz.prog 290 #[.slice A (wordsN n).length c] w fun e w' => e = .returned (.string (intS n)) ∧ Below w.heap.size w w' := by
 by_cases h0 : n = 0
 ·subst h0
  rw [show (wordsN 0).length = 0 from rfl, show intS ((0 : Nat) : Int) = ⟨#[48]⟩ by rw [← numS_int]; unfold numS; rw [Lib.decDigits_one (by omega)]; rfl]
  clear hr ht
  go_enter Tryz.func290, Tryz.ntmps290
  go_wp2
  go_ret
  exact ⟨rfl, Below.refl _ _⟩
 ·rw [wordsN_pos (show 0 < n by omega)] at hr ⊢
  exact textN_any n (by omega) h A c w hr ht
theorem resultW_any (n : Nat) (h : n < 1000000000) (A : Option Addr) (c : Nat) (w : World) (hr : Reads w w.heap.size 1 A (wordsN n).length (u32s (wordsN n))) (ht : Tab10 w) :
  Calls Tryz.prog 181 #[.agg #[.bool false, .slice A (wordsN n).length c]] w fun e w' => e = .returned (.tuple #[.string (intS n), .int .i64 0]) ∧ Below w.heap.size w w' := by
 have NT : Hid (∀ W, Below w.heap.size w W → Calls Tryz.prog 233 #[.agg #[.bool false, .slice A (wordsN n).length c]] W fun e w' => e = .returned (.string (intS n)) ∧ Below W.heap.size W w') := by
  intro W hB
  have TC := Lib.hid (fun (V : World) (hV : Below w.heap.size w V) => textW_any n h A c V ((hr.below hV).more hV.size) (ht.below hV))
  obtain ⟨la, hla⟩ : ∃ l, (wordsN n).length = l := ⟨_, rfl⟩
  rw [hla] at TC ⊢
  have g := Blk.new W 215 #[.bool false, .slice A la c]
  have hBW : Below W.heap.size W (W.alloc (.cells #[.bool false, .slice A la c] 215)) := (Below.refl _ _).alloc (Nat.le_refl _) _
  have hB1 := hB.trans (hBW.mono hB.size)
  have k0 := g.cell 0
  have k1 := g.cell 1
  clear hr ht h hla hB
  go_enter Tryz.func233, Tryz.ntmps233
  go_wp2_with fail
  refine (TC.out _ hB1).mono ?_
  rintro e w' ⟨rfl, hb⟩
  have hB := hBW.trans (hb.mono hBW.size)
  go_wp2
  go_ret
  exact ⟨rfl, hB⟩
 obtain ⟨la, hla⟩ : ∃ l, (wordsN n).length = l := ⟨_, rfl⟩
 rw [hla] at NT ⊢
 have g := Blk.new w 215 #[.bool false, .slice A la c]
 have hB : Below w.heap.size w (w.alloc (.cells #[.bool false, .slice A la c] 215)) := (Below.refl _ _).alloc (Nat.le_refl _) _
 have k0 := g.cell 0
 have k1 := g.cell 1
 have LC := Lib.hid (fun (W : World) => length_any n W)
 have hl := (intS_len n h).1
 have hi : ¬ (1024 : Int) < ((intS n).size : Int) := by omega
 have hi2 : decide ((1024 : Int) < ((intS n).size : Int)) = false := decide_eq_false hi
 obtain ⟨s, hs⟩ : ∃ s, intS n = s := ⟨_, rfl⟩
 rw [hs] at NT LC hi hi2 ⊢
 obtain ⟨z, hz⟩ : ∃ z, s.size = z := ⟨_, rfl⟩
 rw [hz] at LC hi hi2
 clear hr ht h hs hz hl hla
 go_enter Tryz.func181, Tryz.ntmps181
 go_wp2_with fail
 refine (NT.out _ hB).mono ?_
 rintro e w' ⟨rfl, hb⟩
 have hB := hB.trans (hb.mono hB.size)
 go_wp2_with fail
 refine (LC.out _).mono ?_
 rintro e w' ⟨rfl, rfl⟩
 go_wp2
 go_ret2
 exact ⟨rfl, hB⟩
end Go.Proofs.YtnbikkcalcpedaaGreatDoor
namespace Go.Proofs.YtnbikkcalcpedaaGreatDoor
open Go.RowKit
end Go.Proofs.YtnbikkcalcpedaaGreatDoor
namespace Go.Proofs.YtnbikkcalcpedaaGreatDoor
open Go.RowKit Go.Lib
end Go.Proofs.YtnbikkcalcpedaaGreatDoor
namespace Go.Proofs.YtnbikkcalcpedaaGreatDoor
open Go.RowKit
theorem intS_dig {n : Nat} (h : 0 < n) : (intS n).data.toList = (digB 10 n).reverse.map asc := by
 unfold intS Lib.itoa
 rw [if_neg (by omega), Int.toNat_natCast]
 exact dec_dig h
theorem digB_last {n : Nat} (h : 0 < n) : ∃ d, (digB 10 n).getLast? = some d ∧ d ≠ 0 := by
 induction n using Nat.strongRecOn with
 | _ n ih =>
   rw [digB_pos (by omega) h]
   by_cases h1 : n / 10 = 0
   ·rw [h1, digB_zero]
    exact ⟨n % 10, rfl, by omega⟩
   ·obtain ⟨d, hd, h0⟩ := ih (n / 10) (by omega) (by omega)
    refine ⟨d, ?_, h0⟩
    have hne : digB 10 (n / 10) ≠ [] := fun hc => by rw [hc] at hd; cases hd
    rw [List.getLast?_cons, hd]
    rfl
def tri31 : List E3 := [(0, 1, 1), (0, 2, 1), (1, 2, 1)]
theorem a31_m : (endsL tri31).length ≤ 8 := by decide +kernel
theorem Blk.newB {w : World} {g : Nat} {t : TypeId} {cs : Array Value} (hg : g = w.heap.size) : Blk (w.alloc (.cells cs t)) g t cs := by subst hg; exact Blk.new w t cs
theorem row_litB {W : World} {g : Nat} {xs : List Int} (h : Blk W g 3 (ints xs).toArray) : Reads W W.heap.size 1 (some ⟨g, 0, none⟩) xs.length (ints xs) :=
 ⟨by simp [ints], fun _ => ⟨g, 0, rfl, h.lt, fun j u hu => by rw [Nat.zero_add, h.cell j]; simpa using hu⟩⟩
theorem tms_litB {W : World} {g : Nat} {p : List Tm} (h : Blk W g 87 (tmCells p).toArray) : Reads W W.heap.size 3 (some ⟨g, 0, none⟩) p.length (tmCells p) :=
 ⟨by rw [tmCells_length], fun _ => ⟨g, 0, rfl, h.lt, fun j u hu => by rw [Nat.zero_add, h.cell j]; simpa using hu⟩⟩
theorem below_al {w w' : World} {o : Obj} (h : Below (w.alloc o).heap.size (w.alloc o) w') : Below w.heap.size w w' := ((Below.refl _ _).alloc (Nat.le_refl _) o).trans (h.mono (by simp))
theorem c31_eq (l : List Int) (hl : l.length ≤ 100) (A : Option Addr) (c : Nat) (w : World) (h : Reads w w.heap.size 1 A l.length (ints l)) : Calls Tryz.prog 40 #[.slice A l.length c, .slice (some ⟨w.heap.size, 0, none⟩) l.length l.length] (w.alloc (.cells (ints l).toArray 3)) fun e w' => e = .returned (.bool true) ∧ Below w.heap.size w w' := by
 have hb := iequal_any A c l (some ⟨w.heap.size, 0, none⟩) l.length l (by omega) (w.alloc (.cells (ints l).toArray 3)) ((h.alloc (Nat.le_refl _) _).more (by simp)) (row_litB (xs := l) (Blk.newB rfl))
 refine hb.mono ?_
 rintro e w' ⟨he, hb⟩
 exact ⟨by rw [he, decide_eq_true rfl], below_al hb⟩
theorem c31_same (p : List Tm) (hl : p.length ≤ 100) (A : Option Addr) (c : Nat) (w : World) (h : Reads w w.heap.size 3 A p.length (tmCells p)) : Calls Tryz.prog 41 #[.slice A p.length c, .slice (some ⟨w.heap.size, 0, none⟩) p.length p.length] (w.alloc (.cells (tmCells p).toArray 87)) fun e w' => e = .returned (.bool true) ∧ Below w.heap.size w w' := by
 have hb := rsame06_any A c p (some ⟨w.heap.size, 0, none⟩) p.length (by omega) (w.alloc (.cells (tmCells p).toArray 87)) ((h.alloc (Nat.le_refl _) _).more (by simp)) (tms_litB (p := p) (Blk.newB rfl))
 refine hb.mono ?_
 rintro e w' ⟨he, hb⟩
 exact ⟨he, below_al hb⟩
theorem intS_ne0 {n : Nat} (h : 0 < n) : ((intS n).toList == [48]) = false := by
 rw [Lib.toList_data, intS_dig h]
 obtain ⟨d, hd, hd0⟩ := digB_last h
 have hd10 := digB_lt (B := 10) (by omega) (List.mem_of_getLast? hd)
 rw [Bool.eq_false_iff]
 intro hc
 have hc := eq_of_beq hc
 have h1 : ((digB 10 n).reverse.map asc).head? = some (asc d) := by rw [List.head?_map, List.head?_reverse, hd]; rfl
 rw [hc] at h1
 injection h1 with h1
 have := congrArg UInt8.toNat h1
 rw [asc_nat hd10] at this
 have h48 : (48 : UInt8).toNat = 48 := rfl
 omega
end Go.Proofs.YtnbikkcalcpedaaGreatDoor
namespace Go.Proofs.YtnbikkcalcpedaaGreatDoor
open Go.RowKit Go.Lib
theorem results_nn {fn : Func} {p q : Tmp} {tmps : Array Value} {w : World} {g g2 : Nat} {cs cs2 : Array Value} (h : fn.results = #[.cell p 215, .cell q 215]) (hp : tmps.getD p undef = .pointer (some ⟨g, 0, none⟩)) (hq : tmps.getD q undef = .pointer (some ⟨g2, 0, none⟩)) (hg : Blk w g 215 cs) (hg2 : Blk w g2 215 cs2) (hs : cs.size = 2) (hs2 : cs2.size = 2) :
  (results fn tmps).run Tryz.prog w = .ok (.tuple #[.agg cs, .agg cs2]) w := by
 have hi : (Tryz.prog.info? 215).map (·.size) = some cs.size := by rw [info_number, hs]
 have hi2 : (Tryz.prog.info? 215).map (·.size) = some cs2.size := by rw [info_number, hs2]
 have hp' : tmps[p]?.getD undef = .pointer (some ⟨g, 0, none⟩) := by simpa using hp
 have hq' : tmps[q]?.getD undef = .pointer (some ⟨g2, 0, none⟩) := by simpa using hq
 simp [results, h, hp', hq', asAddr, run_loadVar_row w g _ _ cs _ _ hg Tryz.underlying215 rfl hi, run_loadVar_row w g2 _ _ cs2 _ _ hg2 Tryz.underlying215 rfl hi2]
theorem downN_any (a d : Nat) (hd : 0 < d) (ha9 : a < 1000000000) (hd9 : d < 1000000000) (A1 : Option Addr) (c1 : Nat) (A2 : Option Addr) (c2 : Nat) (w : World) (h1 : Reads w w.heap.size 1 A1 (wordsN a).length (u32s (wordsN a))) (h2 : Reads w w.heap.size 1 A2 1 (u32s [d])) :
  Calls Tryz.prog 267 #[.agg #[.bool false, .slice A1 (wordsN a).length c1], .agg #[.bool false, .slice A2 1 c2]] w fun e w' => ∃ A c A' c', e = .returned (.tuple #[.agg #[.bool false, .slice A (wordsN (a / d)).length c], .agg #[.bool false, .slice A' (wordsN (a % d)).length c']]) ∧ Reads w' w'.heap.size 1 A (wordsN (a / d)).length (u32s (wordsN (a / d))) ∧ Below w.heap.size w w' := by
 have DC := Lib.hid (fun (W : World) (hB : Below w.heap.size w W) => divided_any a d hd ha9 hd9 A1 c1 A2 c2 W ((h1.below hB).more hB.size) ((h2.below hB).more hB.size))
 obtain ⟨la, hla⟩ : ∃ l, (wordsN a).length = l := ⟨_, rfl⟩
 obtain ⟨lr, hlr⟩ : ∃ l, (wordsN (a % d)).length = l := ⟨_, rfl⟩
 obtain ⟨lq, hlq⟩ : ∃ l, (wordsN (a / d)).length = l := ⟨_, rfl⟩
 have HLQ := Lib.hid hlq
 rw [hla, hlr, hlq] at DC
 rw [hla, hlr, hlq]
 have HW : ∃ w4, (((w.alloc (.cells #[.bool false, .slice A1 la c1] 215)).alloc (.cells #[.bool false, .slice A2 1 c2] 215)).alloc (.cells #[.bool false, .slice none 0 0] 215)).alloc (.cells #[.bool false, .slice none 0 0] 215) = w4 := ⟨_, rfl⟩
 obtain ⟨w4, hw4⟩ := HW
 have r1 : Blk w4 w.heap.size 215 #[.bool false, .slice A1 la c1] := by rw [← hw4]; exact (((Blk.new w _ _).alloc _).alloc _).alloc _
 have r2 : Blk w4 (w.heap.size + 1) 215 #[.bool false, .slice A2 1 c2] := by rw [← hw4]; exact ((blk_at5 (by simp)).alloc _).alloc _
 have r3 : Blk w4 (w.heap.size + 2) 215 #[.bool false, .slice none 0 0] := by rw [← hw4]; exact (blk_at5 (by simp)).alloc _
 have r4 : Blk w4 (w.heap.size + 3) 215 #[.bool false, .slice none 0 0] := by rw [← hw4]; exact blk_at5 (by simp)
 have B4 : Below w.heap.size w w4 := by rw [← hw4]; exact ((((Below.refl _ _).alloc (Nat.le_refl _) _).alloc (by simp) _).alloc (by simp; omega) _).alloc (by simp; omega) _
 have hs4 : Hid (w4.heap.size = w.heap.size + 4) := by rw [Hid, ← hw4]; simp
 have HW4 := Lib.hid hw4
 have TS := Lib.hid (signed_any false)
 have k0 := r1.cell 0
 have k1 := r1.cell 1
 have k2 := r2.cell 0
 have k3 := r2.cell 1
 clear hw4 hla hlr hlq h1 h2 hd ha9 hd9
 go_enter Tryz.func267, Tryz.ntmps267
 go_wp2_with fail
 rw [HW4.out]
 refine (DC.out _ B4).mono ?_
 rintro e w5 ⟨A5, c5, A6, c6, rfl, o5, _, hb5⟩
 have q1 := r1.next hb5
 have q2 := r2.next hb5
 have q3 := r3.next hb5
 have q4 := r4.next hb5
 have B5 := B4.trans (hb5.mono B4.size)
 have k0 := q1.cell 0
 have k1 := q1.cell 1
 have k2 := q2.cell 0
 have k3 := q2.cell 1
 have hn1 : ¬ w.heap.size = w.heap.size + 1 + 1 := by omega
 have hn2 : ¬ w.heap.size + 1 + 1 = w.heap.size := by omega
 have hn3 : ¬ w.heap.size = w.heap.size + 1 + 1 + 1 := by omega
 have hn4 : ¬ w.heap.size + 1 + 1 + 1 = w.heap.size := by omega
 have hn5 : ¬ w.heap.size + 1 = w.heap.size + 1 + 1 + 1 := by omega
 have hn6 : ¬ w.heap.size + 1 + 1 + 1 = w.heap.size + 1 := by omega
 go_wp2_with fail
 have q1 := q1.drew
 have q2 := q2.drew
 have q3 := q3.drew
 have q4 := q4.drew
 have o5 := (show WordsAt w5.drew _ _ _ from o5)
 have B5 := B5.drew
 go_region_held3 (fun W => W.cell? ⟨w.heap.size, 0, none⟩ = some (.bool false) ∧ W.cell? ⟨w.heap.size + 1, 0, none⟩ = some (.bool false)) (go_keep) (first
  | (go_at_call 230; refine (TS.out _ _ _ _).mono ?_; rintro e w6 ⟨rfl, hb6⟩; have q1 := q1.next hb6; have q2 := q2.next hb6; have q3 := q3.next hb6; have q4 := q4.next hb6; have o5 := o5.next hb6; have B5 := B5.trans (hb6.mono B5.size); have k0 := q1.cell 0; have k2 := q2.cell 0; have c0 := q3.cell 0; have c1' := q3.cell 1; have f0 := q3.frozen 0; have f1 := q3.frozen 1; have d0 := q4.cell 0; have d1' := q4.cell 1; have e0 := q4.frozen 0; have e1 := q4.frozen 1))
 have G3 := (((q3.set_ 0 (.bool false)).set_ 1 (.slice A5 lq c5)).far (p := ⟨w.heap.size + 3, 0, none⟩) (by show w.heap.size + 2 ≠ w.heap.size + 3; omega) (.bool false)).far (p := ⟨w.heap.size + 3, 1, none⟩) (by show w.heap.size + 2 ≠ w.heap.size + 3; omega) (.slice A6 lr c6)
 have G4 := (((q4.far (p := ⟨w.heap.size + 2, 0, none⟩) (by show w.heap.size + 3 ≠ w.heap.size + 2; omega) (.bool false)).far (p := ⟨w.heap.size + 2, 1, none⟩) (by show w.heap.size + 3 ≠ w.heap.size + 2; omega) (.slice A5 lq c5)).set_ 0 (.bool false)).set_ 1 (.slice A6 lr c6)
 have O := ((((Only.refl (fun k => k = w.heap.size + 2 ∨ k = w.heap.size + 3) w6).setCell (p := ⟨w.heap.size + 2, 0, none⟩) (.inl (.inl rfl)) (.bool false)).setCell (p := ⟨w.heap.size + 2, 1, none⟩) (.inl (.inl rfl)) (.slice A5 lq c5)).setCell (p := ⟨w.heap.size + 3, 0, none⟩) (.inl (.inr rfl)) (.bool false)).setCell (p := ⟨w.heap.size + 3, 1, none⟩) (.inl (.inr rfl)) (.slice A6 lr c6)
 have hn7 : ∀ k, blockOf A5 k → w.heap.size + 4 ≤ k := fun k hk => by have := o5.2 k hk; rw [hs4.out] at this; exact this
 have R := Lib.hid ((reads_only o5.1 O (Nat.le_refl _) (fun k hk hc => by have := hn7 k hk; omega)).more O.size)
 have BB := Lib.hid (B5.trans (O.below (fun k hk hc => by omega) B5.size))
 have HG3 := Lib.hid G3
 have HG4 := Lib.hid G4
 clear G3 G4 O hn7 q1 q2 q3 q4 o5 B5
 go_wp2
 refine bodyPost_ret (results_nn rfl rfl rfl HG3.out HG4.out rfl rfl) rfl ?_
 exact ⟨A5, c5, A6, c6, rfl, by have := R.out; rw [HLQ.out] at this; exact this, BB.out⟩
theorem quo_any (a d : Nat) (hd : 0 < d) (ha9 : a < 1000000000) (hd9 : d < 1000000000) (w : World) (ht : Tab10 w) :
  Calls Tryz.prog 212 #[.string (intS a), .string (intS d)] w fun e w' => e = .returned (.tuple #[.string (intS (a / d : Nat)), .int .i64 0]) ∧ Below w.heap.size w w' := by
 have hq9 : a / d < 1000000000 := Nat.lt_of_le_of_lt (Nat.div_le_self a d) ha9
 have g := Blk.new w 40 #[.string (intS a), .string (intS d)]
 have hB : Below w.heap.size w (w.alloc (.cells #[.string (intS a), .string (intS d)] 40)) := (Below.refl _ _).alloc (Nat.le_refl _) _
 have CC := Lib.hid (checked_two a d (by omega) (by omega) w.heap.size 2 _ g)
 have RA := Lib.hid (read_any a ha9)
 have RB := Lib.hid (read_any d hd9)
 rw [wordsN_pos hd] at RB
 have DC := Lib.hid (fun A1 c1 A2 c2 W h1 h2 => downN_any a d hd ha9 hd9 A1 c1 A2 c2 W h1 h2)
 have RC := Lib.hid (fun (A : Option Addr) (c : Nat) (W : World) (hB : Below w.heap.size w W) (h : Reads W W.heap.size 1 A (wordsN (a / d)).length (u32s (wordsN (a / d)))) => resultW_any (a / d) hq9 A c W h (ht.below hB))
 have hs0 := intS_ne0 (n := d) hd
 obtain ⟨s, hs⟩ : ∃ s, intS a = s := ⟨_, rfl⟩
 obtain ⟨t, htt⟩ : ∃ t, intS d = t := ⟨_, rfl⟩
 obtain ⟨u, hu⟩ : ∃ u, intS (a / d : Nat) = u := ⟨_, rfl⟩
 obtain ⟨la, hla⟩ : ∃ l, (wordsN a).length = l := ⟨_, rfl⟩
 obtain ⟨lr, hlr⟩ : ∃ l, (wordsN (a % d)).length = l := ⟨_, rfl⟩
 obtain ⟨lq, hlq⟩ : ∃ l, (wordsN (a / d)).length = l := ⟨_, rfl⟩
 rw [hs, htt] at hB CC ⊢
 rw [hs, hla] at RA
 rw [htt] at RB hs0
 rw [hla, hlr, hlq] at DC
 rw [hu, hlq] at RC
 rw [hu]
 clear hs htt hu ha9 hd9 hq9 hd ht g hla hlr hlq
 go_enter Tryz.func212, Tryz.ntmps212
 go_wp2_with fail
 refine (CC.out).mono ?_
 rintro e w1 ⟨rfl, hb⟩
 have hB := hB.trans (hb.mono hB.size)
 clear hb
 go_wp2_with fail
 refine (RA.out _).mono ?_
 rintro e w2 ⟨A1, c1, rfl, r1, n1, hb⟩
 have hB := hB.trans (hb.mono hB.size)
 clear hb n1
 go_wp2_with fail
 refine (RB.out _).mono ?_
 rintro e w3 ⟨A2, c2, rfl, r2, n2, hb⟩
 have r1 := r1.next hb
 have hB := hB.trans (hb.mono hB.size)
 clear hb n2
 go_wp2_with fail
 refine (DC.out _ _ _ _ _ r1 r2).mono ?_
 rintro e w4 ⟨A3, c3, A4, c4, rfl, r3, hb⟩
 have hB := hB.trans (hb.mono hB.size)
 have B5 := hB.alloc hB.size (.cells #[.bool false, .slice A3 lq c3] 215)
 have B6 := B5.alloc B5.size (.cells #[.bool false, .slice A4 lr c4] 215)
 have g1 := (Blk.new w4 215 #[.bool false, .slice A3 lq c3]).alloc (.cells #[.bool false, .slice A4 lr c4] 215)
 have k0 := g1.cell 0
 have k1 := g1.cell 1
 have N := Below.alloc ((Below.refl w4.heap.size w4).alloc (Nat.le_refl _) (.cells #[.bool false, .slice A3 lq c3] 215)) (by simp) (.cells #[.bool false, .slice A4 lr c4] 215)
 have r3 := r3.next N
 clear hb r1 r2 N hB B5
 go_wp2_with fail
 refine (RC.out _ _ _ B6 r3).mono ?_
 rintro e w5 ⟨rfl, hb⟩
 have hB := B6.trans (hb.mono B6.size)
 go_wp2
 go_ret2
 exact ⟨rfl, hB⟩
end Go.Proofs.YtnbikkcalcpedaaGreatDoor
