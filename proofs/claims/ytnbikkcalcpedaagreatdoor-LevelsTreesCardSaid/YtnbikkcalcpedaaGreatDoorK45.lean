/-
 Texts of this claim, put together: Frac, LevV.
-/
import Derived.Test.YtnbikkcalcpedaaGreatDoorK44
import Derived.Test.YtnbikkcalcpedaaGreatDoorK38
set_option maxRecDepth 100000
set_option maxHeartbeats 8000000
namespace Go.Proofs.YtnbikkcalcpedaaGreatDoor
open Go.RowKit Go.Lib
theorem info_frac : (Tryz.prog.info? 68).map (·.size) = some 2 := by kernel_rfl
theorem results_f1 {fn : Func} {p u : Tmp} {tmps : Array Value} {w : World} {g : Nat} {cs : Array Value} (h : fn.results = #[.cell p 68, .tmp u]) (hp : tmps.getD p undef = .pointer (some ⟨g, 0, none⟩)) (hg : Blk w g 68 cs) (hs : cs.size = 2) :
  (results fn tmps).run Tryz.prog w = .ok (.tuple #[.agg cs, tmps.getD u undef]) w := by
 have hi : (Tryz.prog.info? 68).map (·.size) = some cs.size := by rw [info_frac, hs]
 have hp' : tmps[p]?.getD undef = .pointer (some ⟨g, 0, none⟩) := by simpa using hp
 simp [results, h, hp', asAddr, run_loadVar_row w g _ _ cs _ _ hg Tryz.underlying68 rfl hi]
theorem first_dig (n : Nat) : ∃ c : Nat, 48 ≤ c ∧ c ≤ 57 ∧ ∀ w, (Instr.index 40 (.string (intS n)) (.int .i64 0)).run Tryz.prog w = .ok (.int .u8 (c : Nat)) w := by
 rw [← numS_int]
 obtain ⟨a, l, hal⟩ := List.exists_cons_of_ne_nil (dec_pos n)
 have ha := dec_dig2 n a (by rw [hal]; simp)
 refine ⟨a.toNat, ha.1, ha.2, fun w => ?_⟩
 have hsl : (numS n).data.toList = a :: l := hal
 have h0 : 0 < (numS n).size := by rw [Lib.size_eq, hsl]; simp
 rw [run_index_string w 40 (numS n) .i64 0 Tryz.underlying40, dif_pos ⟨by omega, by omega⟩]
 have hd : (numS n)[(0 : Int).toNat]'(by simpa using h0) = a := by
  show (numS n).data[0]'_ = a
  have h1 : (numS n).data.toList[0]'(by rw [hsl]; simp) = a := by simp [hsl]
  rw [Array.getElem_toList] at h1
  exact h1
 rw [hd]
def fracV (a b : Nat) : Value := .agg #[.string (intS (a / Nat.gcd a b : Nat)), .string (intS (b / Nat.gcd a b : Nat))]
theorem fmake_any (a b : Nat) (hb0 : 0 < b) (ha9 : a < 1000000000) (hb9 : b < 1000000000) (w : World) (ht : Tab10 w) :
  Calls Tryz.prog 155 #[.string (intS a), .string (intS b)] w fun e w' => e = .returned (.tuple #[fracV a b, .int .i64 0]) ∧ Below w.heap.size w w' := by
 have hg0 : 0 < Nat.gcd a b := Nat.gcd_pos_of_pos_right a hb0
 have hgb : Nat.gcd a b ≤ b := Nat.gcd_le_right a hb0
 have CA := Lib.hid (fun (W : World) => check_int a (by omega) W)
 have CB := Lib.hid (fun (W : World) => check_int b (by omega) W)
 have GC := Lib.hid (fun (W : World) (hB : Below w.heap.size w W) => gcd_any a b ha9 hb9 hb0 W (ht.below hB))
 have QA := Lib.hid (fun (W : World) (hB : Below w.heap.size w W) => quo_any a (Nat.gcd a b) hg0 ha9 (by omega) W (ht.below hB))
 have QB := Lib.hid (fun (W : World) (hB : Below w.heap.size w W) => quo_any b (Nat.gcd a b) hg0 hb9 (by omega) W (ht.below hB))
 have hs0 := intS_ne0 (n := b) hb0
 obtain ⟨c, hc1, hc2, hix⟩ := first_dig b
 have hc45 : ((c : Int) == 45) = false := by simp; omega
 unfold fracV
 obtain ⟨g, hg⟩ : ∃ g, Nat.gcd a b = g := ⟨_, rfl⟩
 rw [hg] at GC QA QB ⊢
 obtain ⟨s, hs⟩ : ∃ s, intS a = s := ⟨_, rfl⟩
 obtain ⟨t, htt⟩ : ∃ t, intS b = t := ⟨_, rfl⟩
 obtain ⟨u, hu⟩ : ∃ u, intS (g : Nat) = u := ⟨_, rfl⟩
 obtain ⟨x, hx⟩ : ∃ x, intS (a / g : Nat) = x := ⟨_, rfl⟩
 obtain ⟨y, hy⟩ : ∃ y, intS (b / g : Nat) = y := ⟨_, rfl⟩
 rw [hs] at CA
 rw [htt] at CB hs0 hix
 rw [hs, htt, hu] at GC
 rw [hs, hu, hx] at QA
 rw [htt, hu, hy] at QB
 rw [hs, htt, hx, hy]
 have HIX := Lib.hid hix
 obtain ⟨w2, hw2⟩ : ∃ w2, (w.alloc (.cells #[.string ⟨#[]⟩, .string ⟨#[]⟩] 68)).alloc (.cells #[.string s, .string t] 40) = w2 := ⟨_, rfl⟩
 have r1 : Blk w2 w.heap.size 68 #[.string ⟨#[]⟩, .string ⟨#[]⟩] := by rw [← hw2]; exact (Blk.new w _ _).alloc _
 have r2 : Blk w2 (w.heap.size + 1) 40 #[.string s, .string t] := by rw [← hw2]; exact blk_at5 (by simp)
 have B2 : Below w.heap.size w w2 := by rw [← hw2]; exact ((Below.refl _ _).alloc (Nat.le_refl _) _).alloc (by simp) _
 have HW := Lib.hid hw2
 have R1 := Lib.hid r1
 have R2 := Lib.hid r2
 have HB2 := Lib.hid B2
 have HS2 : Hid (w2.heap.size = w.heap.size + 2) := by rw [Hid, ← hw2]; simp
 clear hw2 r1 r2 B2 hg hs htt hu hx hy hg0 hgb ha9 hb9 hb0 ht hix hc1 hc2
 go_enter Tryz.func155, Tryz.ntmps155
 go_wp2
 rw [HW.out]
 go_loopw [16] (fun i wr => ∃ k : Nat, k ≤ 2 ∧ i = .int .i64 k ∧ Hid (Below w2.heap.size w2 wr)) (fun i _ => 2 - (RowKit.intOf i).toNat)
 case atStart => exact ⟨0, by omega, rfl, Below.refl _ _⟩
 case round =>
  obtain ⟨k, hk, rfl, hX⟩ := hrel
  have g2 := R2.out.next hX.out
  have k0 := g2.cell 0
  have k1 := g2.cell 1
  rcases (show k = 0 ∨ k = 1 ∨ k = 2 by omega) with rfl | rfl | rfl
  ·go_wp2_with fail
   refine (CA.out _).mono ?_
   rintro e w' ⟨rfl, hb⟩
   have hX2 := hX.out.trans (hb.mono hX.out.size)
   go_wp2
   go_roundw
   case rel => exact ⟨1, by omega, by go_num, hX2⟩
   case measure => simp [RowKit.intOf]
  ·go_wp2_with fail
   refine (CB.out _).mono ?_
   rintro e w' ⟨rfl, hb⟩
   have hX2 := hX.out.trans (hb.mono hX.out.size)
   go_wp2
   go_roundw
   case rel => exact ⟨2, by omega, by go_num, hX2⟩
   case measure => simp [RowKit.intOf]
  ·have G := R1.out.next hX.out
   have HZ0 := Lib.hid hX.out.size
   have hB := HB2.out.trans (hX.out.mono HB2.out.size)
   clear k0 k1 g2 hX
   go_wp2_with fail
   refine (GC.out _ hB).mono ?_
   rintro e w3 ⟨rfl, hb⟩
   have G := G.next hb
   have HZ3 := Lib.hid (Nat.le_trans HZ0.out hb.size)
   have hB := hB.trans (hb.mono hB.size)
   have hix := HIX.out
   clear hb
   go_wp2_with fail
   have g11 := Blk.new w3 68 #[.string ⟨#[]⟩, .string ⟨#[]⟩]
   have hB1 := hB.alloc hB.size (.cells #[.string ⟨#[]⟩, .string ⟨#[]⟩] 68)
   have G := G.alloc (.cells #[.string ⟨#[]⟩, .string ⟨#[]⟩] 68)
   refine (QA.out _ hB1).mono ?_
   rintro e w4 ⟨rfl, hb⟩
   have g11 := g11.next hb
   have G := G.next hb
   have hB1 := hB1.trans (hb.mono hB1.size)
   have hzz := HS2.out
   have h3z : w.heap.size + 2 ≤ w3.heap.size := by have := HZ3.out; have := HS2.out; omega
   have c0 := g11.cell 0
   have c1 := g11.cell 1
   have f0 := g11.frozen 0
   have f1 := g11.frozen 1
   have g12 := g11.set_ 0 (.string x)
   have G2 := G.far (p := ⟨w3.heap.size, 0, none⟩) (by show w.heap.size ≠ w3.heap.size; omega) (.string x)
   have hB2 := hB1.setCell (p := ⟨w3.heap.size, 0, none⟩) (by show w.heap.size ≤ w3.heap.size; omega) (.string x)
   clear hb hzz
   go_wp2_with fail
   refine (QB.out _ hB2).mono ?_
   rintro e w5 ⟨rfl, hb⟩
   have g13 := g12.next hb
   have G3 := G2.next hb
   have hB3 := hB2.trans (hb.mono hB2.size)
   have c0 := g13.cell 0
   have c1 := g13.cell 1
   have f0 := g13.frozen 0
   have f1 := g13.frozen 1
   have d0 := G3.cell 0
   have d1 := G3.cell 1
   have e0 := G3.frozen 0
   have e1 := G3.frozen 1
   have hne : ¬ w.heap.size = w3.heap.size := by omega
   have hne2 : ¬ w3.heap.size = w.heap.size := by omega
   go_wp2
   refine bodyPost_ret (results_f1 rfl rfl (((G3.far (p := ⟨w3.heap.size, 1, none⟩) (by show w.heap.size ≠ w3.heap.size; omega) (.string y)).set_ 0 (.string x)).set_ 1 (.string y)) rfl) rfl ?_
   exact ⟨rfl, ((hB3.setCell (p := ⟨w3.heap.size, 1, none⟩) (by show w.heap.size ≤ w3.heap.size; omega) _).setCell (Nat.le_refl _) _).setCell (Nat.le_refl _) _⟩
theorem fracOf_any (a b : Nat) (hb0 : 0 < b) (ha9 : a < 1000000000) (hb9 : b < 1000000000) (w : World) (ht : Tab10 w) :
  Calls Tryz.prog 97 #[.int .i64 a, .int .i64 b] w fun e w' => e = .returned (.tuple #[fracV a b, .int .i64 0]) ∧ Below w.heap.size w w' := by
 have OA := Lib.hid (fun (W : World) (hB : Below w.heap.size w W) => intOfN_any a ha9 W (ht.below hB))
 have OB := Lib.hid (fun (W : World) (hB : Below w.heap.size w W) => intOfN_any b hb9 W (ht.below hB))
 have MK := Lib.hid (fun (W : World) (hB : Below w.heap.size w W) => fmake_any a b hb0 ha9 hb9 W (ht.below hB))
 unfold fracV at MK ⊢
 obtain ⟨s, hs⟩ : ∃ s, intS a = s := ⟨_, rfl⟩
 obtain ⟨t, htt⟩ : ∃ t, intS b = t := ⟨_, rfl⟩
 obtain ⟨x, hx⟩ : ∃ x, intS (a / Nat.gcd a b : Nat) = x := ⟨_, rfl⟩
 obtain ⟨y, hy⟩ : ∃ y, intS (b / Nat.gcd a b : Nat) = y := ⟨_, rfl⟩
 rw [hs] at OA
 rw [htt] at OB
 rw [hs, htt, hx, hy] at MK
 rw [hx, hy]
 have g := Blk.new w 68 #[.string ⟨#[]⟩, .string ⟨#[]⟩]
 have hB : Below w.heap.size w (w.alloc (.cells #[.string ⟨#[]⟩, .string ⟨#[]⟩] 68)) := (Below.refl _ _).alloc (Nat.le_refl _) _
 clear hs htt hx hy hb0 ha9 hb9 ht
 go_enter Tryz.func97, Tryz.ntmps97
 go_wp2_with fail
 refine (OA.out _ hB).mono ?_
 rintro e w1 ⟨rfl, hb⟩
 have g := g.next hb
 have hB := hB.trans (hb.mono hB.size)
 clear hb
 go_wp2_with fail
 refine (OB.out _ hB).mono ?_
 rintro e w2 ⟨rfl, hb⟩
 have g := g.next hb
 have hB := hB.trans (hb.mono hB.size)
 clear hb
 go_wp2_with fail
 refine (MK.out _ hB).mono ?_
 rintro e w3 ⟨rfl, hb⟩
 have g := g.next hb
 have hB := hB.trans (hb.mono hB.size)
 have c0 := g.cell 0
 have c1 := g.cell 1
 have f0 := g.frozen 0
 have f1 := g.frozen 1
 clear hb
 go_wp2
 refine bodyPost_ret (results_f1 rfl rfl ((g.set_ 0 (.string x)).set_ 1 (.string y)) rfl) rfl ?_
 exact ⟨rfl, (hB.setCell (Nat.le_refl _) _).setCell (Nat.le_refl _) _⟩
end Go.Proofs.YtnbikkcalcpedaaGreatDoor
namespace Go.Proofs.YtnbikkcalcpedaaGreatDoor
open Go.RowKit
def avS (l : List Int) : Nat → Int
 | 0 => 0
 | k + 1 => avS l k + (k : Int) * l.getD k 0
def avN (l : List Int) (k : Nat) : Int := (l.take k).sum
theorem avN_step {l : List Int} {k : Nat} {x : Int} (h : l[k]? = some x) : avN l (k + 1) = avN l k + x := sumTake h
theorem av_bd {l : List Int} (hl : l.length ≤ 300) (h : ∀ x ∈ l, 0 ≤ x ∧ x ≤ 1000) : ∀ k, k ≤ l.length → 0 ≤ avS l k ∧ avS l k ≤ 300000 * (k : Int) ∧ 0 ≤ avN l k ∧ avN l k ≤ 1000 * (k : Int)
 | 0, _ => by simp [avS, avN]
 | k + 1, hk => by
   obtain ⟨h1, h2, h3, h4⟩ := av_bd hl h k (by omega)
   obtain ⟨x, hx⟩ := get_of_lt (xs := l) (k := k) (by omega)
   obtain ⟨x0, x1⟩ := h x (List.mem_of_getElem? hx)
   rw [avN_step hx, avS, getD_at hx]
   have h5 : 0 ≤ (k : Int) * x := Int.mul_nonneg (by omega) x0
   have h6 : (k : Int) * x ≤ 300 * 1000 := by
    have : (k : Int) * x ≤ (300 : Int) * 1000 := Int.mul_le_mul (by omega) x1 x0 (by omega)
    omega
   omega
def lavE (n : Int) (es : List E3) (q : Int) : Value × Int := if rootErr n es q = 0 then (fracV (avS (lcntE n es q).1 (lcntE n es q).1.length).toNat (avN (lcntE n es q).1 (lcntE n es q).1.length).toNat, 0) else (.agg #[.string ⟨#[]⟩, .string ⟨#[]⟩], rootErr n es q)
theorem laverage_ok (n q : Nat) (A : Option Addr) (c : Nat) (es : List E3) (hlen : es.length ≤ 10000) (hx : rootErr n es q = 0) (hm : (endsL es).length ≤ 200) (hR : (recsL n es q).length ≤ 1000) (hN0 : 0 < avN (lcntE n es q).1 (lcntE n es q).1.length) (w : World) (ht : Tab10 w) (h : Reads w w.heap.size 3 A es.length (edgeCells es)) :
  Calls Tryz.prog 38 #[.agg #[.int .i64 n, .slice A es.length c], .int .i64 q] w fun e w' => e = .returned (.tuple #[(lavE n es q).1, .int .i64 0]) ∧ Below w.heap.size w w' := by
 have hE : lavE n es q = (fracV (avS (lcntE n es q).1 (lcntE n es q).1.length).toNat (avN (lcntE n es q).1 (lcntE n es q).1.length).toNat, 0) := by unfold lavE; rw [if_pos hx]
 rw [hE]
 dsimp only
 have hL2 : (lcntE n es q).2 = 0 := by unfold lcntE; rw [if_pos hx]
 have CC := Lib.hid (fun (W : World) (hB : Below w.heap.size w W) => lcounts_any n A c es hlen q (fun _ => ⟨by omega, Nat.le_trans hR (by omega)⟩) W ((h.below hB).more hB.size))
 rw [hL2] at CC
 have hnn : ∀ x ∈ (lcntE n es q).1, 0 ≤ x ∧ x ≤ 1000 := by
  unfold lcntE
  rw [if_pos hx]
  intro x hxm
  obtain ⟨k, _, rfl⟩ := List.mem_map.1 hxm
  have : ((recsL (n : Int).toNat es (q : Int).toNat).map (lvlC es (q : Int).toNat)).count (k : Int) ≤ ((recsL (n : Int).toNat es (q : Int).toNat).map (lvlC es (q : Int).toNat)).length := List.count_le_length
  rw [List.length_map] at this
  have h2 : (recsL (n : Int).toNat es (q : Int).toNat).length ≤ 1000 := hR
  omega
 have hll : (lcntE n es q).1.length ≤ 202 := by
  unfold lcntE
  rw [if_pos hx]
  dsimp only
  rw [cntI_length]
  obtain ⟨_, hG, _, _⟩ := root_zero hx
  have hse : (endsL (straightL es)).length ≤ (endsL es).length := by rw [ends_straight hG.ok]; exact List.length_filter_le _ _
  omega
 obtain ⟨L, hL⟩ : ∃ L, (lcntE n es q).1 = L := ⟨_, rfl⟩
 rw [hL] at CC hnn hll hN0 ⊢
 have HBD := Lib.hid (av_bd (by omega) hnn)
 have hbl := HBD.out L.length (Nat.le_refl _)
 have FC := Lib.hid (fun (W : World) (hB : Below w.heap.size w W) => fracOf_any (avS L L.length).toNat (avN L L.length).toNat (by omega) (by omega) (by omega) W (ht.below hB))
 rw [Int.toNat_of_nonneg (by omega), Int.toNat_of_nonneg (by omega)] at FC
 have HXS : Hid (∀ k x, L[k]? = some x → avS L (k + 1) = avS L k + (k : Int) * x ∧ avN L (k + 1) = avN L k + x ∧ 0 ≤ x ∧ x ≤ 1000) := fun k x hx => ⟨by rw [avS, getD_at hx], avN_step hx, (hnn x (List.mem_of_getElem? hx)).1, (hnn x (List.mem_of_getElem? hx)).2⟩
 obtain ⟨K, hK⟩ : ∃ K, L.length = K := ⟨_, rfl⟩
 have HKK := Lib.hid hK
 rw [hK] at CC FC HBD hll ⊢
 unfold fracV at FC ⊢
 obtain ⟨fx, hfx⟩ : ∃ s, intS ((avS L K).toNat / Nat.gcd (avS L K).toNat (avN L K).toNat : Nat) = s := ⟨_, rfl⟩
 obtain ⟨fy, hfy⟩ : ∃ s, intS ((avN L K).toNat / Nat.gcd (avS L K).toNat (avN L K).toNat : Nat) = s := ⟨_, rfl⟩
 rw [hfx, hfy] at FC ⊢
 obtain ⟨FS, hFS⟩ : ∃ F : Nat → Int, avS L = F := ⟨_, rfl⟩
 obtain ⟨FN, hFN⟩ : ∃ F : Nat → Int, avN L = F := ⟨_, rfl⟩
 rw [hFS, hFN] at FC
 have HXS : Hid (∀ k x, L[k]? = some x → FS (k + 1) = FS k + (k : Int) * x ∧ FN (k + 1) = FN k + x ∧ 0 ≤ x ∧ x ≤ 1000) := by rw [← hFS, ← hFN]; exact HXS
 have HBD : Hid (∀ k, k ≤ K → 0 ≤ FS k ∧ FS k ≤ 300000 * (k : Int) ∧ 0 ≤ FN k ∧ FN k ≤ 1000 * (k : Int)) := by rw [← hFS, ← hFN]; exact HBD
 have hF0 : Hid (FS 0 = 0 ∧ FN 0 = 0) := by rw [← hFS, ← hFN]; exact ⟨rfl, by simp [avN]⟩
 obtain ⟨M, hM⟩ : ∃ M, es.length = M := ⟨_, rfl⟩
 rw [hM] at CC ⊢
 obtain ⟨w2, hw2⟩ : ∃ w2, (w.alloc (.cells #[.int .i64 n, .slice A M c] 24)).alloc (.cells #[.string ⟨#[]⟩, .string ⟨#[]⟩] 68) = w2 := ⟨_, rfl⟩
 have g : Blk w2 w.heap.size 24 #[.int .i64 n, .slice A M c] := by rw [← hw2]; exact (Blk.new w _ _).alloc _
 have gf : Blk w2 (w.heap.size + 1) 68 #[.string ⟨#[]⟩, .string ⟨#[]⟩] := by rw [← hw2]; exact blk_atC (by simp)
 have hB : Below w.heap.size w w2 := by rw [← hw2]; exact ((Below.refl _ _).alloc (Nat.le_refl _) _).alloc (by simp) _
 have HW2 := Lib.hid hw2
 have k0 := g.cell 0
 have k1 := g.cell 1
 clear hx h hE hL hnn hK hM hw2 hR hm hlen hL2 hFS hFN hfx hfy hbl hN0 ht
 go_enter Tryz.func38, Tryz.ntmps38
 go_wp2_with fail
 rw [HW2.out]
 refine (CC.out _ hB).mono ?_
 rintro e w1 ⟨Ac, cc, rfl, oc, hb1⟩
 have GF := Lib.hid (gf.next hb1)
 have HB := Lib.hid (hB.trans (hb1.mono hB.size))
 have rc := oc.reads
 rw [HKK.out] at rc
 have RC := Lib.hid rc
 clear hb1 oc rc gf hB k0 k1 g
 go_wp2
 go_loopw [8, 9, 24] (fun s m i wr => ∃ k : Nat, k ≤ K ∧ i = .int .i64 k ∧ s = .int .i64 (FS k) ∧ m = .int .i64 (FN k) ∧ wr = w1) (fun _ _ i _ => K - (intOf i).toNat)
 case atStart => exact ⟨0, by omega, rfl, by rw [hF0.out.1], by rw [hF0.out.2], rfl⟩
 case round =>
  obtain ⟨k, hk, rfl, rfl, rfl, rfl⟩ := hrel
  by_cases hlt : k < K
  ·obtain ⟨x, hx⟩ := get_of_lt (xs := L) (k := k) (by rw [HKK.out]; exact hlt)
   obtain ⟨b, off, hA, hbb, hcell⟩ := RC.out.at_ (ints_at hx)
   obtain ⟨s1, s2, x0, x1⟩ := HXS.out k x hx
   have hb1 := HBD.out k hk
   have hb2 := HBD.out (k + 1) hlt
   have hi : (k : Int) < (K : Int) := by omega
   obtain ⟨y, hy⟩ : ∃ y, (k : Int) * x = y := ⟨_, rfl⟩
   rw [hy] at s1
   have hw1 : IntKind.i64.wrap ((k : Int) * x) = y := by rw [hy]; exact IntWalk.i64_in _ (by omega)
   have hw2 : IntKind.i64.wrap (FS k + y) = FS k + y := IntWalk.i64_in _ (by omega)
   have hw3 : IntKind.i64.wrap (FN k + x) = FN k + x := IntWalk.i64_in _ (by omega)
   have S1 := Lib.hid s1
   have S2 := Lib.hid s2
   subst hA
   clear hx s1 s2 hb1 hb2 hy
   go_wp2
   go_roundw
   case rel => exact ⟨k + 1, by omega, by go_num, by rw [S1.out], by rw [S2.out], trivial⟩
   case measure => simp [intOf]; omega
  ·obtain rfl : k = K := by omega
   go_wp2_with fail
   refine (FC.out _ HB.out).mono ?_
   rintro e w3 ⟨rfl, hb⟩
   have gf := GF.out.next hb
   have hB := HB.out.trans (hb.mono HB.out.size)
   have c0 := gf.cell 0
   have c1 := gf.cell 1
   have f0 := gf.frozen 0
   have f1 := gf.frozen 1
   go_wp2
   refine bodyPost_ret (results_f1 rfl rfl ((gf.set_ 0 _).set_ 1 _) rfl) rfl ?_
   exact ⟨rfl, (hB.setCell (by show w.heap.size ≤ w.heap.size + 1; omega) _).setCell (by show w.heap.size ≤ w.heap.size + 1; omega) _⟩
end Go.Proofs.YtnbikkcalcpedaaGreatDoor
