/-
  Texts of this claim, put together: RVer, RCalm.
-/
import Derived.Test.YthbannpmfdflaaaK28
import Derived.Test.YthbannpmfdflaaaK31
import Derived.Test.YthbannpmfdflaaaK02
import Derived.BigRegion
import Derived.Deep.RegionWith
import Derived.Deep.RegionHeld3
import Derived.Test.YthbannpmfdflaaaK13
import Derived.Test.YthbannpmfdflaaaK20
/-! ref08.Renaming; ref23.Proves and Verify. -/
namespace Go.Proofs.Ythbannpmfdflaaa
open Go.RowKit

set_option maxRecDepth 100000 in
set_option maxHeartbeats 2000000 in
theorem renaming_any (n : Int) (D : Option Addr) (f : Nat) (xs : List Int) (hf : xs.length ≤ f) (hs : xs.length ≤ 1048576) (w : World) (h : Reads w w.heap.size 1 D xs.length (ints xs)) :
    Calls Try.prog 77 #[.int .i64 n, .slice D xs.length f] w fun e w' => e = .returned (.int .i64 (renErr n xs)) ∧ Below w.heap.size w w' := by
  by_cases hl : (xs.length : Int) = n
  · have hi0 : ((xs.length : Int) != n) = false := by simp; omega
    have hR0 : Hid (renErr n xs = renFrom n (xs.take 0) (xs.drop 0)) := by rw [Hid]; unfold renErr; rw [if_neg (by omega)]; rfl
    obtain ⟨r, hr⟩ : ∃ r, renErr n xs = r := ⟨_, rfl⟩
    rw [hr] at hR0 ⊢
    have HL := Lib.hid hl
    clear hr hl
    go_enter Try.func77, Try.ntmps77
    go_wp2
    go_loopw [5] (fun i wr => ∃ k : Nat, k ≤ xs.length ∧ i = .int .i64 k ∧ Hid (r = renFrom n (xs.take k) (xs.drop k)) ∧ Below w.heap.size w wr) (fun i _ => xs.length - (intOf i).toNat)
    case atStart => exact ⟨0, by omega, rfl, hR0, Below.refl _ _⟩
    case round =>
      obtain ⟨k, hk, rfl, HS, hbel⟩ := hrel
      have hsz := hbel.size
      by_cases hlt : k < xs.length
      · obtain ⟨x, hx⟩ := get_of_lt hlt
        have hd := renFrom_at (n := n) hx
        rw [← HS.out] at hd
        obtain ⟨b, off, rfl, hb, hcell⟩ := (h.below hbel).at_ (ints_at hx)
        have hi : (k : Int) < n := by have := HL.out; omega
        have hi2 : (k : Int) < (xs.length : Int) := by omega
        have hkf : (k : Int) ≤ (f : Int) := by omega
        have hrt := ((h.below hbel).more hsz).upto k hlt
        by_cases h1 : x < 0
        · rw [if_pos (.inl h1)] at hd
          have HD := Lib.hid hd
          clear hd hx
          go_wp2
          go_ret
          exact ⟨ret_int HD.out.symm, hbel⟩
        · by_cases h2 : n ≤ x
          · rw [if_pos (.inr h2)] at hd
            have HD := Lib.hid hd
            clear hd hx
            go_wp2
            go_ret
            exact ⟨ret_int HD.out.symm, hbel⟩
          · rw [if_neg (by omega)] at hd
            have CC : ∀ W : World, Reads W W.heap.size 1 (some ⟨b, off, none⟩) k (ints (xs.take k)) → _ := fun W hW => holds_any (some ⟨b, off, none⟩) f (xs.take k) (by rw [List.length_take]; omega) x W (by rw [List.length_take, Nat.min_eq_left (by omega)]; exact hW)
            simp only [List.length_take, Nat.min_eq_left (show k ≤ xs.length by omega)] at CC
            by_cases h3 : x ∈ xs.take k
            · rw [if_pos h3] at hd
              simp only [decide_eq_true h3] at CC
              have HD := Lib.hid hd
              have CC := Lib.hid CC
              have HRT := Lib.hid hrt
              clear hd hx h3 hrt
              go_wp2
              go_region_with (go_at_call 127; refine (CC.out _ (by exact HRT.out)).mono ?_; rintro e w' ⟨rfl, rfl⟩)
              all_goals (
                go_wp2
                go_ret
                exact ⟨ret_int HD.out.symm, below_drewN hbel _⟩)
            · rw [if_neg h3] at hd
              simp only [decide_eq_false h3] at CC
              have HD := Lib.hid hd
              have CC := Lib.hid CC
              have HRT := Lib.hid hrt
              clear hd hx h3 hrt
              go_wp2
              go_region_with (go_at_call 127; refine (CC.out _ (by exact HRT.out)).mono ?_; rintro e w' ⟨rfl, rfl⟩)
              all_goals (
                go_wp2
                go_roundw
                case rel => exact ⟨k + 1, by omega, by go_num, HD.out, below_drewN hbel _⟩
                case measure => simp [intOf]; omega)
      · obtain rfl : k = xs.length := by omega
        have hi : ¬ (xs.length : Int) < n := by have := HL.out; omega
        go_wp2
        go_ret
        exact ⟨ret_int (by rw [HS.out, renFrom_end]), hbel⟩
  · have hi0 : ((xs.length : Int) != n) = true := by simp; omega
    have hR : renErr n xs = 8 := by unfold renErr; rw [if_pos hl]
    rw [hR]
    clear hR hl
    go_enter Try.func77, Try.ntmps77
    go_wp2
    go_ret
    exact ⟨rfl, Below.refl _ _⟩

set_option maxRecDepth 100000 in
set_option maxHeartbeats 4000000 in
theorem rproves_any (n : Nat) (hn12 : n ≤ 12) (hn0 : 0 < n) (A : Option Addr) (c : Nat) (es : List E3) (hn : es.length ≤ 1048576) (N : Int) (hok : ∀ e ∈ es, okE N e) (q : Int) (B : Option Addr) (d : Nat) (cs : List Int) (hcl : cs.length = n)
    (D : Option Addr) (f : Nat) (l : List Nat) (hlo : LOk n l) (hll : l.length = n) (hf : l.length ≤ f) (w : World)
    (h : Reads w w.heap.size 3 A es.length (edgeCells es)) (h' : Reads w w.heap.size 1 B cs.length (ints cs)) (h'' : Reads w w.heap.size 1 D l.length (ints (natsI l))) :
    Calls Try.prog 78 #[.agg #[.int .i64 n, .slice A es.length c], .int .i64 q, .slice B cs.length d, .slice D l.length f] w fun e w' => e = .returned (.bool (decide (((l.getD 0 0 : Nat) : Int) = q) && provL es cs l)) ∧ Below w.heap.size w w' := by
  have g0 := Blk.new w 24 #[.int .i64 n, .slice A es.length c]
  have hb0 : Below w.heap.size w (w.alloc (.cells #[.int .i64 n, .slice A es.length c] 24)) := (Below.refl _ _).alloc (Nat.le_refl _) _
  have JC := Lib.hid (fun v l hl D f w h h' => jns_any n A c es hn N hok v D f l hl w h h')
  have HLO := Lib.hid hlo
  have HLL := Lib.hid hll
  have HCL := Lib.hid hcl
  have HV0 : Hid (provL es cs l = provFrom es cs (l.take 1) (l.drop 1)) := rfl
  obtain ⟨b, off, rfl, hbk, hcells⟩ := h''.2 (by omega)
  obtain ⟨x0, hx0⟩ := get_of_lt (xs := l) (k := 0) (by omega)
  have hxg : l.getD 0 0 = x0 := by rw [List.getD_eq_getElem?_getD, hx0]; rfl
  rw [hxg]
  obtain ⟨r, hr⟩ : ∃ r, provL es cs l = r := ⟨_, rfl⟩
  rw [hr] at HV0 ⊢
  have hll1 : 1 ≤ l.length := by omega
  have hl12 : l.length ≤ 12 := by omega
  clear hlo hll hcl hok hr hcells hxg
  go_enter Try.func78, Try.ntmps78
  go_wp2
  go_loopw [9] (fun i wr => ∃ k : Nat, 1 ≤ k ∧ k ≤ l.length ∧ i = .int .i64 k ∧ Hid (r = provFrom es cs (l.take k) (l.drop k)) ∧ Below w.heap.size w wr ∧ Blk wr w.heap.size 24 #[.int .i64 n, .slice A es.length c]) (fun i _ => l.length - (intOf i).toNat)
  case atStart => exact ⟨1, by omega, hll1, rfl, HV0, hb0, g0⟩
  case round =>
    obtain ⟨k, hk1, hk, rfl, HS, hbel, g1⟩ := hrel
    clear HV0 hb0 g0
    have hsz := hbel.size
    by_cases hlt : k < l.length
    · obtain ⟨v, hv⟩ := get_of_lt hlt
      have hvn : v < n := HLO.out.2 v (List.mem_of_getElem? hv)
      obtain ⟨y, hy⟩ := get_of_lt (xs := cs) (k := v) (by have := HCL.out; omega)
      have hd := provFrom_at (es := es) (cs := cs) hv
      rw [← HS.out, getD_at hy] at hd
      have hrd := h''
      rw [← natsI_length l] at hrd
      obtain ⟨b', off', hA, _, hcell⟩ := (hrd.below hbel).at_ (ints_at (natsI_at hv))
      injection hA with hA; injection hA with e1 e2; subst e1 e2
      obtain ⟨bc, offc, rfl, hbc, hcy⟩ := (h'.below hbel).at_ (ints_at hy)
      have hi : (k : Int) < (l.length : Int) := by omega
      have hkf : (k : Int) ≤ (f : Int) := by omega
      have hvi : (v : Int) < (cs.length : Int) := by have := HCL.out; omega
      have hrt := ((hrd.below hbel).more hsz).upto k (by rw [natsI_length]; exact hlt)
      have htl : (l.take k).length = k := by rw [List.length_take]; omega
      have hnt : natsI (l.take k) = (natsI l).take k := by simp [natsI, List.map_take]
      have JV : Hid (∀ W : World, Reads W W.heap.size 3 A es.length (edgeCells es) → Reads W W.heap.size 1 (some ⟨b, off, none⟩) k (ints ((natsI l).take k)) → Calls Try.prog 128 #[.agg #[.int .i64 n, .slice A es.length c], .int .i64 v, .slice (some ⟨b, off, none⟩) k f] W fun e w' => e = .returned (.int .i64 (joinsN es v (l.take k))) ∧ Below W.heap.size W w') := by
        intro W r1 r2
        have := JC.out v (l.take k) (by rw [htl]; have := HLL.out; omega) (some ⟨b, off, none⟩) f W r1 (by rw [htl, hnt]; exact r2)
        rwa [htl] at this
      have RG := Lib.hid ((h.below hbel).more hsz)
      have RT := Lib.hid hrt
      have c0 := g1.cell 0
      have c1 := g1.cell 1
      have hgl := g1.lt
      obtain ⟨j, hj⟩ : ∃ j, joinsN es v (l.take k) = j := ⟨_, rfl⟩
      rw [hj] at JV hd
      by_cases hyj : y < j
      · rw [decide_eq_true hyj, Bool.true_and] at hd
        have hge : ¬ j ≤ y := by omega
        have HD := Lib.hid hd
        clear hd hv hy hrd hrt htl hnt hj h''
        go_wp2
        go_region_held3 (fun W => W.cell? ⟨w.heap.size, 0, none⟩ = some (.int .i64 n) ∧ W.cell? ⟨w.heap.size, 1, none⟩ = some (.slice A es.length c) ∧ W.cell? ⟨b, off + k, none⟩ = some (.int .i64 v) ∧ W.cell? ⟨bc, offc + v, none⟩ = some (.int .i64 y)) (go_keep)
          (first | (go_at_call 128; refine (JV.out _ (by exact RG.out) (by exact RT.out)).mono ?_; rintro e w5 ⟨rfl, hb5⟩
                    have k0 := (hb5.cell (p := ⟨w.heap.size, 0, none⟩) (by exact hgl)).trans c0
                    have k1 := (hb5.cell (p := ⟨w.heap.size, 1, none⟩) (by exact hgl)).trans c1
                    have k2 := (hb5.cell (p := ⟨b, off + k, none⟩) (by show b < wr.heap.size; omega)).trans hcell
                    have k3 := (hb5.cell (p := ⟨bc, offc + v, none⟩) (by show bc < wr.heap.size; omega)).trans hcy))
        all_goals (
          have hb5' : Below wr.heap.size wr w5 := (Below.refl _ _).drew.trans hb5
          go_wp2
          go_roundw
          case rel => exact ⟨k + 1, by omega, by omega, by go_num, HD.out, hbel.trans (hb5'.mono hsz), g1.next hb5'⟩
          case measure => simp [intOf]; omega)
      · rw [decide_eq_false hyj, Bool.false_and] at hd
        have hge : j ≤ y := by omega
        have HD := Lib.hid hd
        clear hd hv hy hrd hrt htl hnt hj h''
        go_wp2
        go_region_held3 (fun W => W.cell? ⟨w.heap.size, 0, none⟩ = some (.int .i64 n) ∧ W.cell? ⟨w.heap.size, 1, none⟩ = some (.slice A es.length c) ∧ W.cell? ⟨b, off + k, none⟩ = some (.int .i64 v) ∧ W.cell? ⟨bc, offc + v, none⟩ = some (.int .i64 y)) (go_keep)
          (first | (go_at_call 128; refine (JV.out _ (by exact RG.out) (by exact RT.out)).mono ?_; rintro e w5 ⟨rfl, hb5⟩
                    have k0 := (hb5.cell (p := ⟨w.heap.size, 0, none⟩) (by exact hgl)).trans c0
                    have k1 := (hb5.cell (p := ⟨w.heap.size, 1, none⟩) (by exact hgl)).trans c1
                    have k2 := (hb5.cell (p := ⟨b, off + k, none⟩) (by show b < wr.heap.size; omega)).trans hcell
                    have k3 := (hb5.cell (p := ⟨bc, offc + v, none⟩) (by show bc < wr.heap.size; omega)).trans hcy))
        all_goals (
          have hb5' : Below wr.heap.size wr w5 := (Below.refl _ _).drew.trans hb5
          go_wp2
          go_ret
          exact ⟨ret_bool (by rw [HD.out, Bool.and_false]), hbel.trans (hb5'.mono hsz)⟩)
    · obtain rfl : k = l.length := by omega
      have hr1 : r = true := by rw [HS.out, List.drop_length]; rfl
      subst hr1
      have hrd := h''
      rw [← natsI_length l] at hrd
      obtain ⟨b', off', hA, _, hcell⟩ := (hrd.below hbel).at_ (k := 0) (ints_at (natsI_at hx0))
      injection hA with hA; injection hA with e1 e2; subst e1 e2
      rw [Nat.add_zero] at hcell
      have h00 : (0 : Int) < (l.length : Int) := by omega
      clear hrd h'' hx0
      go_wp2
      go_ret
      refine ⟨ret_bool ?_, hbel⟩
      rw [Bool.eq_iff_iff]
      simp

set_option maxRecDepth 100000 in
set_option maxHeartbeats 2000000 in
theorem rverify_any (n : Int) (A : Option Addr) (c : Nat) (es : List E3) (hn : es.length ≤ 1048576) (q : Int) (B : Option Addr) (d : Nat) (cs : List Int) (hm : cs.length ≤ 1048000) (D : Option Addr) (f : Nat) (xs : List Int) (hf : xs.length ≤ f) (hs : xs.length ≤ 1048576) (w : World)
    (h : Reads w w.heap.size 3 A es.length (edgeCells es)) (h' : Reads w w.heap.size 1 B cs.length (ints cs)) (h'' : Reads w w.heap.size 1 D xs.length (ints xs)) :
    Calls Try.prog 30 #[.agg #[.int .i64 n, .slice A es.length c], .int .i64 q, .slice B cs.length d, .slice D xs.length f] w fun e w' => e = .returned (.tuple #[.bool (verB n es q cs xs), .int .i64 (verErr n es q cs xs)]) ∧ Below w.heap.size w w' := by
  have g0 := Blk.new w 24 #[.int .i64 n, .slice A es.length c]
  have hb0 : Below w.heap.size w (w.alloc (.cells #[.int .i64 n, .slice A es.length c] 24)) := (Below.refl _ _).alloc (Nat.le_refl _) _
  have hbc := rbcheck_any n A c es hn q B d cs (by omega)
  by_cases hz : burnErr n es q cs = 0
  · rw [hz] at hbc
    have BC := Lib.hid hbc
    have hE : verErr n es q cs xs = renErr n xs := by unfold verErr; rw [if_neg (by omega)]
    obtain ⟨hG, _, hq0, hqn, hlen, hbd, _⟩ := conf_zero (burn_zero hz).1
    have hhi := hG.hi
    have hlo := hG.lo
    obtain ⟨m, rfl⟩ := Int.eq_ofNat_of_zero_le (show 0 ≤ n by omega)
    have RC := Lib.hid (fun w h => renaming_any m D f xs hf hs w h)
    by_cases hr : renErr m xs = 0
    · obtain ⟨l, hl, hlo2, hll⟩ := ren_nats hr
      have hxl : xs.length = l.length := by rw [hl, natsI_length]
      have PC : Hid (∀ W : World, Reads W W.heap.size 3 A es.length (edgeCells es) → Reads W W.heap.size 1 B cs.length (ints cs) → Reads W W.heap.size 1 D xs.length (ints xs) → Calls Try.prog 78 #[.agg #[.int .i64 m, .slice A es.length c], .int .i64 q, .slice B cs.length d, .slice D xs.length f] W fun e w' => e = .returned (.bool (verB m es q cs xs)) ∧ Below W.heap.size W w') := by
        intro W r1 r2 r3
        have hV : verB m es q cs xs = (decide (((l.getD 0 0 : Nat) : Int) = q) && provL es cs l) := by unfold verB; rw [hE, if_pos hr, hl, nats_toNat, natsI_getD]
        have := rproves_any m (by omega) (by omega) A c es hn m hG.ok q B d cs (by omega) D f l hlo2 hll (by omega) W r1 r2 (by rw [← hxl, ← hl]; exact r3)
        rw [← hxl] at this
        rw [hV]
        exact this
      rw [hE]
      rw [hr] at RC ⊢
      clear hz hE hbc hG hbd hr hl hlo2 hll hxl hlen
      go_enter Try.func30, Try.ntmps30
      go_wp2_with fail
      refine (BC.out _ ((h.alloc (Nat.le_refl _) _).more (by simp)) ((h'.alloc (Nat.le_refl _) _).more (by simp))).mono ?_
      rintro e w1 ⟨rfl, hb1⟩
      have g1 := g0.next hb1
      have c0 := g1.cell 0
      have c1 := g1.cell 1
      have hB1 := hb0.trans (hb1.mono hb0.size)
      go_wp2_with fail
      refine (RC.out _ ((h''.below hB1).more hB1.size)).mono ?_
      rintro e w2 ⟨rfl, hb2⟩
      have g2 := g1.next hb2
      have c0 := g2.cell 0
      have c1 := g2.cell 1
      have hB2 := hB1.trans (hb2.mono hB1.size)
      go_wp2_with fail
      refine (PC.out _ ((h.below hB2).more hB2.size) ((h'.below hB2).more hB2.size) ((h''.below hB2).more hB2.size)).mono ?_
      rintro e w3 ⟨rfl, hb3⟩
      go_wp2
      go_ret2
      exact ⟨rfl, hB2.trans (hb3.mono hB2.size)⟩
    · have HV : Hid (verB m es q cs xs = false) := by rw [Hid]; unfold verB; rw [hE, if_neg hr]
      rw [hE]
      obtain ⟨z, hzz⟩ : ∃ z, renErr m xs = z := ⟨_, rfl⟩
      rw [hzz] at RC hr ⊢
      have hb : (z != 0) = true := by simpa using hr
      clear hz hE hbc hG hbd hr hzz hlen
      go_enter Try.func30, Try.ntmps30
      go_wp2_with fail
      refine (BC.out _ ((h.alloc (Nat.le_refl _) _).more (by simp)) ((h'.alloc (Nat.le_refl _) _).more (by simp))).mono ?_
      rintro e w1 ⟨rfl, hb1⟩
      have g1 := g0.next hb1
      have c0 := g1.cell 0
      have c1 := g1.cell 1
      have hB1 := hb0.trans (hb1.mono hb0.size)
      go_wp2_with fail
      refine (RC.out _ ((h''.below hB1).more hB1.size)).mono ?_
      rintro e w2 ⟨rfl, hb2⟩
      go_wp2
      go_ret2
      exact ⟨by rw [HV.out]; rfl, hB1.trans (hb2.mono hB1.size)⟩
  · have hE : verErr n es q cs xs = burnErr n es q cs := by unfold verErr; rw [if_pos hz]
    have HV : Hid (verB n es q cs xs = false) := by rw [Hid]; unfold verB; rw [hE, if_neg hz]
    rw [hE]
    obtain ⟨z, hzz⟩ : ∃ z, burnErr n es q cs = z := ⟨_, rfl⟩
    rw [hzz] at hbc hz ⊢
    have hb : (z != 0) = true := by simpa using hz
    have BC := Lib.hid hbc
    clear hz hE hbc hzz
    go_enter Try.func30, Try.ntmps30
    go_wp2_with fail
    refine (BC.out _ ((h.alloc (Nat.le_refl _) _).more (by simp)) ((h'.alloc (Nat.le_refl _) _).more (by simp))).mono ?_
    rintro e w1 ⟨rfl, hb1⟩
    have hB1 := hb0.trans (hb1.mono hb0.size)
    go_wp2
    go_ret2
    exact ⟨by rw [HV.out]; rfl, hB1⟩
end Go.Proofs.Ythbannpmfdflaaa

/-! ref08.Valence, ref19.Waiting, ref19.Calm. -/
namespace Go.Proofs.Ythbannpmfdflaaa
open Go.RowKit

theorem valS_bd {N : Int} {es : List E3} (hok : ∀ e ∈ es, okE N e) (v k : Nat) : 0 ≤ sumTo (fun w => tt es v w) k ∧ sumTo (fun w => tt es v w) k ≤ 50 * k := by
  induction k with
  | zero => simp [sumTo]
  | succ k ih =>
    have := tt_bd hok v k
    rw [sumTo]
    omega
set_option maxRecDepth 100000 in
set_option maxHeartbeats 4000000 in
theorem val08_any (n : Nat) (A : Option Addr) (c : Nat) (es : List E3) (hlen : es.length ≤ 10000) (hG : RightG n es) (v : Nat) (w : World) (h : Reads w w.heap.size 3 A es.length (edgeCells es)) :
    Calls Try.prog 150 #[.agg #[.int .i64 n, .slice A es.length c], .int .i64 v] w fun e w' => e = .returned (.int .i64 (valE es v)) ∧ Below w.heap.size w w' := by
  have HSB := Lib.hid (fun k => valS_bd hG.ok v k)
  have HVS : Hid (valE es v = sumTo (fun w => tt es v w) n) := valE_valS hG
  have hn12 : n ≤ 12 := by have := hG.hi; omega
  have HOK := Lib.hid hG.ok
  have g0 := Blk.new w 24 #[.int .i64 n, .slice A es.length c]
  have B0 : Below w.heap.size w (w.alloc (.cells #[.int .i64 n, .slice A es.length c] 24)) := (Below.refl _ _).alloc (Nat.le_refl _) _
  clear hG
  go_enter Try.func150, Try.ntmps150
  go_wp2_with fail
  go_loopw [5, 6] (fun s i wl => ∃ (k : Nat), i = .int .i64 k ∧ k ≤ n ∧ s = .int .i64 (sumTo (fun w => tt es v w) k) ∧ Hid (Below w.heap.size w wl) ∧ Hid (Blk wl w.heap.size 24 #[.int .i64 n, .slice A es.length c])) (fun _ i _ => n - (intOf i).toNat)
  case atStart => exact ⟨0, rfl, by omega, rfl, B0, g0⟩
  case round =>
    obtain ⟨k, rfl, hk, rfl, HB, HGr⟩ := hrel
    clear g0 B0
    have c0 := HGr.out.cell 0
    have c1 := HGr.out.cell 1
    have hs := HSB.out k
    obtain ⟨x, hx⟩ : ∃ x, sumTo (fun w => tt es v w) k = x := ⟨_, rfl⟩
    have hxs : sumTo (fun w => tt es v w) (k + 1) = x + tt es v k := by rw [sumTo, hx]
    rw [hx] at hs ⊢
    clear hx
    by_cases hlt : k < n
    · have hi : (k : Int) < (n : Int) := by omega
      by_cases hkv : k = v
      · have hne : ((k : Int) != (v : Int)) = false := by simp [hkv]
        have ht : tt es v k = 0 := by unfold tt; rw [if_pos hkv.symm]
        rw [ht, Int.add_zero] at hxs
        have HX := Lib.hid hxs
        clear hxs ht
        go_wp2
        go_roundw
        case rel => exact ⟨k + 1, by go_num, by omega, by rw [HX.out], HB, HGr⟩
        case measure => simp [intOf]; omega
      · have hne : ((k : Int) != (v : Int)) = true := by rw [bne_iff_ne]; omega
        have ht : tt es v k = btw es k v := by rw [tt_comm]; unfold tt; rw [if_neg hkv]
        have hbd := btw_bd HOK.out (k : Int) (v : Int)
        have BC := Lib.hid (between_any n A c es (by omega) k v wr ((h.below HB.out).more HB.out.size))
        rw [ht] at hxs
        obtain ⟨y, hy⟩ : ∃ y, btw es k v = y := ⟨_, rfl⟩
        rw [hy] at hxs hbd BC
        have hw1 : IntKind.i64.wrap (x + y) = x + y := IntWalk.i64_in _ (by omega)
        have HX := Lib.hid hxs
        clear hxs ht hy
        go_wp2_with fail
        refine (BC.out).mono ?_
        rintro e w5 ⟨rfl, b5⟩
        have B5 := Lib.hid (HB.out.trans (b5.mono HB.out.size))
        have G5 := Lib.hid (HGr.out.next b5)
        go_wp2
        go_roundw
        case rel => exact ⟨k + 1, by go_num, by omega, by rw [HX.out], B5, G5⟩
        case measure => simp [intOf]; omega
    · obtain rfl : k = n := by omega
      have hB := HB.out
      have HVX : Hid (valE es v = x) := by rw [Hid, HVS.out]; rw [sumTo] at hxs; omega
      go_wp2
      go_ret
      exact ⟨by rw [HVX.out]; rfl, hB⟩

/-- The unstable vertices below k. -/
def unsL (es : List E3) (q : Nat) (cs : List Int) (k : Nat) : List Nat := (List.range k).filter fun v => decide (v ≠ q) && decide (valE es v ≤ cs.getD v 0)
theorem unsL_succ (es : List E3) (q : Nat) (cs : List Int) (k : Nat) : unsL es q cs (k + 1) = unsL es q cs k ++ if k ≠ q ∧ valE es k ≤ cs.getD k 0 then [k] else [] := by
  unfold unsL
  rw [List.range_succ, List.filter_append]
  congr 1
  cases hp : (decide (k ≠ q) && decide (valE es k ≤ cs.getD k 0))
  · rw [if_neg (fun hc => by rw [decide_eq_true hc.1, decide_eq_true hc.2] at hp; cases hp)]
    rw [List.filter_cons, if_neg (by rw [hp]; simp), List.filter_nil]
  · rw [Bool.and_eq_true] at hp
    rw [if_pos ⟨of_decide_eq_true hp.1, of_decide_eq_true hp.2⟩]
    rw [List.filter_cons, if_pos (by rw [Bool.and_eq_true]; exact hp), List.filter_nil]
theorem unsL_len (es : List E3) (q : Nat) (cs : List Int) (k : Nat) : (unsL es q cs k).length ≤ k := by
  unfold unsL; exact Nat.le_trans (List.length_filter_le _ _) (by simp)
theorem unsL_nil (es : List E3) (q : Nat) (cs : List Int) (n : Nat) : decide ((unsL es q cs n).length = 0) = stabTo es cs q n := by
  rw [Bool.eq_iff_iff, decide_eq_true_iff, stabTo_iff, List.length_eq_zero_iff]
  unfold unsL
  rw [List.filter_eq_nil_iff]
  constructor
  · intro h v hv hq
    have := h v (List.mem_range.2 hv)
    rw [Bool.and_eq_true, not_and] at this
    have := this (by simpa using hq)
    simp at this
    rw [List.getD_eq_getElem?_getD]; omega
  · intro h v hv hc
    rw [Bool.and_eq_true] at hc
    have h1 := of_decide_eq_true hc.1
    have h2 := of_decide_eq_true hc.2
    have := h v (List.mem_range.1 hv) h1
    omega

set_option maxRecDepth 100000 in
set_option maxHeartbeats 4000000 in
theorem waiting_any (n : Nat) (A : Option Addr) (c : Nat) (es : List E3) (hlen : es.length ≤ 10000) (hG : RightG n es) (q : Nat) (B : Option Addr) (d : Nat) (cs : List Int) (hcl : cs.length = n) (w : World)
    (h : Reads w w.heap.size 3 A es.length (edgeCells es)) (h' : Reads w w.heap.size 1 B n (ints cs)) :
    Calls Try.prog 106 #[.agg #[.int .i64 n, .slice A es.length c], .int .i64 q, .slice B n d] w fun e w' => ∃ A' c', e = .returned (.slice A' (unsL es q cs n).length c') ∧ Below w.heap.size w w' := by
  have hn12 : n ≤ 12 := by have := hG.hi; omega
  have HV := Lib.hid (fun (v : Nat) (W : World) (hB : Below w.heap.size w W) => val08_any n A c es hlen hG v W ((h.below hB).more hB.size))
  have HCL := Lib.hid hcl
  have g0 := Blk.new w 24 #[.int .i64 n, .slice A es.length c]
  have B0 : Below w.heap.size w (w.alloc (.cells #[.int .i64 n, .slice A es.length c] 24)) := (Below.refl _ _).alloc (Nat.le_refl _) _
  clear hG hcl
  go_enter Try.func106, Try.ntmps106
  go_wp2_with fail
  go_loopw [7, 8] (fun o i wl => ∃ (k : Nat) (A' : Option Addr) (c' : Nat), i = .int .i64 k ∧ k ≤ n ∧ o = .slice A' (natI (unsL es q cs k)).length c' ∧ Hid (OwnI wl w.heap.size A' c' (natI (unsL es q cs k))) ∧ Hid (Below w.heap.size w wl) ∧ Hid (Blk wl w.heap.size 24 #[.int .i64 n, .slice A es.length c])) (fun _ i _ => n - (intOf i).toNat)
  case atStart => exact ⟨0, none, 0, rfl, by omega, rfl, OwnI.nil_ _ _, B0, g0⟩
  case round =>
    obtain ⟨k, A', c', rfl, hk, rfl, HO, HB, HGr⟩ := hrel
    clear g0 B0
    have c0 := HGr.out.cell 0
    have c1 := HGr.out.cell 1
    by_cases hlt : k < n
    · have hi : (k : Int) < (n : Int) := by omega
      obtain ⟨x, hx⟩ := get_of_lt (xs := cs) (k := k) (by rw [HCL.out]; exact hlt)
      obtain ⟨bB, oB, hA, hbB, hcell⟩ := (h'.below HB.out).at_ (ints_at hx)
      subst hA
      have hus := unsL_succ es q cs k
      rw [getD_at hx] at hus
      by_cases hkq : k = q
      · have hne : ((k : Int) != (q : Int)) = false := by simp [hkq]
        rw [if_neg (fun hc => hc.1 hkq), List.append_nil] at hus
        have HUS := Lib.hid hus
        clear hus hx hkq
        go_wp2_with fail
        go_quiet (fail)
        have OD : Hid (OwnI (wr.drewN nq) w.heap.size A' c' (natI (unsL es q cs k))) := HO.out.drewN nq
        have BD : Hid (Below w.heap.size w (wr.drewN nq)) := ⟨HB.out.os, HB.out.tape, HB.out.output, HB.out.size, HB.out.block⟩
        have GD : Hid (Blk (wr.drewN nq) w.heap.size 24 #[.int .i64 n, .slice A es.length c]) := HGr.out
        go_wp2
        go_roundw
        case rel => exact ⟨k + 1, A', c', by go_num, by omega, by rw [HUS.out], by rw [HUS.out]; exact OD, BD, GD⟩
        case measure => simp [intOf]; omega
      · have hne : ((k : Int) != (q : Int)) = true := by rw [bne_iff_ne]; omega
        have HV1 := HV.out k wr.drew HB.out.drew
        obtain ⟨V, hVV⟩ : ∃ V, valE es k = V := ⟨_, rfl⟩
        rw [hVV] at HV1 hus
        have HV1 := Lib.hid HV1
        have hgl := HGr.out.lt
        have hbl : bB < wr.heap.size := by have := HB.out.size; omega
        have HGL := Lib.hid hgl
        have HBL := Lib.hid hbl
        by_cases hge : V ≤ x
        · rw [if_pos ⟨hkq, hge⟩] at hus
          have HUS := Lib.hid hus
          have HKQ := Lib.hid hkq
          clear hus hx hkq hVV hgl hbl
          go_wp2_with fail
          go_region_held3 (fun W => W.cell? ⟨w.heap.size, 0, none⟩ = some (.int .i64 n) ∧ W.cell? ⟨w.heap.size, 1, none⟩ = some (.slice A es.length c) ∧ W.cell? ⟨bB, oB + k, none⟩ = some (.int .i64 x)) (go_keep)
            (first | (go_at_call 150; refine (HV1.out).mono ?_; rintro e w5 ⟨rfl, b5⟩
                      have k0 := (b5.cell (p := ⟨w.heap.size, 0, none⟩) HGL.out).trans c0
                      have k1 := (b5.cell (p := ⟨w.heap.size, 1, none⟩) HGL.out).trans c1
                      have k2 := (b5.cell (p := ⟨bB, oB + k, none⟩) HBL.out).trans hcell))
          all_goals
            have B5 := HB.out.drew.trans (b5.mono HB.out.drew.size)
            have O5 : OwnI w5 w.heap.size A' c' (natI (unsL es q cs k)) := OwnI.next (w := wr.drew) HO.out b5
            have G5 : Blk w5 w.heap.size 24 #[.int .i64 n, .slice A es.length c] := Blk.next (w := wr.drew) HGr.out b5
            have hl5 : (natI (unsL es q cs k)).length ≤ 1048000 := by rw [natI_length]; have := unsL_len es q cs k; omega
            have hsz5 := B5.size
            go_wp2_with (at_builtin; refine push_int rfl (.tmp 28) (.tmp 30) _ rfl Try.underlying25 w.heap.size A' c' (natI (unsL es q cs k)) (k : Int) rfl O5 rfl rfl hl5 hsz5 ?_; intro A2 c2 w2 ho2 hgr hb2)
            have G6 := (G5.alloc (.cells #[.int .i64 k] 3)).grown hgr (own_blk_ne O5 G5 (by decide))
            have B6 := B5.trans hb2
            have hsn : natI (unsL es q cs (k + 1)) = natI (unsL es q cs k) ++ [(k : Int)] := by rw [HUS.out, natI_snoc]
            go_roundw
            case rel => exact ⟨k + 1, A2, c2, by go_num, by omega, by rw [hsn]; simp, by rw [hsn]; exact ho2, B6, G6⟩
            case measure => simp [intOf]; omega
        · rw [if_neg (fun hc => hge hc.2), List.append_nil] at hus
          have HUS := Lib.hid hus
          clear hus hx hkq hVV hgl hbl
          go_wp2_with fail
          go_region_held3 (fun W => W.cell? ⟨w.heap.size, 0, none⟩ = some (.int .i64 n) ∧ W.cell? ⟨w.heap.size, 1, none⟩ = some (.slice A es.length c) ∧ W.cell? ⟨bB, oB + k, none⟩ = some (.int .i64 x)) (go_keep)
            (first | (go_at_call 150; refine (HV1.out).mono ?_; rintro e w5 ⟨rfl, b5⟩
                      have k0 := (b5.cell (p := ⟨w.heap.size, 0, none⟩) HGL.out).trans c0
                      have k1 := (b5.cell (p := ⟨w.heap.size, 1, none⟩) HGL.out).trans c1
                      have k2 := (b5.cell (p := ⟨bB, oB + k, none⟩) HBL.out).trans hcell))
          all_goals
            have B5 : Hid (Below w.heap.size w w5) := HB.out.drew.trans (b5.mono HB.out.drew.size)
            have O5 : Hid (OwnI w5 w.heap.size A' c' (natI (unsL es q cs k))) := OwnI.next (w := wr.drew) HO.out b5
            have G5 : Hid (Blk w5 w.heap.size 24 #[.int .i64 n, .slice A es.length c]) := Blk.next (w := wr.drew) HGr.out b5
            go_wp2
            go_roundw
            case rel => exact ⟨k + 1, A', c', by go_num, by omega, by rw [HUS.out], by rw [HUS.out]; exact O5, B5, G5⟩
            case measure => simp [intOf]; omega
    · obtain rfl : k = n := by omega
      have hB := HB.out
      have HL : Hid ((natI (unsL es q cs k)).length = (unsL es q cs k).length) := natI_length _
      go_wp2
      go_ret
      exact ⟨A', c', by rw [← HL.out]; rfl, hB⟩
set_option maxHeartbeats 2000000 in
theorem calm19_any (n : Nat) (A : Option Addr) (c : Nat) (es : List E3) (hlen : es.length ≤ 10000) (hG : RightG n es) (q : Nat) (B : Option Addr) (d : Nat) (cs : List Int) (hcl : cs.length = n) (w : World)
    (h : Reads w w.heap.size 3 A es.length (edgeCells es)) (h' : Reads w w.heap.size 1 B n (ints cs)) :
    Calls Try.prog 55 #[.agg #[.int .i64 n, .slice A es.length c], .int .i64 q, .slice B n d] w fun e w' => e = .returned (.bool (stabTo es cs q n)) ∧ Below w.heap.size w w' := by
  have WC := Lib.hid (fun (W : World) (hB : Below w.heap.size w W) => waiting_any n A c es hlen hG q B d cs hcl W ((h.below hB).more hB.size) ((h'.below hB).more hB.size))
  have B0 : Below w.heap.size w (w.alloc (.cells #[.int .i64 n, .slice A es.length c] 24)) := (Below.refl _ _).alloc (Nat.le_refl _) _
  have HU := Lib.hid (unsL_nil es q cs n)
  have g0 := Blk.new w 24 #[.int .i64 n, .slice A es.length c]
  have c0 := g0.cell 0
  have c1 := g0.cell 1
  clear hG hcl
  go_enter Try.func55, Try.ntmps55
  go_wp2_with fail
  refine (WC.out _ B0).mono ?_
  rintro e w1 ⟨A', c', rfl, hb1⟩
  go_wp2
  go_ret
  exact ⟨ret_bool (by rw [← HU.out, Bool.eq_iff_iff]; simp), B0.trans (hb1.mono B0.size)⟩
end Go.Proofs.Ythbannpmfdflaaa

