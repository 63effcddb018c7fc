/-
  Texts of this claim, put together: RRVer2.
-/
import Derived.Test.YthbannpmfdflaaaK30
import Derived.Test.YthbannpmfdflaaaK32
/-! ref24.catches, Proves, Verify. -/
namespace Go.Proofs.Ythbannpmfdflaaa
open Go.RowKit

set_option maxRecDepth 100000 in
set_option maxHeartbeats 8000000 in
theorem rrcatches_any (n : Nat) (A : Option Addr) (c : Nat) (es : List E3) (B : Option Addr) (d : Nat) (cs : List Int) (hR : RArgs n es cs) (v : Nat) (hv : v < n) (D : Option Addr) (f : Nat) (l : List Nat) (hl : LOk n l) (hvl : v ∉ l) (w : World)
    (h : Reads w w.heap.size 3 A es.length (edgeCells es)) (h' : Reads w w.heap.size 1 B n (ints cs)) (h'' : Reads w w.heap.size 1 D l.length (ints (natsI l))) :
    Calls Try.prog 154 #[.agg #[.int .i64 n, .slice A es.length c], .slice B n d, .int .i64 v, .slice D l.length f] w fun e w' => e = .returned (.bool (catchB es cs l v)) ∧ Below w.heap.size w w' := by
  have hG := right_of hR.hz
  have hn := hR.hn
  have hhi := hG.hi
  have hll := nodup_len hl
  obtain ⟨x, hx⟩ := get_of_lt (xs := cs) (k := v) (by rw [hR.hcl]; exact hv)
  have hxb := hR.hcb x (List.mem_of_getElem? hx)
  obtain ⟨bB, oB, rfl, hbB, hcell⟩ := h'.at_ (ints_at hx)
  have JB := jnE_bd hG.ok l v
  have HJ := Lib.hid (fun (W : World) (hB : Below w.heap.size w W) => jns_any n A c es (by omega) n hG.ok v D f l (by omega) W ((h.below hB).more hB.size) ((h''.below hB).more hB.size))
  have HV := Lib.hid (fun (W : World) (hB : Below w.heap.size w W) => val08_any n A c es hn hG v W ((h.below hB).more hB.size))
  rw [← jn_joins hG hl hvl] at HJ
  unfold catchB
  rw [getD_at hx]
  have g0 := Blk.new w 24 #[.int .i64 n, .slice A es.length c]
  have hB0 : Below w.heap.size w (w.alloc (.cells #[.int .i64 n, .slice A es.length c] 24)) := (Below.refl _ _).alloc (Nat.le_refl _) _
  have hce := (hB0.cell (p := ⟨bB, oB + v, none⟩) hbB).trans hcell
  have hi : (v : Int) < (n : Int) := by omega
  obtain ⟨J, hJ⟩ : ∃ J, jnE es l v = J := ⟨_, rfl⟩
  obtain ⟨V, hV⟩ : ∃ V, valE es v = V := ⟨_, rfl⟩
  rw [hJ] at HJ JB ⊢
  rw [hV] at HV ⊢
  have hw : IntKind.i64.wrap (x + J) = x + J := IntWalk.i64_in _ (by omega)
  clear hJ hV hR hG hx hcell hl hvl hll
  have c0 := g0.cell 0
  have c1 := g0.cell 1
  have hgw : w.heap.size < (w.alloc (.cells #[.int .i64 n, .slice A es.length c] 24)).heap.size := by simp
  obtain ⟨W0, hW0⟩ : ∃ W0, w.alloc (.cells #[.int .i64 n, .slice A es.length c] 24) = W0 := ⟨_, rfl⟩
  have HW0 := Lib.hid hW0
  rw [hW0] at g0 hB0 hce c0 c1 hgw
  clear hW0
  have HJ2 := Lib.hid (fun (W : World) (hB : Below W0.heap.size W0 W) => HJ.out W (hB0.trans (hB.mono hB0.size)))
  have HV2 := Lib.hid (fun (W : World) (hB : Below W0.heap.size W0 W) => HV.out W (hB0.trans (hB.mono hB0.size)))
  have hb5 : bB < W0.heap.size := by have := hB0.size; omega
  have KC := Lib.hid (fun (W : World) (hB : Below W0.heap.size W0 W) => (⟨(hB.cell (p := ⟨w.heap.size, 0, none⟩) hgw).trans c0, (hB.cell (p := ⟨w.heap.size, 1, none⟩) hgw).trans c1, (hB.cell (p := ⟨bB, oB + v, none⟩) hb5).trans hce⟩ :
    W.cell? ⟨w.heap.size, 0, none⟩ = some (.int .i64 n) ∧ W.cell? ⟨w.heap.size, 1, none⟩ = some (.slice A es.length c) ∧ W.cell? ⟨bB, oB + v, none⟩ = some (.int .i64 x)))
  have B0 : Below W0.heap.size W0 W0.drew := (Below.refl _ _).drew
  clear g0 HJ HV
  go_enter Try.func154, Try.ntmps154
  go_wp2_with fail
  rw [HW0.out]
  go_region_held3 (fun W => W.cell? ⟨w.heap.size, 0, none⟩ = some (.int .i64 n) ∧ W.cell? ⟨w.heap.size, 1, none⟩ = some (.slice A es.length c) ∧ W.cell? ⟨bB, oB + v, none⟩ = some (.int .i64 x)) (go_keep)
    (first
      | (go_at_call 128; refine (HJ2.out _ B0).mono ?_; rintro e wJ ⟨rfl, bJ⟩; have BJ := B0.trans (bJ.mono (Nat.le_refl _)); obtain ⟨j0, j1, j2⟩ := KC.out wJ BJ)
      | (go_at_call 128; refine (HJ2.out _ BV).mono ?_; rintro e wJ ⟨rfl, bJ⟩; have BJ := BV.trans (bJ.mono BV.size); obtain ⟨j0, j1, j2⟩ := KC.out wJ BJ)
      | (go_at_call 150; refine (HV2.out _ B0).mono ?_; rintro e wV ⟨rfl, bV⟩; have BV := B0.trans (bV.mono (Nat.le_refl _)); obtain ⟨l0, l1, l2⟩ := KC.out wV BV)
      | (go_at_call 150; refine (HV2.out _ BJ).mono ?_; rintro e wV ⟨rfl, bV⟩; have BV := BJ.trans (bV.mono BJ.size); obtain ⟨l0, l1, l2⟩ := KC.out wV BV))
  all_goals
    go_wp2
    go_ret
    first
      | exact ⟨rfl, hB0.trans (BV.mono hB0.size)⟩
      | exact ⟨rfl, hB0.trans (BJ.mono hB0.size)⟩

set_option maxRecDepth 100000 in
set_option maxHeartbeats 8000000 in
theorem rrproves_any (n : Nat) (A : Option Addr) (c : Nat) (es : List E3) (q : Nat) (_hq : q < n) (B : Option Addr) (d : Nat) (cs : List Int) (hR : RArgs n es cs)
    (D : Option Addr) (f : Nat) (l : List Nat) (hlo : LOk n l) (hll : l.length = n) (hf : l.length ≤ f) (w : World)
    (h : Reads w w.heap.size 3 A es.length (edgeCells es)) (h' : Reads w w.heap.size 1 B n (ints cs)) (h'' : Reads w w.heap.size 1 D l.length (ints (natsI l))) :
    Calls Try.prog 112 #[.agg #[.int .i64 n, .slice A es.length c], .int .i64 q, .slice B n d, .slice D l.length f] w fun e w' => e = .returned (.bool (decide (((l.getD 0 0 : Nat) : Int) = q) && stabTo es cs q n && prvL es cs l)) ∧ Below w.heap.size w w' := by
  have hG := right_of hR.hz
  have hhi := hG.hi
  have g0 := Blk.new w 24 #[.int .i64 n, .slice A es.length c]
  have hb0 : Below w.heap.size w (w.alloc (.cells #[.int .i64 n, .slice A es.length c] 24)) := (Below.refl _ _).alloc (Nat.le_refl _) _
  have CC := Lib.hid (fun (W : World) (hB : Below w.heap.size w W) => calm19_any n A c es hR.hn hG q B d cs hR.hcl W ((h.below hB).more hB.size) ((h'.below hB).more hB.size))
  have CT := Lib.hid (fun (v : Nat) (hv : v < n) (D : Option Addr) (f : Nat) (l : List Nat) (hl : LOk n l) (hvl : v ∉ l) (W : World) (hB : Below w.heap.size w W) (hr : Reads W W.heap.size 1 D l.length (ints (natsI l))) => rrcatches_any n A c es B d cs hR v hv D f l hl hvl W ((h.below hB).more hB.size) ((h'.below hB).more hB.size) hr)
  have HLO := Lib.hid hlo
  have HLL := Lib.hid hll
  have HV0 : Hid (prvL es cs l = prvFrom es cs (l.take 1) (l.drop 1)) := rfl
  obtain ⟨b, off, rfl, hbk, hcells⟩ := h''.2 (by have := hG.lo; omega)
  obtain ⟨x0, hx0⟩ := get_of_lt (xs := l) (k := 0) (by have := hG.lo; omega)
  have hxg : l.getD 0 0 = x0 := by rw [List.getD_eq_getElem?_getD, hx0]; rfl
  rw [hxg]
  obtain ⟨r, hr⟩ : ∃ r, prvL es cs l = r := ⟨_, rfl⟩
  rw [hr] at HV0 ⊢
  obtain ⟨S, hS⟩ : ∃ S, stabTo es cs q n = S := ⟨_, rfl⟩
  rw [hS] at CC ⊢
  have hll1 : 1 ≤ l.length := by have := hG.lo; omega
  have hl12 : l.length ≤ 12 := by omega
  have HX0 := Lib.hid hx0
  clear hlo hll hr hcells hxg hG hR hS hx0
  go_enter Try.func112, Try.ntmps112
  go_wp2_with fail
  go_loopw [9] (fun i wr => ∃ k : Nat, 1 ≤ k ∧ k ≤ l.length ∧ i = .int .i64 k ∧ Hid (r = prvFrom es cs (l.take k) (l.drop k)) ∧ Hid (Below w.heap.size w wr) ∧ Hid (Blk wr w.heap.size 24 #[.int .i64 n, .slice A es.length c])) (fun i _ => l.length - (intOf i).toNat)
  case atStart => exact ⟨1, by omega, hll1, rfl, HV0, hb0, g0⟩
  case round =>
    obtain ⟨k, hk1, hk, rfl, HS, HB, HGr⟩ := hrel
    clear HV0 hb0 g0
    have c0 := HGr.out.cell 0
    have c1 := HGr.out.cell 1
    by_cases hlt : k < l.length
    · obtain ⟨v, hv⟩ := get_of_lt hlt
      have hvn : v < n := HLO.out.2 v (List.mem_of_getElem? hv)
      have hd := prvFrom_at (es := es) (cs := cs) hv
      rw [← HS.out] at hd
      have hrd := h''
      rw [← natsI_length l] at hrd
      obtain ⟨b', off', hA, _, hcell⟩ := (hrd.below HB.out).at_ (ints_at (natsI_at hv))
      injection hA with hA; injection hA with e1 e2; subst e1 e2
      have hi : (k : Int) < (l.length : Int) := by omega
      have hkf : (k : Int) ≤ (f : Int) := by omega
      have htk := take_snoc hv
      have hok1 : LOk n (l.take k) := ⟨HLO.out.1.sublist (List.take_sublist _ _), fun u hu => HLO.out.2 u (List.mem_of_mem_take hu)⟩
      have hnot : v ∉ l.take k := by
        have h1 := HLO.out.1.sublist (List.take_sublist (k + 1) l)
        rw [htk, List.nodup_append] at h1
        exact fun hc => h1.2.2 v hc v (by simp) rfl
      have hrt := ((hrd.below HB.out).more HB.out.size).upto k (by rw [natsI_length]; exact hlt)
      have htl : (l.take k).length = k := by rw [List.length_take]; omega
      have hnt : natsI (l.take k) = (natsI l).take k := by simp [natsI, List.map_take]
      have CT2 := CT.out v hvn (some ⟨b, off, none⟩) f (l.take k) hok1 hnot wr.drew HB.out.drew (by rw [htl, hnt]; exact hrt)
      rw [htl] at CT2
      have hgl := Lib.hid HGr.out.lt
      have hbl : Hid (b < wr.heap.size) := by have := HB.out.size; show b < wr.heap.size; omega
      obtain ⟨cb, hcb⟩ : ∃ cb, catchB es cs (l.take k) v = cb := ⟨_, rfl⟩
      rw [hcb] at CT2 hd
      have CT2 := Lib.hid CT2
      clear hv hrd htk hok1 hnot hrt htl hnt hcb
      cases cb
      · rw [Bool.false_and] at hd
        have HD := Lib.hid hd
        clear hd
        go_wp2_with fail
        refine region_tail 9 (by kernel_rfl) (by kernel_rfl) ?_
        simp only [List.take_succ_cons, List.take_zero, List.drop_succ_cons, List.drop_zero]
        repeat still_step
        refine wpStill_nil ?_
        go_wp2_with fail
        refine (CT2.out).mono ?_
        rintro e w5 ⟨rfl, b5⟩
        have B5 := HB.out.drew.trans (b5.mono HB.out.drew.size)
        go_wp2
        go_ret
        exact ⟨ret_bool (by rw [HD.out, Bool.and_false]), B5⟩
      · rw [Bool.true_and] at hd
        have HD := Lib.hid hd
        clear hd
        go_wp2_with fail
        refine region_tail 9 (by kernel_rfl) (by kernel_rfl) ?_
        simp only [List.take_succ_cons, List.take_zero, List.drop_succ_cons, List.drop_zero]
        repeat still_step
        refine wpStill_nil ?_
        go_wp2_with fail
        refine (CT2.out).mono ?_
        rintro e w5 ⟨rfl, b5⟩
        have B5 := Lib.hid (HB.out.drew.trans (b5.mono HB.out.drew.size))
        have G5 : Hid (Blk w5 w.heap.size 24 #[.int .i64 n, .slice A es.length c]) := Blk.next (w := wr.drew) HGr.out b5
        go_wp2
        go_roundw
        case rel => exact ⟨k + 1, by omega, by omega, by go_num, HD, B5, G5⟩
        case measure => simp [intOf]; omega
    · obtain rfl : k = l.length := by omega
      have hr1 : r = true := by rw [HS.out, List.drop_length]; rfl
      subst hr1
      have hrd := h''
      rw [← natsI_length l] at hrd
      obtain ⟨b', off', hA, _, hcell⟩ := (hrd.below HB.out).at_ (k := 0) (ints_at (natsI_at HX0.out))
      injection hA with hA; injection hA with e1 e2; subst e1 e2
      rw [Nat.add_zero] at hcell
      have h00 : (0 : Int) < (l.length : Int) := by omega
      have CC2 := Lib.hid (CC.out wr HB.out)
      have hB := HB.out
      clear hrd h''
      by_cases hxq : (x0 : Int) = (q : Int)
      · have hxb : ((x0 : Int) == (q : Int)) = true := by simpa using hxq
        have HQ := Lib.hid hxq
        clear hxq
        go_wp2_with fail
        refine (CC2.out).mono ?_
        rintro e w5 ⟨rfl, b5⟩
        have B5 := hB.trans (b5.mono hB.size)
        go_wp2
        go_ret
        exact ⟨ret_bool (by rw [decide_eq_true HQ.out, Bool.true_and, Bool.and_true]), B5⟩
      · have hxb : ((x0 : Int) == (q : Int)) = false := by simpa using hxq
        have HQ := Lib.hid hxq
        clear hxq
        go_wp2
        go_ret
        exact ⟨ret_bool (by rw [decide_eq_false HQ.out]; rfl), hB⟩

set_option maxRecDepth 100000 in
set_option maxHeartbeats 2000000 in
theorem rrverify_any (n : Int) (A : Option Addr) (c : Nat) (es : List E3) (hn : es.length ≤ 10000) (q : Int) (B : Option Addr) (d : Nat) (cs : List Int) (hm : cs.length ≤ 1048000) (D : Option Addr) (f : Nat) (xs : List Int) (hf : xs.length ≤ f) (hs : xs.length ≤ 1048576) (w : World)
    (h : Reads w w.heap.size 3 A es.length (edgeCells es)) (h' : Reads w w.heap.size 1 B cs.length (ints cs)) (h'' : Reads w w.heap.size 1 D xs.length (ints xs)) :
    Calls Try.prog 59 #[.agg #[.int .i64 n, .slice A es.length c], .int .i64 q, .slice B cs.length d, .slice D xs.length f] w fun e w' => e = .returned (.tuple #[.bool (rverB n es q cs xs), .int .i64 (verErr n es q cs xs)]) ∧ Below w.heap.size w w' := by
  have g0 := Blk.new w 24 #[.int .i64 n, .slice A es.length c]
  have hb0 : Below w.heap.size w (w.alloc (.cells #[.int .i64 n, .slice A es.length c] 24)) := (Below.refl _ _).alloc (Nat.le_refl _) _
  have hbc := rbcheck_any n A c es (by omega) q B d cs (by omega)
  by_cases hz : burnErr n es q cs = 0
  · rw [hz] at hbc
    have BC := Lib.hid hbc
    have hE : verErr n es q cs xs = renErr n xs := by unfold verErr; rw [if_neg (by omega)]
    obtain ⟨hG, _, hq0, hqn, hlen, hbd, _⟩ := conf_zero (burn_zero hz).1
    have hhi := hG.hi
    have hlo := hG.lo
    obtain ⟨m, rfl⟩ := Int.eq_ofNat_of_zero_le (show 0 ≤ n by omega)
    obtain ⟨p, rfl⟩ := Int.eq_ofNat_of_zero_le hq0
    obtain ⟨hR, hpm0, hcl0⟩ := burn_rargs hn hz
    have RC := Lib.hid (fun w h => renaming_any m D f xs hf hs w h)
    by_cases hr : renErr m xs = 0
    · obtain ⟨l, hl, hlo2, hll⟩ := ren_nats hr
      have hxl : xs.length = l.length := by rw [hl, natsI_length]
      have PC : Hid (∀ W : World, Reads W W.heap.size 3 A es.length (edgeCells es) → Reads W W.heap.size 1 B cs.length (ints cs) → Reads W W.heap.size 1 D xs.length (ints xs) → Calls Try.prog 112 #[.agg #[.int .i64 m, .slice A es.length c], .int .i64 p, .slice B cs.length d, .slice D xs.length f] W fun e w' => e = .returned (.bool (rverB m es p cs xs)) ∧ Below W.heap.size W w') := by
        intro W r1 r2 r3
        have hV : rverB m es p cs xs = (decide (((l.getD 0 0 : Nat) : Int) = p) && stabTo es cs p m && prvL es cs l) := by unfold rverB; rw [hE, if_pos hr, hl, nats_toNat, natsI_getD]; simp
        have := rrproves_any m A c es p hpm0 B d cs hR D f l hlo2 hll (by omega) W r1 (by rw [← hcl0]; exact r2) (by rw [← hxl, ← hl]; exact r3)
        rw [← hxl] at this
        rw [hcl0]
        rw [hV]
        exact this
      rw [hE]
      rw [hr] at RC ⊢
      clear hz hE hbc hG hbd hr hl hlo2 hll hxl hlen hR hpm0 hcl0
      go_enter Try.func59, Try.ntmps59
      go_wp2_with fail
      refine (BC.out _ ((h.alloc (Nat.le_refl _) _).more (by simp)) ((h'.alloc (Nat.le_refl _) _).more (by simp))).mono ?_
      rintro e w1 ⟨rfl, hb1⟩
      have g1 := g0.next hb1
      have c0 := g1.cell 0
      have c1 := g1.cell 1
      have hB1 := hb0.trans (hb1.mono hb0.size)
      go_wp2_with fail
      refine (RC.out _ ((h''.below hB1).more hB1.size)).mono ?_
      rintro e w2 ⟨rfl, hb2⟩
      have g2 := g1.next hb2
      have c0 := g2.cell 0
      have c1 := g2.cell 1
      have hB2 := hB1.trans (hb2.mono hB1.size)
      go_wp2_with fail
      refine (PC.out _ ((h.below hB2).more hB2.size) ((h'.below hB2).more hB2.size) ((h''.below hB2).more hB2.size)).mono ?_
      rintro e w3 ⟨rfl, hb3⟩
      go_wp2
      go_ret2
      exact ⟨rfl, hB2.trans (hb3.mono hB2.size)⟩
    · have HV : Hid (rverB m es p cs xs = false) := by rw [Hid]; unfold rverB; rw [hE, if_neg hr]
      rw [hE]
      obtain ⟨z, hzz⟩ : ∃ z, renErr m xs = z := ⟨_, rfl⟩
      rw [hzz] at RC hr ⊢
      have hb : (z != 0) = true := by simpa using hr
      clear hz hE hbc hG hbd hr hzz hlen hR hpm0 hcl0
      go_enter Try.func59, Try.ntmps59
      go_wp2_with fail
      refine (BC.out _ ((h.alloc (Nat.le_refl _) _).more (by simp)) ((h'.alloc (Nat.le_refl _) _).more (by simp))).mono ?_
      rintro e w1 ⟨rfl, hb1⟩
      have g1 := g0.next hb1
      have c0 := g1.cell 0
      have c1 := g1.cell 1
      have hB1 := hb0.trans (hb1.mono hb0.size)
      go_wp2_with fail
      refine (RC.out _ ((h''.below hB1).more hB1.size)).mono ?_
      rintro e w2 ⟨rfl, hb2⟩
      go_wp2
      go_ret2
      exact ⟨by rw [HV.out]; rfl, hB1.trans (hb2.mono hB1.size)⟩
  · have hE : verErr n es q cs xs = burnErr n es q cs := by unfold verErr; rw [if_pos hz]
    have HV : Hid (rverB n es q cs xs = false) := by rw [Hid]; unfold rverB; rw [hE, if_neg hz]
    rw [hE]
    obtain ⟨z, hzz⟩ : ∃ z, burnErr n es q cs = z := ⟨_, rfl⟩
    rw [hzz] at hbc hz ⊢
    have hb : (z != 0) = true := by simpa using hz
    have BC := Lib.hid hbc
    clear hz hE hbc hzz
    go_enter Try.func59, Try.ntmps59
    go_wp2_with fail
    refine (BC.out _ ((h.alloc (Nat.le_refl _) _).more (by simp)) ((h'.alloc (Nat.le_refl _) _).more (by simp))).mono ?_
    rintro e w1 ⟨rfl, hb1⟩
    have hB1 := hb0.trans (hb1.mono hb0.size)
    go_wp2
    go_ret2
    exact ⟨by rw [HV.out]; rfl, hB1⟩
end Go.Proofs.Ythbannpmfdflaaa

