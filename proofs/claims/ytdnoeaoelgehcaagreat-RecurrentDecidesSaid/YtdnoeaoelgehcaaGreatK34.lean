/-
  Texts of this claim, put together: RFire24, DulP, RTop.
-/
import Derived.Test.YtdnoeaoelgehcaaGreatK31
import Derived.Test.YtdnoeaoelgehcaaGreatK33
import Derived.Test.YtdnoeaoelgehcaaGreatK25
import Derived.Test.YtdnoeaoelgehcaaGreatK12
import Derived.Test.YtdnoeaoelgehcaaGreatK21
/-! ref24.Fire, Recurrent, Forbidden. -/
namespace Go.Proofs.YtdnoeaoelgehcaaGreat
open Go.RowKit

set_option maxRecDepth 100000 in
set_option maxHeartbeats 8000000 in
theorem rfire24_any (n : Nat) (A : Option Addr) (c : Nat) (es : List E3) (q : Nat) (hq : q < n) (B : Option Addr) (d : Nat) (cs : List Int) (hR : RArgs n es cs) (w : World)
    (h : Reads w w.heap.size 3 A es.length (edgeCells es)) (h' : Reads w w.heap.size 1 B n (ints cs)) :
    Calls Tryz.prog 58 #[.agg #[.int .i64 n, .slice A es.length c], .int .i64 q, .slice B n d] w fun e w' => ∃ A' c', e = .returned (.slice A' (recL n es cs q).length c') ∧ OwnI w' w.heap.size A' c' (natsI (recL n es cs q)) ∧ Below w.heap.size w w' := by
  have hG := right_of hR.hz
  have hhi := hG.hi
  have hn12 : n ≤ 12 := by omega
  have CT := Lib.hid (fun (v : Nat) (hv : v < n) (D : Option Addr) (f : Nat) (l : List Nat) (hl : LOk n l) (hvl : v ∉ l) (W : World) (hB : Below w.heap.size w W) (hr : Reads W W.heap.size 1 D l.length (ints (natsI l))) => rrcatches_any n A c es B d cs hR v hv D f l hl hvl W ((h.below hB).more hB.size) ((h'.below hB).more hB.size) hr)
  have HH : Hid (∀ (D : Option Addr) (f : Nat) (l : List Nat) (v : Nat) (W : World), l.length ≤ 12 → Reads W W.heap.size 1 D l.length (ints (natsI l)) → Calls Tryz.prog 99 #[.slice D l.length f, .int .i64 v] W fun e w' => e = .returned (.bool (decide (v ∈ l))) ∧ W = w') := by
    intro D f l v W hl hW
    have := holds_any D f (natsI l) (by rw [natsI_length]; omega) (v : Int) W (by rw [natsI_length]; exact hW)
    rwa [natsI_length, show decide ((v : Int) ∈ natsI l) = decide (v ∈ l) from by rw [Bool.eq_iff_iff]; simp [natsI_mem]] at this
  obtain ⟨D, hD⟩ : ∃ D, dualL n es cs = D := ⟨_, rfl⟩
  have HCD : Hid (∀ l, LOk n l → ∀ v, v < n → catL es D l v = (!decide (v ∈ l) && catchB es cs l v)) := fun l hl v hv => by rw [← hD]; exact cat_dual hG cs hl hv
  have hfin : recL n es cs q = burnL es D n (n - 1) [q] := by
    unfold recL burntL
    rw [hD]
    exact burnL_more (lok_one hq) (by simp) (by simp; omega)
  have HFIN := Lib.hid hfin
  have HLO := Lib.hid (lok_one hq)
  have g0 := (Blk.new w 24 #[.int .i64 n, .slice A es.length c]).alloc (.cells #[.int .i64 q] 3)
  have hb0 : Below w.heap.size w ((w.alloc (.cells #[.int .i64 n, .slice A es.length c] 24)).alloc (.cells #[.int .i64 q] 3)) := ((Below.refl _ _).alloc (Nat.le_refl _) _).alloc (by simp) _
  have o0 : OwnI ((w.alloc (.cells #[.int .i64 n, .slice A es.length c] 24)).alloc (.cells #[.int .i64 q] 3)) w.heap.size (some ⟨w.heap.size + 1, 0, none⟩) 1 (natsI [q]) := by
    have := Blk.new (w.alloc (.cells #[.int .i64 n, .slice A es.length c] 24)) 3 (intCells (natsI [q]))
    rw [show (w.alloc (.cells #[.int .i64 n, .slice A es.length c] 24)).heap.size = w.heap.size + 1 from by simp] at this
    exact OwnI.of_blk this (by omega) (by simp [natsI, maxLen])
  clear hR hG hD hfin
  go_enter Tryz.func58, Tryz.ntmps58
  go_wp2
  go_loopw [7, 8, 9] (fun s i _ wr => ∃ (j : Nat) (A' : Option Addr) (c' : Nat) (l : List Nat), j + 1 ≤ n ∧ i = .int .i64 ((j : Int) + 1) ∧ s = .slice A' l.length c' ∧ Hid (burnL es D n j [q] = l) ∧ Hid (LOk n l) ∧ l.length ≤ 12 ∧ OwnI wr w.heap.size A' c' (natsI l) ∧ Below w.heap.size w wr ∧ Blk wr w.heap.size 24 #[.int .i64 n, .slice A es.length c]) (fun _ i _ _ => n - (intOf i).toNat)
  case atStart => exact ⟨0, _, 1, [q], by omega, rfl, rfl, rfl, HLO.out, by simp, o0, hb0, g0⟩
  case round =>
    obtain ⟨j, A', c', l, hj, rfl, rfl, HB, HL, hll, hown, hbel, g1⟩ := hrel
    clear g0 o0 hb0
    have hsz := hbel.size
    obtain ⟨wo, rfl⟩ : ∃ wo : World, wo = wr := ⟨_, rfl⟩
    have c0 := g1.cell 0
    by_cases hlt : j + 1 < n
    · have hi : (j : Int) + 1 < (n : Int) := by omega
      have hst := burnL_back (es := es) (c := D) (n := n) j [q]
      rw [HB.out] at hst
      have hok2 := burnL_ok (es := es) (c := D) (n := n) (j + 1) [q] HLO.out
      have HST := Lib.hid hst
      have HOK := Lib.hid hok2
      clear hst hok2
      go_wp2_with fail
      go_loopw [7, 9] (fun s i w2 => ∃ u : Nat, s = .slice A' l.length c' ∧ i = .int .i64 u ∧ u ≤ n ∧ Hid (∀ x, x < u → catL es D l x = false) ∧ Below wo.heap.size wo w2) (fun _ i _ => n - (intOf i).toNat)
      case atStart => exact ⟨0, rfl, rfl, by omega, fun x hx => by omega, Below.refl _ _⟩
      case round =>
        obtain ⟨u, rfl, rfl, hu, HU, b2⟩ := hrel
        clear c0
        have g2 := g1.next b2
        have o2 := hown.next b2
        have B2 := hbel.trans (b2.mono hsz)
        have hs2 := B2.size
        have c0 := g2.cell 0
        have c1 := g2.cell 1
        by_cases hun : u < n
        · have hui : (u : Int) < (n : Int) := by omega
          have hcd := HCD.out l HL.out u hun
          have rd := o2.reads
          rw [natsI_length] at rd
          have HC := HH.out A' c' l u wr hll rd
          by_cases hm : u ∈ l
          · rw [decide_eq_true hm] at HC hcd
            rw [Bool.not_true, Bool.false_and] at hcd
            have HC := Lib.hid HC
            have HD := Lib.hid hcd
            clear hcd hm rd
            go_wp2_with (go_at_call 99; (with_reducible refine (HC.out).mono ?_); rintro e w' ⟨rfl, rfl⟩)
            go_roundw
            case rel => exact ⟨u + 1, rfl, by go_num, by omega, fun x hx => by
              by_cases he : x = u
              · subst he; exact HD.out
              · exact HU.out x (by omega), b2⟩
            case measure => simp [intOf]; omega
          · rw [decide_eq_false hm] at HC hcd
            rw [Bool.not_false, Bool.true_and] at hcd
            have HC := Lib.hid HC
            have CT2 := CT.out u hun A' c' l HL.out hm wr B2 rd
            have HM := Lib.hid hm
            cases hcb : catchB es cs l u
            · rw [hcb] at hcd CT2
              have CT2 := Lib.hid CT2
              have HD := Lib.hid hcd
              clear hcd hm hcb rd
              go_wp2_with first
                | (go_at_call 99; (with_reducible refine (HC.out).mono ?_); rintro e w' ⟨rfl, rfl⟩)
                | (go_at_call 100; refine (CT2.out).mono ?_; rintro e w5 ⟨rfl, b5⟩)
              go_roundw
              case rel => exact ⟨u + 1, rfl, by go_num, by omega, fun x hx => by
                by_cases he : x = u
                · subst he; exact HD.out
                · exact HU.out x (by omega), b2.trans (b5.mono b2.size)⟩
              case measure => simp [intOf]; omega
            · rw [hcb] at hcd CT2
              have CT2 := Lib.hid CT2
              have hhead := head_ready_of hun hcd HU.out
              have hst2 : burnL es D n (j + 1) [q] = l ++ [u] := by rw [HST.out]; unfold stepL; rw [hhead]
              have hok2 := HOK.out
              rw [hst2] at hok2
              have hlen := nodup_len hok2
              rw [List.length_append, List.length_singleton] at hlen
              have HS2 := Lib.hid hst2
              have HL2 := Lib.hid hok2
              clear hcd hm hcb hhead hst2 hok2 rd
              have hnl := natsI_length l
              have hown3 : Hid (wr.ownsRow w.heap.size 3 1 (.slice A' l.length c') l.length (ints (natsI l))) := by have := o2; unfold OwnI at this; rw [hnl] at this; exact this
              clear hnl
              go_wp2_with first
                | (go_at_call 99; (with_reducible refine (HC.out).mono ?_); rintro e w' ⟨rfl, rfl⟩)
                | (go_at_call 100; refine (CT2.out).mono ?_; rintro e w5 ⟨rfl, b5⟩; have g5 := g2.next b5; have B5 := B2.trans (b5.mono hs2); have s5 := B5.size; have own5 : OwnI w5 w.heap.size A' c' (natsI l) := o2.next b5; have hown5 : w5.ownsRow w.heap.size 3 1 (.slice A' l.length c') l.length (ints (natsI l)) := (by have := own5; unfold OwnI at this; rw [natsI_length] at this; exact this))
                | (at_builtin; refine append_go rfl (.tmp 35) (.tmp 37) _ rfl w.heap.size 3 Tryz.underlying25 info_int rfl (by omega) A' c' l.length (ints (natsI l)) rfl (World.ownsRow.alloc hown5 _) _ [.int .i64 (u : Int)] rfl (Reads.box _ _ _) (by simp [Value.oneCell']) (by omega) (by simp; omega) ?_; intro A4 c4 w4 hown4 hg4 hb4 _)
              have g6 := (g5.alloc (.cells #[.int .i64 (u : Int)] 3)).grown hg4 (own_blk_ne hown5 g5 (by decide))
              have hown6 : OwnI w4 w.heap.size A4 c4 (natsI (l ++ [u])) := by
                unfold OwnI
                rw [natsI_snoc, List.length_append, natsI_length, ints_snoc]
                exact hown4
              go_roundw
              case rel => exact ⟨j + 1, A4, c4, l ++ [u], by omega, by go_num, by simp, HS2.out, HL2.out, by simp; omega, hown6, B5.trans (((Below.refl _ _).alloc s5 _).trans hb4), g6⟩
              case measure => simp [intOf]; omega
        · obtain rfl : u = n := by omega
          have hnone := ready_none HU.out
          have HS2 : Hid (burnL es D u (j + 1) [q] = l) := by show _ = _; rw [HST.out]; exact stepL_none (by rw [hnone]; rfl)
          clear hnone
          go_wp2
          go_roundw
          case rel => exact ⟨j + 1, A', c', l, by omega, by go_num, rfl, HS2.out, HL.out, hll, o2, B2, g2⟩
          case measure => simp [intOf]; omega
    · have hjn : j = n - 1 := by omega
      have HE : Hid (recL n es cs q = l) := by rw [Hid, HFIN.out, ← hjn]; exact HB.out
      clear hjn
      go_wp2
      go_ret
      exact ⟨A', c', by rw [HE.out]; rfl, by rw [HE.out]; exact hown, hbel⟩

set_option maxRecDepth 100000 in
set_option maxHeartbeats 4000000 in
theorem rrec24_any (n : Int) (A : Option Addr) (c : Nat) (es : List E3) (hn : es.length ≤ 10000) (hsm : checkG n es = 0 → n ≤ 6) (q : Int) (B : Option Addr) (d : Nat) (cs : List Int) (hm : cs.length ≤ 1048000) (w : World)
    (h : Reads w w.heap.size 3 A es.length (edgeCells es)) (h' : Reads w w.heap.size 1 B cs.length (ints cs)) :
    Calls Tryz.prog 17 #[.agg #[.int .i64 n, .slice A es.length c], .int .i64 q, .slice B cs.length d] w fun e w' => ∃ A' c', e = .returned (.tuple #[.bool (recE n es q cs).1, .slice A' (recE n es q cs).2.1.length c', .int .i64 (recE n es q cs).2.2]) ∧ OwnI w' w.heap.size A' c' (recE n es q cs).2.1 ∧ Below w.heap.size w w' := by
  have BC := Lib.hid (rbcheck_any n A c es (by omega) q B d cs (by omega))
  have g0 := Blk.new w 24 #[.int .i64 n, .slice A es.length c]
  have hb0 : Below w.heap.size w (w.alloc (.cells #[.int .i64 n, .slice A es.length c] 24)) := (Below.refl _ _).alloc (Nat.le_refl _) _
  have c0 := g0.cell 0
  have c1 := g0.cell 1
  by_cases hz : burnErr n es q cs = 0
  · obtain ⟨hG, _, hq0, hqn, hlen, hbd, _⟩ := conf_zero (burn_zero hz).1
    obtain ⟨m, rfl⟩ := Int.eq_ofNat_of_zero_le (show 0 ≤ n by have := hG.lo; omega)
    obtain ⟨p, rfl⟩ := Int.eq_ofNat_of_zero_le hq0
    obtain ⟨hR, hpm, hcl⟩ := burn_rargs hn hz
    have hE : recE m es p cs = if recB m es cs p then (true, natI (recL m es cs p), 0) else (false, [], 0) := by unfold recE; rw [if_pos hz]; simp
    rw [hE]
    rw [hz] at BC
    have hm6 : m ≤ 6 := by have := hsm hR.hz; omega
    have IC := Lib.hid (fun (W : World) (hB : Below w.heap.size w W) => ris24_any m hm6 A c es hn hG p hpm B d cs hcl W ((h.below hB).more hB.size) (by rw [← hcl]; exact (h'.below hB).more hB.size))
    have FC := Lib.hid (fun (W : World) (hB : Below w.heap.size w W) => rfire24_any m A c es p hpm B d cs hR W ((h.below hB).more hB.size) (by rw [← hcl]; exact (h'.below hB).more hB.size))
    obtain ⟨S, hS⟩ : ∃ S, recB m es cs p = S := ⟨_, rfl⟩
    have hnn : natsI (recL m es cs p) = natI (recL m es cs p) := rfl
    have hnl : (recL m es cs p).length = (natI (recL m es cs p)).length := (natI_length _).symm
    rw [hnn, hnl] at FC
    obtain ⟨R, hRR⟩ : ∃ R, natI (recL m es cs p) = R := ⟨_, rfl⟩
    rw [hS] at IC ⊢
    rw [hRR] at FC ⊢
    rw [hcl] at BC h' ⊢
    clear hz hE hG hbd hqn hR hlen hcl hS hRR hnn hnl
    go_enter Tryz.func17, Tryz.ntmps17
    go_wp2_with fail
    refine (BC.out _ ((h.below hb0).more hb0.size) ((h'.below hb0).more hb0.size)).mono ?_
    rintro e w1 ⟨rfl, hb1⟩
    have B1 := hb0.trans (hb1.mono hb0.size)
    have g1 := g0.next hb1
    have c0 := g1.cell 0
    have c1 := g1.cell 1
    go_wp2_with fail
    refine (IC.out _ B1).mono ?_
    rintro e w2 ⟨rfl, hb2⟩
    have B2 := B1.trans (hb2.mono B1.size)
    have g2 := g1.next hb2
    have c0 := g2.cell 0
    have c1 := g2.cell 1
    cases S
    · go_wp2
      go_ret3
      exact ⟨none, 0, rfl, OwnI.nil_ _ _, B2⟩
    · go_wp2_with fail
      refine (FC.out _ B2).mono ?_
      rintro e w3 ⟨A3, c3, rfl, o3, hb3⟩
      go_wp2
      go_ret3
      exact ⟨A3, c3, rfl, o3.mono B2.size, B2.trans (hb3.mono B2.size)⟩
  · have hE : recE n es q cs = (false, [], burnErr n es q cs) := by unfold recE; rw [if_neg hz]
    rw [hE]
    obtain ⟨z, hze⟩ : ∃ z, burnErr n es q cs = z := ⟨_, rfl⟩
    rw [hze] at BC hz ⊢
    have hz1 : (z != 0) = true := by simpa using hz
    clear hze hE hz
    go_enter Tryz.func17, Tryz.ntmps17
    go_wp2_with fail
    refine (BC.out _ ((h.below hb0).more hb0.size) ((h'.below hb0).more hb0.size)).mono ?_
    rintro e w1 ⟨rfl, hb1⟩
    go_wp2
    go_ret3
    exact ⟨none, 0, rfl, OwnI.nil_ _ _, hb0.trans (hb1.mono hb0.size)⟩

set_option maxRecDepth 100000 in
set_option maxHeartbeats 4000000 in
theorem rforb24_any (n : Int) (A : Option Addr) (c : Nat) (es : List E3) (hn : es.length ≤ 10000) (hsm : checkG n es = 0 → n ≤ 6) (q : Int) (B : Option Addr) (d : Nat) (cs : List Int) (hm : cs.length ≤ 1048000) (w : World)
    (h : Reads w w.heap.size 3 A es.length (edgeCells es)) (h' : Reads w w.heap.size 1 B cs.length (ints cs)) :
    Calls Tryz.prog 19 #[.agg #[.int .i64 n, .slice A es.length c], .int .i64 q, .slice B cs.length d] w fun e w' => ∃ A' c', e = .returned (.tuple #[.slice A' (forbE n es q cs).1.length c', .int .i64 (forbE n es q cs).2]) ∧ OwnI w' w.heap.size A' c' (forbE n es q cs).1 ∧ Below w.heap.size w w' := by
  have BC := Lib.hid (rbcheck_any n A c es (by omega) q B d cs (by omega))
  have g0 := Blk.new w 24 #[.int .i64 n, .slice A es.length c]
  have hb0 : Below w.heap.size w (w.alloc (.cells #[.int .i64 n, .slice A es.length c] 24)) := (Below.refl _ _).alloc (Nat.le_refl _) _
  have c0 := g0.cell 0
  have c1 := g0.cell 1
  by_cases hz : burnErr n es q cs = 0
  · obtain ⟨hG, _, hq0, hqn, hlen, hbd, _⟩ := conf_zero (burn_zero hz).1
    obtain ⟨m, rfl⟩ := Int.eq_ofNat_of_zero_le (show 0 ≤ n by have := hG.lo; omega)
    obtain ⟨p, rfl⟩ := Int.eq_ofNat_of_zero_le hq0
    obtain ⟨hR, hpm, hcl⟩ := burn_rargs hn hz
    have hE : forbE m es p cs = (natI (worstL m es cs p), 0) := by unfold forbE; rw [if_pos hz]; simp
    rw [hE]
    rw [hz] at BC
    have hm6 : m ≤ 6 := by have := hsm hR.hz; omega
    have IC := Lib.hid (fun (W : World) (hB : Below w.heap.size w W) => rworst_any m hm6 A c es (by omega) hG p hpm B d cs hcl W ((h.below hB).more hB.size) ((h'.below hB).more hB.size))
    have hnn : natsI (worstL m es cs p) = natI (worstL m es cs p) := rfl
    rw [hnn] at IC
    obtain ⟨R, hRR⟩ : ∃ R, natI (worstL m es cs p) = R := ⟨_, rfl⟩
    rw [hRR] at IC ⊢
    clear hz hE hG hbd hqn hR hlen hcl hRR hnn
    go_enter Tryz.func19, Tryz.ntmps19
    go_wp2_with fail
    refine (BC.out _ ((h.below hb0).more hb0.size) ((h'.below hb0).more hb0.size)).mono ?_
    rintro e w1 ⟨rfl, hb1⟩
    have B1 := hb0.trans (hb1.mono hb0.size)
    have g1 := g0.next hb1
    have c0 := g1.cell 0
    have c1 := g1.cell 1
    go_wp2_with fail
    refine (IC.out _ B1).mono ?_
    rintro e w2 ⟨A3, c3, rfl, o3, hb2⟩
    have B2 := B1.trans (hb2.mono B1.size)
    go_wp2
    go_ret2
    exact ⟨A3, c3, rfl, o3.mono B1.size, B2⟩
  · have hE : forbE n es q cs = ([], burnErr n es q cs) := by unfold forbE; rw [if_neg hz]
    rw [hE]
    obtain ⟨z, hze⟩ : ∃ z, burnErr n es q cs = z := ⟨_, rfl⟩
    rw [hze] at BC hz ⊢
    have hz1 : (z != 0) = true := by simpa using hz
    clear hze hE hz
    go_enter Tryz.func19, Tryz.ntmps19
    go_wp2_with fail
    refine (BC.out _ ((h.below hb0).more hb0.size) ((h'.below hb0).more hb0.size)).mono ?_
    rintro e w1 ⟨rfl, hb1⟩
    go_wp2
    go_ret2
    exact ⟨none, 0, rfl, OwnI.nil_ _ _, hb0.trans (hb1.mono hb0.size)⟩
end Go.Proofs.YtdnoeaoelgehcaaGreat

/-! Plain: the dual of a configuration. -/
namespace Go.Proofs.YtdnoeaoelgehcaaGreat
open Go.RowKit

/-- The dual of a configuration, as far as k: no chips at the sink. -/
def dulTo (n : Nat) (es : List E3) (cs : List Int) (q k : Nat) : List Int := (List.range n).map fun v : Nat => if v < k ∧ v ≠ q then valE es v - 1 - cs.getD v 0 else 0
def dulL (n : Nat) (es : List E3) (cs : List Int) (q : Nat) : List Int := dulTo n es cs q n
theorem dulTo_length (n : Nat) (es : List E3) (cs : List Int) (q k : Nat) : (dulTo n es cs q k).length = n := by simp [dulTo]
theorem dulL_length (n : Nat) (es : List E3) (cs : List Int) (q : Nat) : (dulL n es cs q).length = n := dulTo_length n es cs q n
theorem dulTo_zero (n : Nat) (es : List E3) (cs : List Int) (q : Nat) : dulTo n es cs q 0 = List.replicate n 0 := by
  apply List.ext_getElem?
  intro i
  unfold dulTo
  by_cases hi : i < n
  · simp [hi]
  · simp [hi]
theorem dulTo_sink (n : Nat) (es : List E3) (cs : List Int) (q : Nat) : dulTo n es cs q (q + 1) = dulTo n es cs q q := by
  unfold dulTo
  apply List.map_congr_left
  intro v _
  by_cases h1 : v < q
  · rw [if_pos ⟨by omega, by omega⟩, if_pos ⟨h1, by omega⟩]
  · rw [if_neg (by omega), if_neg (by omega)]
theorem dulTo_succ (n : Nat) (es : List E3) (cs : List Int) (q k : Nat) (hk : k ≠ q) : dulTo n es cs q (k + 1) = (dulTo n es cs q k).set k (valE es k - 1 - cs.getD k 0) := by
  apply List.ext_getElem?
  intro i
  unfold dulTo
  by_cases hi : i < n
  · by_cases h : i = k
    · subst h
      rw [List.getElem?_set_self (by simpa using hi)]
      simp [hi, hk]
    · rw [List.getElem?_set_ne (fun e => h e.symm)]
      simp only [List.getElem?_map, List.getElem?_range hi, Option.map_some]
      by_cases h2 : i < k ∧ i ≠ q
      · rw [if_pos h2, if_pos ⟨by omega, h2.2⟩]
      · rw [if_neg h2, if_neg (by omega)]
  · rw [List.getElem?_eq_none (by simp; omega), List.getElem?_eq_none (by simp; omega)]
theorem dulL_get {n v : Nat} (es : List E3) (cs : List Int) (q : Nat) (hv : v < n) : (dulL n es cs q).getD v 0 = if v = q then 0 else valE es v - 1 - cs.getD v 0 := by
  unfold dulL dulTo
  rw [List.getD_eq_getElem?_getD]
  simp only [List.getElem?_map, List.getElem?_range hv, Option.map_some, Option.getD_some]
  by_cases h : v = q
  · rw [if_neg (fun e => e.2 h), if_pos h]
  · rw [if_pos ⟨hv, h⟩, if_neg h]
end Go.Proofs.YtdnoeaoelgehcaaGreat

/-! ref19.Top: the maximal stable configuration. -/
namespace Go.Proofs.YtdnoeaoelgehcaaGreat
open Go.RowKit

theorem valE_at {n v : Nat} {es : List E3} (hok : ∀ e ∈ es, okE n e) (hv : v < n) : (valL n (endsL es))[v]? = some (valE es v) := by
  have hl := (valL_bd n (endsL es)).1
  obtain ⟨x, hx⟩ := get_of_lt (xs := valL n (endsL es)) (k := v) (by rw [hl]; exact hv)
  have := valL_val (n := n) hok (v := v)
  rw [getD_at hx] at this
  rw [hx, this]

set_option maxRecDepth 100000 in
set_option maxHeartbeats 4000000 in
theorem rtop_any (n : Nat) (A : Option Addr) (c : Nat) (es : List E3) (hlen : es.length ≤ 10000) (hG : RightG n es) (q : Nat) (w : World) (h : Reads w w.heap.size 3 A es.length (edgeCells es)) :
    Calls Tryz.prog 106 #[.agg #[.int .i64 n, .slice A es.length c], .int .i64 q] w fun e w' => ∃ Am cm, e = .returned (.slice Am n cm) ∧ OwnI w' w.heap.size Am cm (maxL n es q) ∧ Below w.heap.size w w' := by
  have hn : n ≤ 12 := by have := hG.hi; omega
  have g0 := Blk.new w 24 #[.int .i64 n, .slice A es.length c]
  have B0 : Below w.heap.size w (w.alloc (.cells #[.int .i64 n, .slice A es.length c] 24)) := (Below.refl _ _).alloc (Nat.le_refl _) _
  have c0 := g0.cell 0
  have hmd := make_div n (by omega)
  have VC := Lib.hid (fun (v : Nat) (W : World) (hB : Below w.heap.size w W) => val08_any n A c es hlen hG v W ((h.below hB).more hB.size))
  have HV := Lib.hid (fun (v : Nat) (hv : v < n) => valE_at hG.ok hv)
  have HVB := Lib.hid (fun v : Nat => valE_bd hG.ok v)
  have O1 := Blk.new (w.alloc (.cells #[.int .i64 n, .slice A es.length c] 24)) 3 (ints (List.replicate n 0)).toArray
  have hs1 : (w.alloc (.cells #[.int .i64 n, .slice A es.length c] 24)).heap.size = w.heap.size + 1 := by simp
  rw [hs1] at O1
  have g1 := g0.alloc (.cells (ints (List.replicate n 0)).toArray 3)
  have B1 := B0.alloc (by simp) (.cells (ints (List.replicate n 0)).toArray 3)
  have HM : Hid (maxTo n (valL n (endsL es)) q n = maxL n es q) := rfl
  obtain ⟨val, hval⟩ : ∃ val, valL n (endsL es) = val := ⟨_, rfl⟩
  rw [hval] at HV HM
  clear hG hval
  go_enter Tryz.func106, Tryz.ntmps106
  go_wp2_with fail
  go_loopw [6] (fun i wl => ∃ v : Nat, v ≤ n ∧ i = .int .i64 v ∧ Blk wl (w.heap.size + 1) 3 (intCells (maxTo n val q v)) ∧ Blk wl w.heap.size 24 #[.int .i64 n, .slice A es.length c] ∧ Below w.heap.size w wl) (fun i _ => n - (intOf i).toNat)
  case atStart => exact ⟨0, by omega, rfl, by rw [maxTo_zero]; exact O1, g1, B1⟩
  case round =>
    obtain ⟨v, hv, rfl, O7, G7, hB7⟩ := hrel
    clear O1 g1 B1 g0 B0 c0
    have hs7 := hB7.size
    have c0 := G7.cell 0
    have c1 := G7.cell 1
    by_cases hlv : v < n
    · have hi : (v : Int) < (n : Int) := by omega
      by_cases hvq : v = q
      · have hne2 : ((v : Int) != (q : Int)) = false := by simp [hvq]
        subst hvq
        have hms := Lib.hid (maxTo_sink n val v)
        go_wp2
        go_roundw
        case rel => exact ⟨v + 1, by omega, by go_num, by rw [hms.out]; exact O7, G7, hB7⟩
        case measure => simp [intOf]; omega
      · have hne2 : ((v : Int) != (q : Int)) = true := by rw [bne_iff_ne]; omega
        have hms := Lib.hid (maxTo_succ n val q v hvq _ (HV.out v hlv))
        obtain ⟨y, hy⟩ := get_of_lt (xs := maxTo n val q v) (k := v) (by rw [maxTo_length]; exact hlv)
        have HY := Lib.hid hy
        have VC1 := Lib.hid (VC.out v wr hB7)
        have hvb := HVB.out v
        obtain ⟨x, hx⟩ : ∃ x, valE es v = x := ⟨_, rfl⟩
        rw [hx] at VC1 hms hvb
        clear hy hx
        go_wp2_with fail
        refine (VC1.out).mono ?_
        rintro e w5 ⟨rfl, hb5⟩
        have O5 := O7.next hb5
        have G5 := G7.next hb5
        have B5 := hB7.trans (hb5.mono hs7)
        have hs5 := B5.size
        have co := (O5.cell v).trans (intCells_get HY.out)
        have cf := O5.frozen v
        have O8 := O5.set_ v (.int .i64 (x - 1))
        rw [intCells_set, ← hms.out] at O8
        have G8 := G5.far (p := ⟨w.heap.size + 1, v, none⟩) (by simp) (.int .i64 (x - 1))
        have B8 := B5.setCell (p := ⟨w.heap.size + 1, v, none⟩) (by simp) (.int .i64 (x - 1))
        have HO8 := Lib.hid O8
        clear O8 O7 G7 hb5
        go_wp2
        go_roundw
        case rel => exact ⟨v + 1, by omega, by go_num, HO8.out, G8, B8⟩
        case measure => simp [intOf]; omega
    · obtain rfl : v = n := by omega
      go_wp2
      go_ret
      refine ⟨_, _, rfl, ?_, hB7⟩
      have hl := maxTo_length v val q v
      have := OwnI.of_blk O7 (show w.heap.size ≤ w.heap.size + 1 by omega) (by rw [hl]; simp [maxLen]; omega)
      rw [hl] at this
      rw [← HM.out]
      exact this
end Go.Proofs.YtdnoeaoelgehcaaGreat

