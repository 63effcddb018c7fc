/-
  Texts of this claim, put together: RWorst, DualP, ActIn, Within, StepF, FireE.
-/
import Derived.Test.YtnbikkcalcpedaaGreatDoorK31
import Derived.Test.YtnbikkcalcpedaaGreatDoorK30
import Derived.Test.YtnbikkcalcpedaaGreatDoorK29
import Derived.Test.YtnbikkcalcpedaaGreatDoorK17
import Derived.Test.YtnbikkcalcpedaaGreatDoorK10
import Derived.Test.YtnbikkcalcpedaaGreatDoorK08
import Derived.Test.YtnbikkcalcpedaaGreatDoorK22
import Derived.Test.YtnbikkcalcpedaaGreatDoorK24
namespace Go.Proofs.YtnbikkcalcpedaaGreatDoor
open Go.RowKit
def uniL (n : Nat) (es : List E3) (cs : List Int) (q : Nat) : Nat → List Nat
  | 0 => []
  | k + 1 => uniL n es cs q k ++ if banB es cs q (bitsL n k) then bitsL n k else []
theorem mem_uni {n : Nat} {es : List E3} {cs : List Int} {q v : Nat} : ∀ k, decide (v ∈ uniL n es cs q k) = inBan n es cs q k v
  | 0 => by simp [uniL, inBan]
  | k + 1 => by
    rw [inBan_succ, ← mem_uni k, uniL]
    cases banB es cs q (bitsL n k) <;> simp
theorem worst_uni {n q : Nat} {es : List E3} {cs : List Int} (hG : RightG n es) (hq : q < n) : (List.range n).filter (fun v => decide (v ∈ uniL n es cs q (2 ^ n))) = worstL n es cs q := by
  rw [← worst_sets hG hq]
  exact List.filter_congr fun v _ => mem_uni _
set_option maxRecDepth 100000 in
set_option maxHeartbeats 4000000 in
theorem rworst_any (n : Nat) (hn6 : n ≤ 6) (A : Option Addr) (c : Nat) (es : List E3) (hn : es.length ≤ 1048576) (hG : RightG n es) (q : Nat) (hq : q < n) (B : Option Addr) (d : Nat) (cs : List Int) (hcl : cs.length = n) (w : World)
    (h : Reads w w.heap.size 3 A es.length (edgeCells es)) (h' : Reads w w.heap.size 1 B cs.length (ints cs)) :
    Calls Tryz.prog 143 #[.agg #[.int .i64 n, .slice A es.length c], .int .i64 q, .slice B cs.length d] w fun e w' => ∃ A' c', e = .returned (.slice A' (natsI (worstL n es cs q)).length c') ∧ OwnI w' w.heap.size A' c' (natsI (worstL n es cs q)) ∧ Below w.heap.size w w' := by
  have g0 := Blk.new w 24 #[.int .i64 n, .slice A es.length c]
  have hb0 : Below w.heap.size w (w.alloc (.cells #[.int .i64 n, .slice A es.length c] 24)) := (Below.refl _ _).alloc (Nat.le_refl _) _
  have c0 := g0.cell 0
  have SC := Lib.hid (fun w => subsets_any n hn6 A c es.length w)
  have BC := Lib.hid (fun (k : Nat) (D : Option Addr) (f m : Nat) (hm : (bitsL n k).length = m) w h h' h'' => rban_any n (by omega) A c es hn hG q B d cs hcl D f (bitsL n k) m hm (bits_ok n k) w h h' h'')
  have hmm := Nat.le_trans (Nat.pow_le_pow_right (n := 2) (by omega) hn6) (show 2 ^ 6 ≤ 64 by decide)
  have HW : Hid ((List.range n).filter (fun v => decide (v ∈ uniL n es cs q (2 ^ n))) = worstL n es cs q) := worst_uni hG hq
  have HU : Hid (∀ k, uniL n es cs q (k + 1) = uniL n es cs q k ++ if banB es cs q (bitsL n k) then bitsL n k else []) := fun _ => rfl
  have hU0 : Hid (uniL n es cs q 0 = []) := rfl
  obtain ⟨U, hU⟩ : ∃ U, uniL n es cs q = U := ⟨_, rfl⟩
  obtain ⟨R, hR⟩ : ∃ R, worstL n es cs q = R := ⟨_, rfl⟩
  obtain ⟨K, hK⟩ : ∃ K : Nat → Bool, (fun k => banB es cs q (bitsL n k)) = K := ⟨_, rfl⟩
  have HK : Hid (∀ k, banB es cs q (bitsL n k) = K k) := fun k => congrFun hK k
  rw [hU] at HW HU hU0
  rw [hR] at HW ⊢
  simp only [HK.out] at HU BC
  obtain ⟨M, hM⟩ : ∃ M, 2 ^ n = M := ⟨_, rfl⟩
  rw [hM] at hmm HW
  simp only [hM] at SC
  have hmb := make_bools n (by omega)
  have M1 := Blk.new (w.alloc (.cells #[.int .i64 n, .slice A es.length c] 24)) 4 (bools (List.replicate n false))
  have hs1 : (w.alloc (.cells #[.int .i64 n, .slice A es.length c] 24)).heap.size = w.heap.size + 1 := by simp
  rw [hs1] at M1
  have g1 := g0.alloc (.cells (bools (List.replicate n false)) 4)
  have hB1 := hb0.alloc (by simp) (.cells (bools (List.replicate n false)) 4)
  have hmk : bools (List.replicate n false) = bools (marks n (U 0)) := by
    rw [hU0.out]
    congr 1
    apply List.ext_getElem?
    intro i
    by_cases hi : i < n
    · rw [marks_get hi, List.getElem?_replicate, if_pos hi]; simp
    · rw [List.getElem?_eq_none (by simp; omega), List.getElem?_eq_none (by simp [marks]; omega)]
  have HMK := Lib.hid hmk
  have HCL := Lib.hid hcl
  have h1c := g1.cell 0
  have h1d := g1.cell 1
  clear hG hcl hmk hU hR hK hM
  go_enter Tryz.func143, Tryz.ntmps143
  go_wp2_with fail
  obtain ⟨W1, hW1⟩ : ∃ W1, (w.alloc (.cells #[.int .i64 n, .slice A es.length c] 24)).alloc (.cells (bools (List.replicate n false)) 4) = W1 := ⟨_, rfl⟩
  rw [hW1] at M1 g1 hB1 h1c h1d ⊢
  rw [HMK.out] at M1
  clear hW1 g0 hb0 c0 hs1 hmb
  refine (SC.out _).mono ?_
  rintro e w4 ⟨A4, c4, vs, rfl, o4, hb4⟩
  have g4 := g1.next hb4
  have m4 := M1.next hb4
  have hB4 := hB1.trans (hb4.mono hB1.size)
  have o4 := o4.mono hB1.size
  clear g1 M1 hB1 hb4 h1c h1d
  go_wp2
  go_loopw [9, 10] (fun i _ wr => ∃ k : Nat, k ≤ M ∧ i = .int .i64 k ∧ OwnRows wr w.heap.size A4 c4 vs (subsL n M) ∧ Blk wr (w.heap.size + 1) 4 (bools (marks n (U k))) ∧ Blk wr w.heap.size 24 #[.int .i64 n, .slice A es.length c] ∧ Below w.heap.size w wr) (fun i _ _ => M - (intOf i).toNat)
  case atStart => exact ⟨0, by omega, rfl, o4, m4, g4, hB4⟩
  case round =>
    obtain ⟨k, hk, rfl, o5, m5, g5, hbel⟩ := hrel
    clear o4 m4 g4 hB4
    have hsz := hbel.size
    obtain ⟨wo, hwo⟩ : ∃ wo : World, wo = wr := ⟨wr, rfl⟩
    subst hwo
    by_cases hlt : k < M
    · have hx : (subsL n M)[k]? = some (natsI (bitsL n k)) := by unfold subsL; rw [List.getElem?_map, List.getElem?_range hlt]; rfl
      obtain ⟨b, off, A', c', rfl, hb, hcell, hrd⟩ := o5.reads.at_ hx
      obtain ⟨s, hs⟩ : ∃ s, bitsL n k = s := ⟨_, rfl⟩
      have hsn : ∀ u ∈ s, u < n := by rw [← hs]; exact bits_lt
      have hse : s.length ≤ n := by rw [← hs]; exact bitsL_length n k
      have BK := BC.out k A' c' (natsI s).length (by rw [hs, natsI_length])
      have hun := HU.out k
      rw [hs] at hx hcell hrd hun BK
      have HSN := Lib.hid hsn
      have HSE := Lib.hid hse
      have HX := Lib.hid hx
      have RG := Lib.hid ((h.below hbel).more hsz)
      have RD := Lib.hid ((h'.below hbel).more hsz)
      have RS := Lib.hid hrd
      have hi : (k : Int) < (M : Int) := by omega
      have c0 := g5.cell 0
      have c1 := g5.cell 1
      have hgl := g5.lt
      have hSl : (subsL n M).length = M := subsL_length n M
      have hsli : (k : Int) < ((subsL n M).length : Int) := by omega
      have hk3 : k < 64 := by omega
      cases hz : K k
      · rw [hz] at BK hun
        simp only [if_neg (show ¬ (false = true) by decide), List.append_nil] at hun
        have BK := Lib.hid BK
        have HUN := Lib.hid hun
        clear hx hrd hz hun hs hsn hse
        go_wp2
        go_region_held3 (fun W => W.cell? ⟨w.heap.size, 0, none⟩ = some (.int .i64 n) ∧ W.cell? ⟨w.heap.size, 1, none⟩ = some (.slice A es.length c) ∧ W.cell? ⟨b, off + k, none⟩ = some (.slice A' (natsI s).length c')) (go_keep)
          (first | (go_at_call 198; refine (BK.out _ (by exact RG.out) (by exact RD.out) (by exact RS.out)).mono ?_; rintro e w5 ⟨rfl, hb5⟩
                    have k0 := (hb5.cell (p := ⟨w.heap.size, 0, none⟩) (by exact hgl)).trans c0
                    have k1 := (hb5.cell (p := ⟨w.heap.size, 1, none⟩) (by exact hgl)).trans c1
                    have k2 := (hb5.cell (p := ⟨b, off + k, none⟩) (by show b < wo.heap.size; omega)).trans hcell))
        all_goals (
          have hb5' : Below wo.heap.size wo w5 := (Below.refl _ _).drew.trans hb5
          go_wp2
          go_roundw
          case rel => exact ⟨k + 1, by omega, by go_num, o5.next hb5', by rw [HUN.out]; exact m5.next hb5', g5.next hb5', hbel.trans (hb5'.mono hsz)⟩
          case measure => simp [intOf]; omega)
      · rw [hz] at BK hun
        rw [if_pos rfl] at hun
        have BK := Lib.hid BK
        have HUN := Lib.hid hun
        clear hx hrd hz hun hs hsn hse
        go_wp2
        go_region_held3 (fun W => W.cell? ⟨w.heap.size, 0, none⟩ = some (.int .i64 n) ∧ W.cell? ⟨w.heap.size, 1, none⟩ = some (.slice A es.length c) ∧ W.cell? ⟨b, off + k, none⟩ = some (.slice A' (natsI s).length c')) (go_keep)
          (first | (go_at_call 198; refine (BK.out _ (by exact RG.out) (by exact RD.out) (by exact RS.out)).mono ?_; rintro e w5 ⟨rfl, hb5⟩
                    have k0 := (hb5.cell (p := ⟨w.heap.size, 0, none⟩) (by exact hgl)).trans c0
                    have k1 := (hb5.cell (p := ⟨w.heap.size, 1, none⟩) (by exact hgl)).trans c1
                    have k2 := (hb5.cell (p := ⟨b, off + k, none⟩) (by show b < wo.heap.size; omega)).trans hcell))
        all_goals (
          have hb5' : Below wo.heap.size wo w5 := (Below.refl _ _).drew.trans hb5
          have o6 := o5.next hb5'
          have m6 : Blk w5 (w.heap.size + 1) 4 (bools (marks n (U k ++ s.take 0))) := by rw [List.take_zero, List.append_nil]; exact m5.next hb5'
          have g6 := g5.next hb5'
          have B6 := hbel.trans (hb5'.mono hsz)
          clear o5 m5 g5 hbel hb5 hb5' hcell RS c0 c1 hgl hsz hb
          go_wp2
          go_loopw [10] (fun j wl => ∃ y : Nat, y ≤ (natsI s).length ∧ j = .int .i64 y ∧ OwnRows wl w.heap.size (some ⟨b, off, none⟩) c4 vs (subsL n M) ∧ Blk wl (w.heap.size + 1) 4 (bools (marks n (U k ++ s.take y))) ∧ Blk wl w.heap.size 24 #[.int .i64 n, .slice A es.length c] ∧ Below w.heap.size w wl) (fun j _ => (natsI s).length - (intOf j).toNat)
          case atStart => exact ⟨0, by omega, rfl, o6, m6, g6, B6⟩
          case round =>
            obtain ⟨y, hy, rfl, o7, m7, g7, B7⟩ := hrel
            clear o6 m6 g6 B6
            have hs7 := B7.size
            have hnl := natsI_length s
            obtain ⟨b7, off7, A7, c7, e7, hb7, hcell7, hrd7⟩ := o7.reads.at_ HX.out
            cases e7
            by_cases hyl : y < s.length
            · obtain ⟨x, hxx⟩ := get_of_lt hyl
              have hxn := HSN.out x (List.mem_of_getElem? hxx)
              obtain ⟨b9, off9, rfl, hb9, hc9⟩ := hrd7.at_ (ints_at (natsI_at hxx))
              have htk := take_snoc hxx
              have mf := m7.frozen x
              have mc := m7.cell x
              rw [bools_get (marks_get hxn _)] at mc
              have hyi : (y : Int) < ((natsI s).length : Int) := by omega
              have hy6 : y < 6 := by have := HSE.out; omega
              have hxi : (x : Int) < (n : Int) := by omega
              have m8 := m7.set_ x (.bool true)
              rw [bools_set, marks_set hxn, List.append_assoc, ← htk] at m8
              have o8 := o7.set_blk m7 (by decide) (by decide) x (.bool true)
              have g8 := g7.far (p := ⟨w.heap.size + 1, x, none⟩) (by simp) (.bool true)
              have B8 := B7.setCell (p := ⟨w.heap.size + 1, x, none⟩) (by simp) (.bool true)
              have M8 := Lib.hid m8
              have O8 := Lib.hid o8
              clear hxx htk hnl m8 o8 m7 hrd7
              go_wp2
              go_roundw
              case rel => exact ⟨y + 1, by omega, by go_num, O8.out, M8.out, g8, B8⟩
              case measure => simp [intOf]; omega
            · have hye : y = s.length := by omega
              have hyi : ¬ (y : Int) < ((natsI s).length : Int) := by omega
              rw [hye, List.take_length, ← HUN.out] at m7
              have M7 := Lib.hid m7
              clear hnl hye m7 hrd7
              go_wp2
              go_roundw
              case rel => exact ⟨k + 1, by omega, by go_num, o7, M7.out, g7, B7⟩
              case measure => simp [intOf]; omega)
    · obtain rfl : k = M := by omega
      have hfs : ∀ j, ((List.range (j + 1)).filter (fun v => decide (v ∈ U k))) = ((List.range j).filter (fun v => decide (v ∈ U k))) ++ if j ∈ U k then [j] else [] := fun j => by
        rw [List.range_succ, List.filter_append]
        by_cases hc : j ∈ U k <;> simp [hc]
      obtain ⟨u, hu⟩ : ∃ u, U k = u := ⟨_, rfl⟩
      rw [hu] at HW hfs m5
      have HFS := Lib.hid hfs
      obtain ⟨F, hF⟩ : ∃ F, (fun j => (List.range j).filter (fun v => decide (v ∈ u))) = F := ⟨_, rfl⟩
      have HF : Hid (∀ j, (List.range j).filter (fun v => decide (v ∈ u)) = F j) := fun j => congrFun hF j
      have HF0 : Hid (F 0 = []) := by rw [Hid, ← HF.out]; rfl
      rw [HF.out] at HW
      simp only [HF.out] at HFS
      clear h h' hfs hu hF HF o5
      go_wp2
      go_loopw [11, 12] (fun s i wl => ∃ (j : Nat) (A' : Option Addr) (c' : Nat), j ≤ n ∧ i = .int .i64 j ∧ s = .slice A' (natsI (F j)).length c' ∧ (natsI (F j)).length ≤ j ∧ OwnI wl w.heap.size A' c' (natsI (F j)) ∧ Blk wl (w.heap.size + 1) 4 (bools (marks n u)) ∧ Blk wl w.heap.size 24 #[.int .i64 n, .slice A es.length c] ∧ Below w.heap.size w wl) (fun _ i _ => n - (intOf i).toNat)
      case atStart => exact ⟨0, none, 0, by omega, rfl, by rw [HF0.out]; rfl, by rw [HF0.out]; simp [natsI], by rw [HF0.out]; exact OwnI.nil_ _ _, m5, g5, hbel⟩
      case round =>
        obtain ⟨j, A', c', hj, rfl, rfl, hjl, o7, m7, g7, B7⟩ := hrel
        clear m5 g5 hbel
        have hs7 := B7.size
        have c0 := g7.cell 0
        by_cases hlt : j < n
        · have mc := m7.cell j
          rw [bools_get (marks_get hlt _)] at mc
          have hji : (j : Int) < (n : Int) := by omega
          have hfj := HFS.out j
          by_cases hm : j ∈ u
          · rw [if_pos hm] at hfj
            rw [decide_eq_true hm] at mc
            have HFJ := Lib.hid hfj
            clear hm hfj
            go_wp2_with (at_builtin; refine push_int rfl (.tmp 60) (.tmp 62) _ rfl Tryz.underlying25 w.heap.size A' c' (natsI (F j)) (j : Int) rfl o7 rfl rfl (by omega) (by omega) ?_; intro A2 c2 w2 hown2 hg2 hb2)
            go_roundw
            case rel =>
              have g8 := Blk.grown (g7.alloc _) hg2 (own_blk_ne o7 g7 (by decide))
              have m8 := Blk.grown (m7.alloc _) hg2 (own_blk_ne o7 m7 (by decide))
              exact ⟨j + 1, A2, c2, by omega, by go_num, by rw [HFJ.out, natsI_snoc]; simp, by rw [HFJ.out, natsI_snoc]; simp; omega, by rw [HFJ.out, natsI_snoc]; exact hown2, m8, g8, B7.trans hb2⟩
            case measure => simp [intOf]; omega
          · rw [if_neg hm, List.append_nil] at hfj
            rw [decide_eq_false hm] at mc
            have HFJ := Lib.hid hfj
            clear hm hfj
            go_wp2
            go_roundw
            case rel => exact ⟨j + 1, A', c', by omega, by go_num, by rw [HFJ.out], by rw [HFJ.out]; omega, by rw [HFJ.out]; exact o7, m7, g7, B7⟩
            case measure => simp [intOf]; omega
        · obtain rfl : j = n := by omega
          go_wp2
          go_ret
          rw [← HW.out]
          exact ⟨A', c', rfl, o7, B7⟩
theorem recB_worst {n q : Nat} {es : List E3} {cs : List Int} (hq : q < n) : recB n es cs q = (stabTo es cs q n && decide ((natsI (worstL n es cs q)).length = 0)) := by
  unfold recB
  congr 1
  rw [decide_eq_decide, full_iff hq, natsI_length, List.length_eq_zero_iff]
set_option maxRecDepth 100000 in
set_option maxHeartbeats 4000000 in
theorem ris24_any (n : Nat) (hn6 : n ≤ 6) (A : Option Addr) (c : Nat) (es : List E3) (hn : es.length ≤ 10000) (hG : RightG n es) (q : Nat) (hq : q < n) (B : Option Addr) (d : Nat) (cs : List Int) (hcl : cs.length = n) (w : World)
    (h : Reads w w.heap.size 3 A es.length (edgeCells es)) (h' : Reads w w.heap.size 1 B n (ints cs)) :
    Calls Tryz.prog 85 #[.agg #[.int .i64 n, .slice A es.length c], .int .i64 q, .slice B n d] w fun e w' => e = .returned (.bool (recB n es cs q)) ∧ Below w.heap.size w w' := by
  have g0 := Blk.new w 24 #[.int .i64 n, .slice A es.length c]
  have hb0 : Below w.heap.size w (w.alloc (.cells #[.int .i64 n, .slice A es.length c] 24)) := (Below.refl _ _).alloc (Nat.le_refl _) _
  have c0 := g0.cell 0
  have c1 := g0.cell 1
  have KC := Lib.hid (fun w h h' => calm19_any n A c es hn hG q B d cs hcl w h h')
  have WC := Lib.hid (fun w h h' => rworst_any n hn6 A c es (by omega) hG q hq B d cs hcl w h h')
  rw [hcl] at WC
  rw [recB_worst hq]
  obtain ⟨x, hx⟩ : ∃ x, stabTo es cs q n = x := ⟨_, rfl⟩
  obtain ⟨ys, hy⟩ : ∃ y, natsI (worstL n es cs q) = y := ⟨_, rfl⟩
  rw [hx] at KC ⊢
  rw [hy] at WC ⊢
  have H1 := Lib.hid h
  have H2 := Lib.hid h'
  clear hx hy hG hcl h h'
  cases x
  · rw [Bool.false_and]
    go_enter Tryz.func85, Tryz.ntmps85
    go_wp2_with fail
    refine (KC.out _ ((H1.out.below hb0).more hb0.size) ((H2.out.below hb0).more hb0.size)).mono ?_
    rintro e w1 ⟨rfl, hb1⟩
    go_wp2
    go_ret
    exact ⟨rfl, hb0.trans (hb1.mono hb0.size)⟩
  · rw [Bool.true_and]
    go_enter Tryz.func85, Tryz.ntmps85
    go_wp2_with fail
    refine (KC.out _ ((H1.out.below hb0).more hb0.size) ((H2.out.below hb0).more hb0.size)).mono ?_
    rintro e w1 ⟨rfl, hb1⟩
    have g1 := g0.next hb1
    have c0 := g1.cell 0
    have c1 := g1.cell 1
    have hB1 := hb0.trans (hb1.mono hb0.size)
    go_wp2_with fail
    refine (WC.out _ ((H1.out.below hB1).more hB1.size) ((H2.out.below hB1).more hB1.size)).mono ?_
    rintro e w2 ⟨A2, c2, rfl, o2, hb2⟩
    have hB2 := hB1.trans (hb2.mono hB1.size)
    by_cases h0 : ys.length = 0
    · have hz : ((ys.length : Int) == 0) = true := by simp [h0]
      have hd := Lib.hid (decide_eq_true h0)
      clear h0 o2
      go_wp2
      go_ret
      exact ⟨by rw [hd.out]; rfl, hB2⟩
    · have hz : ((ys.length : Int) == 0) = false := by simp; intro hc; exact h0 (by rw [hc]; rfl)
      have hd := Lib.hid (decide_eq_false h0)
      clear h0 o2
      go_wp2
      go_ret
      exact ⟨by rw [hd.out]; rfl, hB2⟩
end Go.Proofs.YtnbikkcalcpedaaGreatDoor
namespace Go.Proofs.YtnbikkcalcpedaaGreatDoor
open Go.RowKit
theorem cat_same {es : List E3} {c c' : List Int} {l : List Nat} {v : Nat} (h : v ∉ l → c.getD v 0 = c'.getD v 0) : catL es c l v = catL es c' l v := by
  unfold catL
  by_cases hm : v ∈ l
  · simp [hm]
  · rw [h hm]
theorem burnL_same {n q : Nat} {es : List E3} {c c' : List Int} (h : ∀ v, v < n → v ≠ q → c.getD v 0 = c'.getD v 0) : ∀ (k : Nat) (l : List Nat), q ∈ l → burnL es c n k l = burnL es c' n k l
  | 0, _, _ => rfl
  | k + 1, l, hq => by
    have hr : readyL es c n l = readyL es c' n l := List.filter_congr fun v hv => cat_same fun hm => h v (List.mem_range.1 hv) (fun e => hm (e ▸ hq))
    rw [burnL, burnL, hr]
    cases (readyL es c' n l).head? with
    | none => rfl
    | some v => exact burnL_same h k _ (by simp [hq])
theorem burnt_dual (n : Nat) (es : List E3) (cs : List Int) (q : Nat) : burntL es (dulL n es cs q) n q = recL n es cs q :=
  burnL_same (q := q) (fun v hv hvq => by rw [dulL_get es cs q hv, if_neg hvq, dualL_get es cs hv]) n [q] (by simp)
theorem prv_dual {n q : Nat} {es : List E3} (hG : RightG n es) (cs : List Int) : ∀ (r l : List Nat), LOk n (l ++ r) → q ∈ l → prvFrom es cs l r = provFrom es (dulL n es cs q) l r
  | [], _, _, _ => rfl
  | x :: r, l, h, hq => by
    have hxl : x ∉ l := fun hc => by
      have := h.1
      rw [List.nodup_append] at this
      exact this.2.2 x hc x (by simp) rfl
    have hxn : x < n := h.2 x (by simp)
    have hlo : LOk n l := ⟨(List.nodup_append.1 h.1).1, fun v hv => h.2 v (by simp [hv])⟩
    have h1 := cat_dual hG cs hlo hxn
    have h2 : catL es (dulL n es cs q) l x = catL es (dualL n es cs) l x := cat_same fun _ => by
      have hxq : x ≠ q := by rintro rfl; exact hxl hq
      rw [dulL_get es cs q hxn, if_neg hxq, dualL_get es cs hxn]
    have h3 : catchB es cs l x = decide ((dulL n es cs q).getD x 0 < joinsN es x l) := by
      rw [h1] at h2
      unfold catL at h2
      rw [decide_eq_false hxl, Bool.not_false, Bool.true_and, Bool.true_and] at h2
      exact h2.symm
    rw [prvFrom, provFrom, h3, prv_dual (q := q) hG cs r (l ++ [x]) (by simpa using h) (by simp [hq])]
section
variable {n q : Nat} {es : List E3} {cs : List Int}
theorem dul_err (hlen : es.length ≤ 10000) (hz : burnErr n es q cs = 0) (hs : stabTo es cs q n = true) : burnErr n es q (dulL n es cs q) = 0 := by
  obtain ⟨hG, _, _, hq, hl, hb, h0⟩ := conf_zero (burn_zero hz).1
  have hz0 := (burn_zero hz).2
  have hq : q < n := by omega
  have hl : cs.length = n := by omega
  have hst := stabTo_iff.1 hs
  have hget : ∀ v, v < n → 0 ≤ (dulL n es cs q).getD v 0 ∧ (dulL n es cs q).getD v 0 ≤ 1048576 := by
    intro v hv
    rw [dulL_get es cs q hv]
    by_cases hvq : v = q
    · rw [if_pos hvq]; omega
    · rw [if_neg hvq]
      have h1 := hst v hv hvq
      have h2 := h0 v (by omega) (by omega)
      have h3 := valE_bd hG.ok v
      omega
  refine burn_zero_of hz (by rw [dulL_length]) (fun x hx => ?_) (fun v => ?_) ?_
  · obtain ⟨i, hi⟩ := List.getElem?_of_mem hx
    have hin : i < n := by have := (List.getElem?_eq_some_iff.1 hi).1; rw [dulL_length] at this; exact this
    have := hget i hin
    rw [getD_at hi] at this
    omega
  · by_cases hv : v < n
    · exact (hget v hv).1
    · rw [List.getD_eq_getElem?_getD, List.getElem?_eq_none (by rw [dulL_length]; omega)]
      simp
  · rw [Int.toNat_natCast, dulL_get es cs q hq, if_pos rfl]
theorem dul_stab (hz : burnErr n es q cs = 0) : stabTo es (dulL n es cs q) q n = true := by
  obtain ⟨_, _, _, _, _, _, h0⟩ := conf_zero (burn_zero hz).1
  rw [stabTo_iff]
  intro v hv hvq
  rw [dulL_get es cs q hv, if_neg hvq]
  have := h0 v (by omega) (by omega)
  omega
theorem dul_dul (hz : burnErr n es q cs = 0) : dulL n es (dulL n es cs q) q = cs := by
  obtain ⟨_, _, _, _, hl, _, _⟩ := conf_zero (burn_zero hz).1
  have hz0 := (burn_zero hz).2
  rw [Int.toNat_natCast] at hz0
  have hl : cs.length = n := by omega
  apply List.ext_getElem?
  intro i
  by_cases hi : i < n
  · have h1 : ∀ {l : List Int}, l.length = n → l[i]? = some (l.getD i 0) := fun {l} h => by
      rw [List.getD_eq_getElem?_getD, List.getElem?_eq_getElem (by omega)]; rfl
    rw [h1 (dulL_length n es _ q), h1 hl, dulL_get es _ q hi]
    by_cases h : i = q
    · rw [if_pos h, h, hz0]
    · rw [if_neg h, dulL_get es cs q hi, if_neg h]
      congr 1
      omega
  · rw [List.getElem?_eq_none (by rw [dulL_length]; omega), List.getElem?_eq_none (by omega)]
theorem dual_plain (hlen : es.length ≤ 10000) (hz : burnErr n es q cs = 0) (hs : stabTo es cs q n = true) :
    burnErr n es q (dulL n es cs q) = 0 ∧ stabTo es (dulL n es cs q) q n = true ∧ dulL n es (dulL n es cs q) q = cs ∧
    decide (restL n (burntL es (dulL n es cs q) n q) = []) = recB n es cs q ∧ recB n es cs q = decide (worstL n es cs q = []) ∧
    (recB n es cs q = true → verErr n es q cs (natsI (recL n es cs q)) = 0 ∧ rverB n es q cs (natsI (recL n es cs q)) = true ∧
      verErr n es q (dulL n es cs q) (natsI (recL n es cs q)) = 0 ∧ verB n es q (dulL n es cs q) (natsI (recL n es cs q)) = true) := by
  have hd := dul_err hlen hz hs
  obtain ⟨hG, _, _, hq, hl, hb, h0⟩ := conf_zero (burn_zero hz).1
  have hq : q < n := by omega
  have hrb : recB n es cs q = decide (worstL n es cs q = []) := by
    unfold recB
    rw [hs, Bool.true_and, decide_eq_decide]
    exact full_iff hq
  refine ⟨hd, dul_stab hz, dul_dul hz, by rw [burnt_dual, hrb]; rfl, hrb, fun hr => ?_⟩
  have hw : worstL n es cs q = [] := by rw [hrb] at hr; exact of_decide_eq_true hr
  have hfull := (full_iff hq).2 hw
  have hlo := recL_ok (n := n) (q := q) (es := es) (cs := cs) hq
  obtain ⟨r, hbr, hpr⟩ := burn_proves (es := es) (cs := dulL n es cs q) (n := n) ⟨by simp, by simp⟩ n [q]
  have hbr : recL n es cs q = [q] ++ r := (burnt_dual n es cs q).symm.trans hbr
  rw [hbr] at hlo hfull
  rw [hbr]
  obtain ⟨v1, v2⟩ := ver_true hd hlo hfull hpr
  have v3 : verErr n es q cs (natsI ([q] ++ r)) = 0 := by unfold verErr; rw [if_neg (by omega)]; exact ren_zero hlo hfull
  refine ⟨v3, ?_, v1, v2⟩
  unfold rverB
  rw [if_pos v3, nats_toNat, natsI_getD]
  unfold prvL
  have := prv_dual (q := q) hG cs r [q] hlo (by simp)
  simp [this, hpr, hs]
end
end Go.Proofs.YtnbikkcalcpedaaGreatDoor
namespace Go.Proofs.YtnbikkcalcpedaaGreatDoor
open Go.RowKit
end Go.Proofs.YtnbikkcalcpedaaGreatDoor
namespace Go.Proofs.YtnbikkcalcpedaaGreatDoor
open Go.RowKit
end Go.Proofs.YtnbikkcalcpedaaGreatDoor
namespace Go.Proofs.YtnbikkcalcpedaaGreatDoor
open Go.RowKit
end Go.Proofs.YtnbikkcalcpedaaGreatDoor
namespace Go.Proofs.YtnbikkcalcpedaaGreatDoor
open Go.RowKit
def incP (v : Nat) (l : List Nat) (p : Nat × Nat) : Bool := decide (p.1 = v ∨ p.2 = v) && decide (oth p v ∈ l)
theorem degTo_filter (E : List (Nat × Nat)) (v : Nat) (l : List Nat) : degTo E v l = (E.filter (incP v l)).length := by
  have h1 : (List.range E.length).map (fun e => E.getD e (0, 0)) = E := by
    apply List.ext_getElem?
    intro i
    by_cases hi : i < E.length
    · simp [hi]
    · simp [hi]
  conv => rhs; rw [← h1, List.filter_map, List.length_map]
  unfold degTo
  rfl
theorem deg_one {n : Int} {e : E3} (h : okE n e) (v : Nat) {l : List Nat} (hv : v ∉ l) : (((List.replicate e.2.2.toNat (e.1.toNat, e.2.1.toNat)).filter (incP v l)).length : Int) = jnT l v e := by
  obtain ⟨a, b, k⟩ := e
  unfold okE at h
  dsimp only at h
  have hf : ∀ (k : Nat) (p : Nat × Nat), ((List.replicate k p).filter (incP v l)).length = if incP v l p = true then k else 0 := by
    intro k p
    induction k with
    | zero => simp
    | succ k ih =>
      rw [List.replicate_succ, List.filter_cons]
      by_cases hp : incP v l p = true
      · rw [if_pos hp] at ih ⊢
        rw [if_pos hp, List.length_cons, ih]
      · rw [if_neg hp] at ih ⊢
        rw [if_neg hp, ih]
  rw [hf]
  obtain ⟨a, rfl⟩ := Int.eq_ofNat_of_zero_le h.1
  obtain ⟨b, rfl⟩ := Int.eq_ofNat_of_zero_le (show 0 ≤ b by omega)
  unfold jnT incP oth
  dsimp only
  simp only [Int.toNat_natCast]
  by_cases ha : a = v
  · subst ha
    by_cases hb : b = a
    · subst hb; simp [hv]
    · have hb' : ¬ ((a : Int) = (b : Int)) := by omega
      by_cases hm : b ∈ l
      · simp [hm, hb']; omega
      · simp [hm, hb']; omega
  · by_cases hb : b = v
    · subst hb
      have hb' : ¬ ((a : Int) = (b : Int)) := by omega
      by_cases hm : a ∈ l
      · simp [hm, ha, hb']; omega
      · simp [hm, ha, hb']
    · have h1 : ¬ ((a : Int) = (v : Int)) := by omega
      have h2 : ¬ ((b : Int) = (v : Int)) := by omega
      simp [ha, hb, h1, h2]
theorem deg_jn {n : Int} {es : List E3} (h : ∀ e ∈ es, okE n e) (v : Nat) {l : List Nat} (hv : v ∉ l) : (degTo (endsL es) v l : Int) = jnE es l v := by
  rw [degTo_filter]
  induction es with
  | nil => rfl
  | cons e es ih =>
    have e1 : endsL (e :: es) = List.replicate e.2.2.toNat (e.1.toNat, e.2.1.toNat) ++ endsL es := rfl
    have e2 : jnE (e :: es) l v = jnT l v e + jnE es l v := by unfold jnE; rw [List.map_cons, List.sum_cons]
    rw [e1, List.filter_append, List.length_append, e2, ← ih (fun x hx => h x (by simp [hx])), ← deg_one (h e (by simp)) v hv]
    omega
theorem deg_joins {n : Nat} {es : List E3} (hG : RightG n es) {v : Nat} {l : List Nat} (hl : LOk n l) (hv : v ∉ l) : (degTo (endsL es) v l : Int) = joinsN es v l := by
  rw [deg_jn hG.ok v hv, jnE_flm hG, flm_joins l hl hv]
theorem fburns_iff {n q : Nat} {es : List E3} (hG : RightG n es) (hq : q < n) (cs : List Int) : restL n (burntL es cs n q) = [] ↔ BurnsAll (endsL es) n q cs := by
  have he : ∀ a b, 0 ≤ btw es a b := fun a b => (btw_bd hG.ok a b).1
  have hl0 : LOk n [q] := ⟨by simp, by simpa using hq⟩
  constructor
  · intro hr O hqO hnd hlt hcl v hv
    have h1 := burns_same (es := es) (c := cs) (n := n) (l := [q]) (l' := O) (by simpa using hqO) (fun u hu => by
      unfold catL
      by_cases hm : u ∈ O
      · simp [hm]
      · have := hcl u hu hm
        rw [deg_joins hG ⟨hnd, hlt⟩ hm] at this
        have h2 : ¬ cs.getD u 0 < joinsN es u O := by omega
        rw [decide_eq_false h2]; simp) ⟨hnd, hlt⟩ he n hl0
    refine h1 v (Classical.byContradiction fun hm => ?_)
    have : v ∈ restL n (burntL es cs n q) := mem_rest.2 ⟨hv, hm⟩
    rw [hr] at this; simp at this
  · intro h
    have hok : LOk n (burntL es cs n q) := burnL_ok n [q] hl0
    rw [List.eq_nil_iff_forall_not_mem]
    intro v hv
    obtain ⟨h1, h2⟩ := mem_rest.1 hv
    refine h2 (h (burntL es cs n q) ((burnL_pre n [q]).subset (by simp)) hok.1 hok.2 (fun u hu hm => ?_) v h1)
    have h3 := burnL_done (es := es) (c := cs) (n := n) (k := n) (l := [q]) hl0 (by simp) u hu
    rw [deg_joins hG hok hm]
    change catL es cs (burntL es cs n q) u = false at h3
    refine Classical.byContradiction fun h4 => ?_
    rw [catL_true.2 ⟨hm, by omega⟩] at h3; cases h3
theorem cfg_iff {n q : Nat} {es : List E3} {cs : List Int} : cfgErr n es q cs = 0 ↔ burnErr n es q cs = 0 ∧ BurnsAll (endsL es) n q cs := by
  constructor
  · intro h
    obtain ⟨h1, h2, _⟩ := cfg_zero h
    obtain ⟨hG, _, _, hq, _⟩ := conf_zero (burn_zero h1).1
    exact ⟨h1, (fburns_iff hG (by omega) cs).1 h2⟩
  · rintro ⟨h1, h2⟩
    obtain ⟨hG, _, _, hq, _⟩ := conf_zero (burn_zero h1).1
    have h3 := (fburns_iff hG (by omega) cs).2 h2
    unfold cfgErr superE
    rw [if_pos h1]
    simp [h3]
theorem jnE_mono {n : Int} {es : List E3} (h : ∀ e ∈ es, okE n e) {l m : List Nat} (hs : ∀ u ∈ l, u ∈ m) (v : Int) : jnE es l v ≤ jnE es m v := by
  induction es with
  | nil => exact Int.le_refl _
  | cons e es ih =>
    have e2 : ∀ l, jnE (e :: es) l v = jnT l v e + jnE es l v := fun l => by unfold jnE; rw [List.map_cons, List.sum_cons]
    rw [e2, e2]
    have h1 := ih fun x hx => h x (by simp [hx])
    have h2 : jnT l v e ≤ jnT m v e := by
      have hb := (jnT_bd (h e (by simp)) m v).1
      unfold jnT at hb ⊢
      by_cases hc : e.1 ≠ e.2.1 ∧ ((e.1 = v ∧ e.2.1.toNat ∈ l) ∨ (e.2.1 = v ∧ e.1.toNat ∈ l))
      · rw [if_pos hc, if_pos ⟨hc.1, hc.2.imp (fun x => ⟨x.1, hs _ x.2⟩) (fun x => ⟨x.1, hs _ x.2⟩)⟩]
        exact Int.le_refl _
      · rw [if_neg hc]; exact hb
    omega
theorem burns_stab {n q : Nat} {es : List E3} (hG : RightG n es) (hq : q < n) {cs : List Int} (h : BurnsAll (endsL es) n q cs) : stabTo es cs q n = true := by
  unfold stabTo
  rw [List.all_eq_true]
  intro v hv
  have hv := List.mem_range.1 hv
  rw [Bool.or_eq_true, decide_eq_true_eq, decide_eq_true_eq]
  by_cases hvq : v = q
  · exact .inl hvq
  · right
    refine Classical.byContradiction fun hc => ?_
    have hO : v ∉ (List.range n).filter fun u => !decide (u = v) := by simp
    refine hO (h _ (List.mem_filter.2 ⟨List.mem_range.2 hq, by simp; omega⟩) (List.nodup_range.sublist List.filter_sublist) (fun u hu => List.mem_range.1 (List.mem_filter.1 hu).1) (fun u hu hm => ?_) v hv)
    have : u = v := Classical.byContradiction fun hne => hm (List.mem_filter.2 ⟨List.mem_range.2 hu, by simp [hne]⟩)
    subst this
    rw [deg_jn hG.ok u hO]
    have h1 := jnE_mono hG.ok (l := (List.range n).filter fun x => !decide (x = u)) (m := List.range n) (fun x hx => (List.mem_filter.1 hx).1) (u : Int)
    rw [← valE_jn hG.ok] at h1
    omega
theorem root_of {n q : Nat} {es : List E3} (hj : joinErr n es = 0) (hq : q < n) : rootErr n es q = 0 := by
  obtain ⟨h1, _, h2⟩ := join_zero hj
  rcases root_cases n es q with ⟨a, _⟩ | ⟨_, a, _⟩ | ⟨_, _, a, _⟩ | ⟨_, _, _, a⟩
  · exact absurd h1 a
  · rw [a] at h2; cases h2
  · unfold vertB at a; simp at a; omega
  · exact a
theorem le_sum_of {l : List Int} (h : ∀ x ∈ l, 0 ≤ x) : ∀ x ∈ l, x ≤ l.sum := by
  induction l with
  | nil => simp
  | cons a l ih =>
    have h1 : 0 ≤ l.sum := by
      clear ih
      have : ∀ l : List Int, (∀ x ∈ l, 0 ≤ x) → 0 ≤ l.sum := by
        intro l
        induction l with
        | nil => intro _; exact Int.le_refl _
        | cons a l ih => intro h; rw [List.sum_cons]; have := h a (by simp); have := ih fun x hx => h x (by simp [hx]); omega
      exact this l fun x hx => h x (by simp [hx])
    intro x hx
    rw [List.sum_cons]
    have ha := h a (by simp)
    rcases List.mem_cons.1 hx with rfl | hx
    · omega
    · have := ih (fun x hx => h x (by simp [hx])) x hx; omega
theorem getD_mem {l : List Int} (h : ∀ v, 0 ≤ l.getD v 0) : ∀ x ∈ l, 0 ≤ x := by
  intro x hx
  obtain ⟨i, hi, rfl⟩ := List.mem_iff_getElem.1 hx
  have := h i
  rw [List.getD_eq_getElem?_getD, List.getElem?_eq_getElem hi] at this
  exact this
theorem conf_right {m p : Nat} {es : List E3} {t : List Nat} (hj : joinErr m es = 0) (hG : RightG m es) (hp : p < m) (hm : (endsL es).length ≤ 1000) : burnErr m es p (confN (endsL es) m p t) = 0 := by
  obtain ⟨h1, h2, h3, h4⟩ := conf_facts (t := t) (bd_ends hG) hp
  have h5 := getD_mem h2
  have h6 := le_sum_of h5
  have hc := conf_of (root_of hj hp) h1 (fun x hx => by have := h5 x hx; omega) (fun x hx => by have := h6 x hx; omega) (fun v _ _ => h2 v)
  unfold burnErr
  rw [if_neg (fun h => h hc), Int.toNat_natCast, if_neg (fun h => h h3)]
theorem conf_cfg {m p : Nat} {es : List E3} {t : List Nat} (hj : joinErr m es = 0) (hR : TreeR m es t) (hp : p < m) (hm : (endsL es).length ≤ 1000) : cfgErr m es p (confN (endsL es) m p t) = 0 ∧ stabTo es (confN (endsL es) m p t) p m = true := by
  have hb := conf_burns (bd_ends hR.hG) hp hR.tr
  exact ⟨cfg_iff.2 ⟨conf_right hj hR.hG hp hm, hb⟩, burns_stab hR.hG hp hb⟩
end Go.Proofs.YtnbikkcalcpedaaGreatDoor
