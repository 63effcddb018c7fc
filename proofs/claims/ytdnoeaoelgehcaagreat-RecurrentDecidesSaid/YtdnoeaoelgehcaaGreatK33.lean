/-
  Texts of this claim, put together: RWorst, RBurn2.
-/
import Derived.Test.YtdnoeaoelgehcaaGreatK32
import Derived.Test.YtdnoeaoelgehcaaGreatK31
import Derived.Test.YtdnoeaoelgehcaaGreatK28
/-! ref24.Worst: the greatest forbidden set; ref24.Is: is a configuration recurrent? -/
namespace Go.Proofs.YtdnoeaoelgehcaaGreat
open Go.RowKit

/-- The vertices of the first k sets that are forbidden. -/
def uniL (n : Nat) (es : List E3) (cs : List Int) (q : Nat) : Nat → List Nat
  | 0 => []
  | k + 1 => uniL n es cs q k ++ if banB es cs q (bitsL n k) then bitsL n k else []
theorem mem_uni {n : Nat} {es : List E3} {cs : List Int} {q v : Nat} : ∀ k, decide (v ∈ uniL n es cs q k) = inBan n es cs q k v
  | 0 => by simp [uniL, inBan]
  | k + 1 => by
    rw [inBan_succ, ← mem_uni k, uniL]
    cases banB es cs q (bitsL n k) <;> simp
theorem worst_uni {n q : Nat} {es : List E3} {cs : List Int} (hG : RightG n es) (hq : q < n) : (List.range n).filter (fun v => decide (v ∈ uniL n es cs q (2 ^ n))) = worstL n es cs q := by
  rw [← worst_sets hG hq]
  exact List.filter_congr fun v _ => mem_uni _

set_option maxRecDepth 100000 in
set_option maxHeartbeats 4000000 in
theorem rworst_any (n : Nat) (hn6 : n ≤ 6) (A : Option Addr) (c : Nat) (es : List E3) (hn : es.length ≤ 1048576) (hG : RightG n es) (q : Nat) (hq : q < n) (B : Option Addr) (d : Nat) (cs : List Int) (hcl : cs.length = n) (w : World)
    (h : Reads w w.heap.size 3 A es.length (edgeCells es)) (h' : Reads w w.heap.size 1 B cs.length (ints cs)) :
    Calls Tryz.prog 61 #[.agg #[.int .i64 n, .slice A es.length c], .int .i64 q, .slice B cs.length d] w fun e w' => ∃ A' c', e = .returned (.slice A' (natsI (worstL n es cs q)).length c') ∧ OwnI w' w.heap.size A' c' (natsI (worstL n es cs q)) ∧ Below w.heap.size w w' := by
  have g0 := Blk.new w 24 #[.int .i64 n, .slice A es.length c]
  have hb0 : Below w.heap.size w (w.alloc (.cells #[.int .i64 n, .slice A es.length c] 24)) := (Below.refl _ _).alloc (Nat.le_refl _) _
  have c0 := g0.cell 0
  have SC := Lib.hid (fun w => subsets_any n hn6 A c es.length w)
  have BC := Lib.hid (fun (k : Nat) (D : Option Addr) (f m : Nat) (hm : (bitsL n k).length = m) w h h' h'' => rban_any n (by omega) A c es hn hG q B d cs hcl D f (bitsL n k) m hm (bits_ok n k) w h h' h'')
  have hmm := Nat.le_trans (Nat.pow_le_pow_right (n := 2) (by omega) hn6) (show 2 ^ 6 ≤ 64 by decide)
  have HW : Hid ((List.range n).filter (fun v => decide (v ∈ uniL n es cs q (2 ^ n))) = worstL n es cs q) := worst_uni hG hq
  have HU : Hid (∀ k, uniL n es cs q (k + 1) = uniL n es cs q k ++ if banB es cs q (bitsL n k) then bitsL n k else []) := fun _ => rfl
  have hU0 : Hid (uniL n es cs q 0 = []) := rfl
  obtain ⟨U, hU⟩ : ∃ U, uniL n es cs q = U := ⟨_, rfl⟩
  obtain ⟨R, hR⟩ : ∃ R, worstL n es cs q = R := ⟨_, rfl⟩
  obtain ⟨K, hK⟩ : ∃ K : Nat → Bool, (fun k => banB es cs q (bitsL n k)) = K := ⟨_, rfl⟩
  have HK : Hid (∀ k, banB es cs q (bitsL n k) = K k) := fun k => congrFun hK k
  rw [hU] at HW HU hU0
  rw [hR] at HW ⊢
  simp only [HK.out] at HU BC
  obtain ⟨M, hM⟩ : ∃ M, 2 ^ n = M := ⟨_, rfl⟩
  rw [hM] at hmm HW
  simp only [hM] at SC
  have hmb := make_bools n (by omega)
  have M1 := Blk.new (w.alloc (.cells #[.int .i64 n, .slice A es.length c] 24)) 4 (bools (List.replicate n false))
  have hs1 : (w.alloc (.cells #[.int .i64 n, .slice A es.length c] 24)).heap.size = w.heap.size + 1 := by simp
  rw [hs1] at M1
  have g1 := g0.alloc (.cells (bools (List.replicate n false)) 4)
  have hB1 := hb0.alloc (by simp) (.cells (bools (List.replicate n false)) 4)
  have hmk : bools (List.replicate n false) = bools (marks n (U 0)) := by
    rw [hU0.out]
    congr 1
    apply List.ext_getElem?
    intro i
    by_cases hi : i < n
    · rw [marks_get hi, List.getElem?_replicate, if_pos hi]; simp
    · rw [List.getElem?_eq_none (by simp; omega), List.getElem?_eq_none (by simp [marks]; omega)]
  have HMK := Lib.hid hmk
  have HCL := Lib.hid hcl
  have h1c := g1.cell 0
  have h1d := g1.cell 1
  clear hG hcl hmk hU hR hK hM
  go_enter Tryz.func61, Tryz.ntmps61
  go_wp2_with fail
  obtain ⟨W1, hW1⟩ : ∃ W1, (w.alloc (.cells #[.int .i64 n, .slice A es.length c] 24)).alloc (.cells (bools (List.replicate n false)) 4) = W1 := ⟨_, rfl⟩
  rw [hW1] at M1 g1 hB1 h1c h1d ⊢
  rw [HMK.out] at M1
  clear hW1 g0 hb0 c0 hs1 hmb
  refine (SC.out _).mono ?_
  rintro e w4 ⟨A4, c4, vs, rfl, o4, hb4⟩
  have g4 := g1.next hb4
  have m4 := M1.next hb4
  have hB4 := hB1.trans (hb4.mono hB1.size)
  have o4 := o4.mono hB1.size
  clear g1 M1 hB1 hb4 h1c h1d
  go_wp2
  go_loopw [9, 10] (fun i _ wr => ∃ k : Nat, k ≤ M ∧ i = .int .i64 k ∧ OwnRows wr w.heap.size A4 c4 vs (subsL n M) ∧ Blk wr (w.heap.size + 1) 4 (bools (marks n (U k))) ∧ Blk wr w.heap.size 24 #[.int .i64 n, .slice A es.length c] ∧ Below w.heap.size w wr) (fun i _ _ => M - (intOf i).toNat)
  case atStart => exact ⟨0, by omega, rfl, o4, m4, g4, hB4⟩
  case round =>
    obtain ⟨k, hk, rfl, o5, m5, g5, hbel⟩ := hrel
    clear o4 m4 g4 hB4
    have hsz := hbel.size
    obtain ⟨wo, hwo⟩ : ∃ wo : World, wo = wr := ⟨wr, rfl⟩
    subst hwo
    by_cases hlt : k < M
    · have hx : (subsL n M)[k]? = some (natsI (bitsL n k)) := by unfold subsL; rw [List.getElem?_map, List.getElem?_range hlt]; rfl
      obtain ⟨b, off, A', c', rfl, hb, hcell, hrd⟩ := o5.reads.at_ hx
      obtain ⟨s, hs⟩ : ∃ s, bitsL n k = s := ⟨_, rfl⟩
      have hsn : ∀ u ∈ s, u < n := by rw [← hs]; exact bits_lt
      have hse : s.length ≤ n := by rw [← hs]; exact bitsL_length n k
      have BK := BC.out k A' c' (natsI s).length (by rw [hs, natsI_length])
      have hun := HU.out k
      rw [hs] at hx hcell hrd hun BK
      have HSN := Lib.hid hsn
      have HSE := Lib.hid hse
      have HX := Lib.hid hx
      have RG := Lib.hid ((h.below hbel).more hsz)
      have RD := Lib.hid ((h'.below hbel).more hsz)
      have RS := Lib.hid hrd
      have hi : (k : Int) < (M : Int) := by omega
      have c0 := g5.cell 0
      have c1 := g5.cell 1
      have hgl := g5.lt
      have hSl : (subsL n M).length = M := subsL_length n M
      have hsli : (k : Int) < ((subsL n M).length : Int) := by omega
      have hk3 : k < 64 := by omega
      cases hz : K k
      · rw [hz] at BK hun
        simp only [if_neg (show ¬ (false = true) by decide), List.append_nil] at hun
        have BK := Lib.hid BK
        have HUN := Lib.hid hun
        clear hx hrd hz hun hs hsn hse
        go_wp2
        go_region_held3 (fun W => W.cell? ⟨w.heap.size, 0, none⟩ = some (.int .i64 n) ∧ W.cell? ⟨w.heap.size, 1, none⟩ = some (.slice A es.length c) ∧ W.cell? ⟨b, off + k, none⟩ = some (.slice A' (natsI s).length c')) (go_keep)
          (first | (go_at_call 103; refine (BK.out _ (by exact RG.out) (by exact RD.out) (by exact RS.out)).mono ?_; rintro e w5 ⟨rfl, hb5⟩
                    have k0 := (hb5.cell (p := ⟨w.heap.size, 0, none⟩) (by exact hgl)).trans c0
                    have k1 := (hb5.cell (p := ⟨w.heap.size, 1, none⟩) (by exact hgl)).trans c1
                    have k2 := (hb5.cell (p := ⟨b, off + k, none⟩) (by show b < wo.heap.size; omega)).trans hcell))
        all_goals (
          have hb5' : Below wo.heap.size wo w5 := (Below.refl _ _).drew.trans hb5
          go_wp2
          go_roundw
          case rel => exact ⟨k + 1, by omega, by go_num, o5.next hb5', by rw [HUN.out]; exact m5.next hb5', g5.next hb5', hbel.trans (hb5'.mono hsz)⟩
          case measure => simp [intOf]; omega)
      · rw [hz] at BK hun
        rw [if_pos rfl] at hun
        have BK := Lib.hid BK
        have HUN := Lib.hid hun
        clear hx hrd hz hun hs hsn hse
        go_wp2
        go_region_held3 (fun W => W.cell? ⟨w.heap.size, 0, none⟩ = some (.int .i64 n) ∧ W.cell? ⟨w.heap.size, 1, none⟩ = some (.slice A es.length c) ∧ W.cell? ⟨b, off + k, none⟩ = some (.slice A' (natsI s).length c')) (go_keep)
          (first | (go_at_call 103; refine (BK.out _ (by exact RG.out) (by exact RD.out) (by exact RS.out)).mono ?_; rintro e w5 ⟨rfl, hb5⟩
                    have k0 := (hb5.cell (p := ⟨w.heap.size, 0, none⟩) (by exact hgl)).trans c0
                    have k1 := (hb5.cell (p := ⟨w.heap.size, 1, none⟩) (by exact hgl)).trans c1
                    have k2 := (hb5.cell (p := ⟨b, off + k, none⟩) (by show b < wo.heap.size; omega)).trans hcell))
        all_goals (
          have hb5' : Below wo.heap.size wo w5 := (Below.refl _ _).drew.trans hb5
          have o6 := o5.next hb5'
          have m6 : Blk w5 (w.heap.size + 1) 4 (bools (marks n (U k ++ s.take 0))) := by rw [List.take_zero, List.append_nil]; exact m5.next hb5'
          have g6 := g5.next hb5'
          have B6 := hbel.trans (hb5'.mono hsz)
          clear o5 m5 g5 hbel hb5 hb5' hcell RS c0 c1 hgl hsz hb
          go_wp2
          go_loopw [10] (fun j wl => ∃ y : Nat, y ≤ (natsI s).length ∧ j = .int .i64 y ∧ OwnRows wl w.heap.size (some ⟨b, off, none⟩) c4 vs (subsL n M) ∧ Blk wl (w.heap.size + 1) 4 (bools (marks n (U k ++ s.take y))) ∧ Blk wl w.heap.size 24 #[.int .i64 n, .slice A es.length c] ∧ Below w.heap.size w wl) (fun j _ => (natsI s).length - (intOf j).toNat)
          case atStart => exact ⟨0, by omega, rfl, o6, m6, g6, B6⟩
          case round =>
            obtain ⟨y, hy, rfl, o7, m7, g7, B7⟩ := hrel
            clear o6 m6 g6 B6
            have hs7 := B7.size
            have hnl := natsI_length s
            obtain ⟨b7, off7, A7, c7, e7, hb7, hcell7, hrd7⟩ := o7.reads.at_ HX.out
            cases e7
            by_cases hyl : y < s.length
            · obtain ⟨x, hxx⟩ := get_of_lt hyl
              have hxn := HSN.out x (List.mem_of_getElem? hxx)
              obtain ⟨b9, off9, rfl, hb9, hc9⟩ := hrd7.at_ (ints_at (natsI_at hxx))
              have htk := take_snoc hxx
              have mf := m7.frozen x
              have mc := m7.cell x
              rw [bools_get (marks_get hxn _)] at mc
              have hyi : (y : Int) < ((natsI s).length : Int) := by omega
              have hy6 : y < 6 := by have := HSE.out; omega
              have hxi : (x : Int) < (n : Int) := by omega
              have m8 := m7.set_ x (.bool true)
              rw [bools_set, marks_set hxn, List.append_assoc, ← htk] at m8
              have o8 := o7.set_blk m7 (by decide) (by decide) x (.bool true)
              have g8 := g7.far (p := ⟨w.heap.size + 1, x, none⟩) (by simp) (.bool true)
              have B8 := B7.setCell (p := ⟨w.heap.size + 1, x, none⟩) (by simp) (.bool true)
              have M8 := Lib.hid m8
              have O8 := Lib.hid o8
              clear hxx htk hnl m8 o8 m7 hrd7
              go_wp2
              go_roundw
              case rel => exact ⟨y + 1, by omega, by go_num, O8.out, M8.out, g8, B8⟩
              case measure => simp [intOf]; omega
            · have hye : y = s.length := by omega
              have hyi : ¬ (y : Int) < ((natsI s).length : Int) := by omega
              rw [hye, List.take_length, ← HUN.out] at m7
              have M7 := Lib.hid m7
              clear hnl hye m7 hrd7
              go_wp2
              go_roundw
              case rel => exact ⟨k + 1, by omega, by go_num, o7, M7.out, g7, B7⟩
              case measure => simp [intOf]; omega)
    · obtain rfl : k = M := by omega
      have hfs : ∀ j, ((List.range (j + 1)).filter (fun v => decide (v ∈ U k))) = ((List.range j).filter (fun v => decide (v ∈ U k))) ++ if j ∈ U k then [j] else [] := fun j => by
        rw [List.range_succ, List.filter_append]
        by_cases hc : j ∈ U k <;> simp [hc]
      obtain ⟨u, hu⟩ : ∃ u, U k = u := ⟨_, rfl⟩
      rw [hu] at HW hfs m5
      have HFS := Lib.hid hfs
      obtain ⟨F, hF⟩ : ∃ F, (fun j => (List.range j).filter (fun v => decide (v ∈ u))) = F := ⟨_, rfl⟩
      have HF : Hid (∀ j, (List.range j).filter (fun v => decide (v ∈ u)) = F j) := fun j => congrFun hF j
      have HF0 : Hid (F 0 = []) := by rw [Hid, ← HF.out]; rfl
      rw [HF.out] at HW
      simp only [HF.out] at HFS
      clear h h' hfs hu hF HF o5
      go_wp2
      go_loopw [11, 12] (fun s i wl => ∃ (j : Nat) (A' : Option Addr) (c' : Nat), j ≤ n ∧ i = .int .i64 j ∧ s = .slice A' (natsI (F j)).length c' ∧ (natsI (F j)).length ≤ j ∧ OwnI wl w.heap.size A' c' (natsI (F j)) ∧ Blk wl (w.heap.size + 1) 4 (bools (marks n u)) ∧ Blk wl w.heap.size 24 #[.int .i64 n, .slice A es.length c] ∧ Below w.heap.size w wl) (fun _ i _ => n - (intOf i).toNat)
      case atStart => exact ⟨0, none, 0, by omega, rfl, by rw [HF0.out]; rfl, by rw [HF0.out]; simp [natsI], by rw [HF0.out]; exact OwnI.nil_ _ _, m5, g5, hbel⟩
      case round =>
        obtain ⟨j, A', c', hj, rfl, rfl, hjl, o7, m7, g7, B7⟩ := hrel
        clear m5 g5 hbel
        have hs7 := B7.size
        have c0 := g7.cell 0
        by_cases hlt : j < n
        · have mc := m7.cell j
          rw [bools_get (marks_get hlt _)] at mc
          have hji : (j : Int) < (n : Int) := by omega
          have hfj := HFS.out j
          by_cases hm : j ∈ u
          · rw [if_pos hm] at hfj
            rw [decide_eq_true hm] at mc
            have HFJ := Lib.hid hfj
            clear hm hfj
            go_wp2_with (at_builtin; refine push_int rfl (.tmp 60) (.tmp 62) _ rfl Tryz.underlying25 w.heap.size A' c' (natsI (F j)) (j : Int) rfl o7 rfl rfl (by omega) (by omega) ?_; intro A2 c2 w2 hown2 hg2 hb2)
            go_roundw
            case rel =>
              have g8 := Blk.grown (g7.alloc _) hg2 (own_blk_ne o7 g7 (by decide))
              have m8 := Blk.grown (m7.alloc _) hg2 (own_blk_ne o7 m7 (by decide))
              exact ⟨j + 1, A2, c2, by omega, by go_num, by rw [HFJ.out, natsI_snoc]; simp, by rw [HFJ.out, natsI_snoc]; simp; omega, by rw [HFJ.out, natsI_snoc]; exact hown2, m8, g8, B7.trans hb2⟩
            case measure => simp [intOf]; omega
          · rw [if_neg hm, List.append_nil] at hfj
            rw [decide_eq_false hm] at mc
            have HFJ := Lib.hid hfj
            clear hm hfj
            go_wp2
            go_roundw
            case rel => exact ⟨j + 1, A', c', by omega, by go_num, by rw [HFJ.out], by rw [HFJ.out]; omega, by rw [HFJ.out]; exact o7, m7, g7, B7⟩
            case measure => simp [intOf]; omega
        · obtain rfl : j = n := by omega
          go_wp2
          go_ret
          rw [← HW.out]
          exact ⟨A', c', rfl, o7, B7⟩

theorem recB_worst {n q : Nat} {es : List E3} {cs : List Int} (hq : q < n) : recB n es cs q = (stabTo es cs q n && decide ((natsI (worstL n es cs q)).length = 0)) := by
  unfold recB
  congr 1
  rw [decide_eq_decide, full_iff hq, natsI_length, List.length_eq_zero_iff]
set_option maxRecDepth 100000 in
set_option maxHeartbeats 4000000 in
theorem ris24_any (n : Nat) (hn6 : n ≤ 6) (A : Option Addr) (c : Nat) (es : List E3) (hn : es.length ≤ 10000) (hG : RightG n es) (q : Nat) (hq : q < n) (B : Option Addr) (d : Nat) (cs : List Int) (hcl : cs.length = n) (w : World)
    (h : Reads w w.heap.size 3 A es.length (edgeCells es)) (h' : Reads w w.heap.size 1 B n (ints cs)) :
    Calls Tryz.prog 57 #[.agg #[.int .i64 n, .slice A es.length c], .int .i64 q, .slice B n d] w fun e w' => e = .returned (.bool (recB n es cs q)) ∧ Below w.heap.size w w' := by
  have g0 := Blk.new w 24 #[.int .i64 n, .slice A es.length c]
  have hb0 : Below w.heap.size w (w.alloc (.cells #[.int .i64 n, .slice A es.length c] 24)) := (Below.refl _ _).alloc (Nat.le_refl _) _
  have c0 := g0.cell 0
  have c1 := g0.cell 1
  have KC := Lib.hid (fun w h h' => calm19_any n A c es hn hG q B d cs hcl w h h')
  have WC := Lib.hid (fun w h h' => rworst_any n hn6 A c es (by omega) hG q hq B d cs hcl w h h')
  rw [hcl] at WC
  rw [recB_worst hq]
  obtain ⟨x, hx⟩ : ∃ x, stabTo es cs q n = x := ⟨_, rfl⟩
  obtain ⟨ys, hy⟩ : ∃ y, natsI (worstL n es cs q) = y := ⟨_, rfl⟩
  rw [hx] at KC ⊢
  rw [hy] at WC ⊢
  have H1 := Lib.hid h
  have H2 := Lib.hid h'
  clear hx hy hG hcl h h'
  cases x
  · rw [Bool.false_and]
    go_enter Tryz.func57, Tryz.ntmps57
    go_wp2_with fail
    refine (KC.out _ ((H1.out.below hb0).more hb0.size) ((H2.out.below hb0).more hb0.size)).mono ?_
    rintro e w1 ⟨rfl, hb1⟩
    go_wp2
    go_ret
    exact ⟨rfl, hb0.trans (hb1.mono hb0.size)⟩
  · rw [Bool.true_and]
    go_enter Tryz.func57, Tryz.ntmps57
    go_wp2_with fail
    refine (KC.out _ ((H1.out.below hb0).more hb0.size) ((H2.out.below hb0).more hb0.size)).mono ?_
    rintro e w1 ⟨rfl, hb1⟩
    have g1 := g0.next hb1
    have c0 := g1.cell 0
    have c1 := g1.cell 1
    have hB1 := hb0.trans (hb1.mono hb0.size)
    go_wp2_with fail
    refine (WC.out _ ((H1.out.below hB1).more hB1.size) ((H2.out.below hB1).more hB1.size)).mono ?_
    rintro e w2 ⟨A2, c2, rfl, o2, hb2⟩
    have hB2 := hB1.trans (hb2.mono hB1.size)
    by_cases h0 : ys.length = 0
    · have hz : ((ys.length : Int) == 0) = true := by simp [h0]
      have hd := Lib.hid (decide_eq_true h0)
      clear h0 o2
      go_wp2
      go_ret
      exact ⟨by rw [hd.out]; rfl, hB2⟩
    · have hz : ((ys.length : Int) == 0) = false := by simp; intro hc; exact h0 (by rw [hc]; rfl)
      have hd := Lib.hid (decide_eq_false h0)
      clear h0 o2
      go_wp2
      go_ret
      exact ⟨by rw [hd.out]; rfl, hB2⟩
end Go.Proofs.YtdnoeaoelgehcaaGreat

/-! The reference's fire: ref23.Burnt, ref23.Unburnt. -/
namespace Go.Proofs.YtdnoeaoelgehcaaGreat
open Go.RowKit

def stepL (es : List E3) (c : List Int) (n : Nat) (l : List Nat) : List Nat := match (readyL es c n l).head? with
  | none => l
  | some v => l ++ [v]
theorem burnL_back {es : List E3} {c : List Int} {n : Nat} : ∀ (k : Nat) (l : List Nat), burnL es c n (k + 1) l = stepL es c n (burnL es c n k l)
  | 0, l => by
    rcases h : (readyL es c n l).head? with _ | v
    · rw [burnL_stop h, burnL_stop h]
      unfold stepL
      rw [h]
    · rw [burnL_step h]
      show l ++ [v] = stepL es c n l
      unfold stepL
      rw [h]
  | k + 1, l => by
    rcases h : (readyL es c n l).head? with _ | v
    · rw [burnL_stop h, burnL_stop h]
      unfold stepL
      rw [h]
    · rw [burnL_step h, burnL_step h, burnL_back k]
theorem stepL_none {es : List E3} {c : List Int} {n : Nat} {l : List Nat} (h : (readyL es c n l).length = 0) : stepL es c n l = l := by
  have : readyL es c n l = [] := List.eq_nil_of_length_eq_zero h
  unfold stepL; rw [this]; rfl
theorem stepL_some {es : List E3} {c : List Int} {n : Nat} {l : List Nat} {v : Nat} (h : (readyL es c n l)[0]? = some v) : stepL es c n l = l ++ [v] := by
  unfold stepL; rw [List.head?_eq_getElem?, h]

end Go.Proofs.YtdnoeaoelgehcaaGreat

/-! The reference's fire: ref23.Unburnt. -/
namespace Go.Proofs.YtdnoeaoelgehcaaGreat
open Go.RowKit

theorem restTo_succ (n : Nat) (l : List Nat) : restL (n + 1) l = if n ∈ l then restL n l else restL n l ++ [n] := by
  unfold restL
  rw [List.range_succ, List.filter_append]
  by_cases h : n ∈ l <;> simp [h]

end Go.Proofs.YtdnoeaoelgehcaaGreat

