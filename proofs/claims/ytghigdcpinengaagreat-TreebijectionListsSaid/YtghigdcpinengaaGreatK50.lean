/-
  Texts of this claim, put together: RStab28, RAll28, RTreeF.
-/
import Derived.Test.YtghigdcpinengaaGreatK42
import Derived.Test.YtghigdcpinengaaGreatK35
import Derived.Test.YtghigdcpinengaaGreatK49
import Derived.Test.YtghigdcpinengaaGreatK40
import Derived.Test.YtghigdcpinengaaGreatK47
import Derived.Test.YtghigdcpinengaaGreatK24
/-! ref28.Stables and All: all stable configurations, the superstable ones among them. -/
namespace Go.Proofs.YtghigdcpinengaaGreat
open Go.RowKit

set_option maxRecDepth 100000 in
set_option maxHeartbeats 8000000 in
theorem stables28_any (n : Nat) (A : Option Addr) (c : Nat) (es : List E3) (hlen : es.length ≤ 10000) (hG : RightG n es) (q : Nat) (hq : q < n) (hM : ∀ v, v ≤ n → (belL (maxL n es q) v).length ≤ 1000000) (w : World) (h : Reads w w.heap.size 3 A es.length (edgeCells es)) :
    Calls Tryz.prog 102 #[.agg #[.int .i64 n, .slice A es.length c], .int .i64 q] w fun e w' => ∃ A' c', e = .returned (.slice A' (belL (maxL n es q) n).length c') ∧ RowsR w' w'.heap.size A' (belL (maxL n es q) n) ∧ Below w.heap.size w w' := by
  have g0 := Blk.new w 24 #[.int .i64 n, .slice A es.length c]
  have B0 : Below w.heap.size w (w.alloc (.cells #[.int .i64 n, .slice A es.length c] 24)) := (Below.refl _ _).alloc (Nat.le_refl _) _
  have c0 := g0.cell 0
  have c1 := g0.cell 1
  have TC := Lib.hid (fun (W : World) (hB : Below w.heap.size w W) => rtop_any n A c es hlen hG q W ((h.below hB).more hB.size))
  have hml := maxL_length n es q
  have hn12 : n ≤ 12 := by have := hG.hi; omega
  have HTB : Hid (∀ x ∈ maxL n es q, -1 ≤ x ∧ x ≤ 1000000) := fun x hx => by
    obtain ⟨i, hi⟩ := List.getElem?_of_mem hx
    have hin : i < n := by have := (List.getElem?_eq_some_iff.1 hi).1; omega
    have h1 := maxL_get (q := q) hG.ok hin
    rw [getD_at hi] at h1
    have h2 := valE_bd hG.ok i
    rw [h1]
    split <;> omega
  have HQ0 : Hid ((maxL n es q).getD q 0 = 0) := by rw [Hid, maxL_get hG.ok hq, if_pos rfl]
  have HM := Lib.hid hM
  have HBL : Hid (∀ v, ∀ p ∈ belL (maxL n es q) v, p.length = v) := fun v p hp => (bel_mem v p hp).1
  obtain ⟨top, hT⟩ : ∃ T, maxL n es q = T := ⟨_, rfl⟩
  rw [hT] at TC hml HTB HQ0 HM HBL ⊢
  have HML := Lib.hid hml
  clear hG hml hT h hM
  go_enter Tryz.func102, Tryz.ntmps102
  go_wp2_with fail
  refine (TC.out _ B0).mono ?_
  rintro e w1 ⟨A1, c1', rfl, o1, hb1⟩
  have BB1 := B0.trans (hb1.mono B0.size)
  have g1 := g0.next hb1
  have k0 := g1.cell 0
  have hgl : w.heap.size < w1.heap.size := g1.lt
  have RT : Hid (Reads w1 w1.heap.size 1 A1 n (ints top)) := by
    have := o1.reads
    rw [HML.out] at this
    exact this
  have HB1 := Lib.hid BB1
  clear g0 g1 B0 c0 c1 hb1 BB1 o1
  have B1 := (Below.refl w1.heap.size w1).alloc (Nat.le_refl _) (.cells #[] 3)
  have B2 := B1.alloc (by simp) (.cells #[.slice (some ⟨w1.heap.size, 0, none⟩) 0 0] 26)
  have hs1 : (w1.alloc (.cells #[] 3)).heap.size = w1.heap.size + 1 := by simp
  have X0 : RowsR ((w1.alloc (.cells #[] 3)).alloc (.cells #[.slice (some ⟨w1.heap.size, 0, none⟩) 0 0] 26)) ((w1.alloc (.cells #[] 3)).alloc (.cells #[.slice (some ⟨w1.heap.size, 0, none⟩) 0 0] 26)).heap.size (some ⟨w1.heap.size + 1, 0, none⟩) (belL top 0) := by
    refine ⟨[.slice (some ⟨w1.heap.size, 0, none⟩) 0 0], ?_, fun i xs hi => ?_⟩
    · have := Reads.box (w1.alloc (.cells #[] 3)) (.slice (some ⟨w1.heap.size, 0, none⟩) 0 0) 26
      rw [hs1] at this
      exact this.more (by simp)
    · rcases i with _ | i
      · have : xs = [] := by simpa [belL] using hi.symm
        subst this
        exact ⟨_, _, rfl, by simp [ints], fun hc => absurd hc (by simp)⟩
      · simp [belL] at hi
  go_wp2_with fail
  obtain ⟨W2, hW2⟩ : ∃ W2, (w1.alloc (.cells #[] 3)).alloc (.cells #[.slice (some ⟨w1.heap.size, 0, none⟩) 0 0] 26) = W2 := ⟨_, rfl⟩
  rw [hW2] at X0 B2
  try rw [hW2]
  clear B1 hs1 hW2
  go_loopw [6, 7, 8, 9, 10, 11] (fun s i _ _ _ _ wl => ∃ (v : Nat) (A3 : Option Addr) (c3 : Nat), v ≤ n ∧ i = .int .i64 v ∧ s = .slice A3 (belL top v).length c3 ∧ Hid (RowsR wl wl.heap.size A3 (belL top v)) ∧ Below w1.heap.size w1 wl) (fun _ i _ _ _ _ _ => n - (intOf i).toNat)
  case atStart => exact ⟨0, _, _, by omega, rfl, rfl, X0, B2⟩
  case round =>
    obtain ⟨v, A3, c3, hv, rfl, rfl, RX, hB⟩ := hrel
    clear X0 B2
    obtain ⟨wo, hwo⟩ : ∃ wo : World, wo = wr := ⟨wr, rfl⟩
    subst hwo
    have hsz := hB.size
    by_cases hlt : v < n
    · have hi : (v : Int) < (n : Int) := by omega
      obtain ⟨t, ht⟩ := get_of_lt (xs := top) (k := v) (by rw [HML.out]; exact hlt)
      have ht0 := HTB.out t (List.mem_of_getElem? ht)
      have hTt : (top.getD v 0 + 1).toNat = (t + 1).toNat := by rw [getD_at ht]
      obtain ⟨T, hT⟩ : ∃ T, (t + 1).toNat = T := ⟨_, rfl⟩
      have hTe : (T : Int) = t + 1 := by omega
      rw [hT] at hTt
      have HIA := belI_all top v
      rw [hTt] at HIA
      have HXB : Hid (∀ (i k : Nat) (x : List Int), i < (belL top v).length → k ≤ T → (belI (belL top v) T i ++ extK x k).length ≤ 1000000) := fun i k x => bel_bound rfl hTt (HM.out (v + 1) (by omega))
      have HXL := HBL.out v
      have hXl := HM.out v (by omega)
      obtain ⟨Y, hY⟩ : ∃ Y, belL top (v + 1) = Y := ⟨_, rfl⟩
      obtain ⟨X, hX⟩ : ∃ X, belL top v = X := ⟨_, rfl⟩
      rw [hX] at HXB HXL RX HIA hXl ⊢
      rw [hY] at HIA
      have HIA := Lib.hid HIA
      have HXL := Lib.hid HXL
      have HY := Lib.hid hY
      have HT := Lib.hid ht
      have kN : wo.cell? ⟨w.heap.size, 0, none⟩ = some (.int .i64 n) := (hB.cell (p := ⟨w.heap.size, 0, none⟩) hgl).trans k0
      obtain ⟨bT, oT, hA1, hbT, hcT⟩ := (RT.out.below hB).at_ (ints_at ht)
      subst hA1
      have HTq : Hid (v = q → t = 0) := fun hv => by have := HQ0.out; rw [← hv, getD_at ht] at this; exact this
      clear ht hTt hT hY hX
      obtain ⟨ct, hct⟩ : ∃ ct, ((v : Int) == (q : Int)) = ct := ⟨_, rfl⟩
      have HCT := Lib.hid hct
      clear hct
      -- most is t in either way
      cases ct
      · have hvq : ((v : Int) == (q : Int)) = false := HCT.out
        go_wp2_with fail
        go_loopw [9, 10, 11] (fun s i _ wl => ∃ (j : Nat) (A5 : Option Addr) (c5 : Nat) (vs : List Value), j ≤ X.length ∧ i = .int .i64 j ∧ s = .slice A5 (belI X T j).length c5 ∧ Hid (OwnDivs wl wo.heap.size A5 c5 vs (belI X T j)) ∧ Below wo.heap.size wo wl) (fun _ i _ _ => X.length - (intOf i).toNat)
        case atStart => exact ⟨0, none, 0, [], by omega, rfl, by rw [belI_zero]; rfl, by rw [belI_zero]; exact OwnDivs.nil_ _ _, Below.refl _ _⟩
        case round =>
          obtain ⟨j, A5, c5, vs, hj, rfl, rfl, OD, hBm⟩ := hrel
          obtain ⟨wm, hwm⟩ : ∃ wm : World, wm = wr := ⟨wr, rfl⟩
          subst hwm
          by_cases hjl : j < X.length
          · have hji : (j : Int) < (X.length : Int) := by omega
            obtain ⟨x, hx⟩ := get_of_lt hjl
            have hxl6 : x.length ≤ 12 := by have := HXL.out x (List.mem_of_getElem? hx); omega
            have HBS := Lib.hid (belI_succ (T := T) hx)
            have HXB1 := Lib.hid (fun k => HXB.out j k x hjl)
            have HX := Lib.hid hx
            have OD0 : Hid (OwnDivs wm wo.heap.size A5 c5 vs (belI X T j ++ extK x 0)) := by rw [show extK x 0 = [] from rfl, List.append_nil]; exact OD
            have hl0 : (belI X T j).length = (belI X T j ++ extK x 0).length := by rw [show extK x 0 = [] from rfl, List.append_nil]
            have hES : Hid (∀ k, (belI X T j ++ extK x k) ++ [x ++ [(k : Int)]] = belI X T j ++ extK x (k + 1)) := fun k => by rw [extK_succ, List.append_assoc]
            obtain ⟨F, hF⟩ : ∃ F : Nat → List (List Int), (fun k => belI X T j ++ extK x k) = F := ⟨_, rfl⟩
            have hF' : ∀ k, belI X T j ++ extK x k = F k := fun k => congrFun hF k
            have HFT : Hid (belI X T (j + 1) = F T) := by rw [Hid, HBS.out, hF']
            rw [hl0]
            simp only [hF'] at OD0 hES HXB1 ⊢
            clear hx hl0 hF hF' OD HBS
            go_wp2_with fail
            go_loopw [9, 11] (fun s i wl => ∃ (k : Nat) (A5 : Option Addr) (c5 : Nat) (vs : List Value), k ≤ T ∧ i = .int .i64 k ∧ s = .slice A5 (F k).length c5 ∧ Hid (OwnDivs wl wo.heap.size A5 c5 vs (F k)) ∧ Below wo.heap.size wo wl) (fun _ i _ => T - (intOf i).toNat)
            case atStart => exact ⟨0, A5, c5, vs, by omega, rfl, rfl, OD0, hBm⟩
            case round =>
              obtain ⟨k, A5, c5, vs, hk, rfl, rfl, OD, hBi⟩ := hrel
              clear OD0 hBm
              have hsi := hBi.size
              have hBw := hB.trans (hBi.mono hsz)
              by_cases hkl : k < T
              · have hki : (k : Int) ≤ t := by omega
                obtain ⟨b, off, A', c', rfl, hb, hcellx, hrd⟩ := (RX.out.below hBi).at_ HX.out
                have hFl := HXB1.out k (by omega)
                have hFS := hES.out k
                have hk6 : k ≤ 1000001 := by omega
                have OX : (wr.alloc (.cells #[] 3)).ownsRow wr.heap.size 3 1 (.slice (some ⟨wr.heap.size, 0, none⟩) 0 0) 0 [] := World.ownsRow_made wr #[] 0 (Nat.le_refl _) (by simp [maxLen]) (by simp)
                have hcell2 : (wr.alloc (.cells #[] 3)).cell? ⟨b, off + j, none⟩ = _ := (World.cell?_alloc_lt wr _ ⟨b, off + j, none⟩ (by show b < wr.heap.size; omega)).trans hcellx
                have RD := (hrd.more hsi).alloc (Nat.le_refl _) (.cells #[] 3)
                go_wp2_with (first
                  | (at_builtin
                     refine append_go rfl (.tmp 42) (.tmp 46) _ rfl wr.heap.size 3 Tryz.underlying26 info_int rfl (by omega) (some ⟨wr.heap.size, 0, none⟩) 0 0 [] rfl OX wr.heap.size (ints x) rfl RD (by simp [ints, Value.oneCell']) (by omega) (by simp) ?_
                     intro A4 c4 w4 hown4 _ hb4 _
                     rw [Nat.zero_add, List.nil_append] at hown4
                     rw [Nat.zero_add]
                     have o4 : OwnI w4 wr.heap.size A4 c4 x := hown4
                     have hs4 := hb4.size)
                  | (at_builtin
                     refine push_int rfl (.tmp 47) (.tmp 49) _ rfl Tryz.underlying26 wr.heap.size A4 c4 x (k : Int) rfl o4 rfl rfl (by omega) (by simp at hs4; omega) ?_
                     intro A7 c7 w7 o7 hg7 hb7
                     have hb8 : Below wr.heap.size wr w7 := (((Below.refl wr.heap.size wr).alloc (Nat.le_refl _) (.cells #[] 3)).trans hb4).trans hb7
                     have OD8 := Lib.hid (OD.out.next hb8)
                     have hs8 := hb8.size)
                  | (at_builtin
                     refine append_go rfl (.tmp 41) (.tmp 51) _ rfl wo.heap.size 26 Tryz.underlying74 info_divs rfl (by omega) A5 c5 (F k).length vs rfl (World.ownsRow.alloc OD8.out.1 _) _ [.slice A7 (x.length + 1) c7] rfl (Reads.box _ _ _) (by simp [Value.oneCell']) (by omega) (by simp; omega) ?_
                     intro A9 c9 w9 hown9 hg9 hb9 hw9))
                have B9 : Below wo.heap.size wo w9 := ((hBi.trans (hb8.mono hsi)).alloc (by omega) _).trans hb9
                go_roundw
                case rel =>
                  have k1 := OwnDivs.push (OD8.out.kept fun kk hkk => Below.heap_alloc _ _ _ (OD8.out.lt hkk).2) (OwnI.alloc (o7.mono hsi) _) (by rw [List.length_append]; exact hown9) hg9
                  rw [hFS] at k1
                  exact ⟨k + 1, A9, c9, _, by omega, by go_num, by rw [← hFS]; simp, k1, B9⟩
                case measure => simp [intOf]; omega
              · have hkT : k = T := by omega
                subst hkT
                have hki : ¬ (k : Int) ≤ t := by omega
                go_wp2
                go_roundw
                case rel => exact ⟨j + 1, A5, c5, vs, by omega, by go_num, by rw [HFT.out], by rw [HFT.out]; exact OD, hBi⟩
                case measure => simp [intOf]; omega
          · have hje : j = X.length := by omega
            subst hje
            have hji : ¬ (X.length : Int) < (X.length : Int) := by omega
            rw [HIA.out] at OD ⊢
            go_wp2
            go_roundw
            case rel => exact ⟨v + 1, A5, c5, by omega, by go_num, by rw [HY.out], by rw [HY.out]; exact OD.out.reads, hB.trans (hBm.mono hsz)⟩
            case measure => simp [intOf]; omega
      · have hvq : ((v : Int) == (q : Int)) = true := HCT.out
        have hv2 : v = q := by have := beq_iff_eq.1 hvq; omega
        obtain rfl : t = 0 := HTq.out hv2
        clear hv2
        go_wp2_with fail
        go_loopw [9, 10, 11] (fun s i _ wl => ∃ (j : Nat) (A5 : Option Addr) (c5 : Nat) (vs : List Value), j ≤ X.length ∧ i = .int .i64 j ∧ s = .slice A5 (belI X T j).length c5 ∧ Hid (OwnDivs wl wo.heap.size A5 c5 vs (belI X T j)) ∧ Below wo.heap.size wo wl) (fun _ i _ _ => X.length - (intOf i).toNat)
        case atStart => exact ⟨0, none, 0, [], by omega, rfl, by rw [belI_zero]; rfl, by rw [belI_zero]; exact OwnDivs.nil_ _ _, Below.refl _ _⟩
        case round =>
          obtain ⟨j, A5, c5, vs, hj, rfl, rfl, OD, hBm⟩ := hrel
          obtain ⟨wm, hwm⟩ : ∃ wm : World, wm = wr := ⟨wr, rfl⟩
          subst hwm
          by_cases hjl : j < X.length
          · have hji : (j : Int) < (X.length : Int) := by omega
            obtain ⟨x, hx⟩ := get_of_lt hjl
            have hxl6 : x.length ≤ 12 := by have := HXL.out x (List.mem_of_getElem? hx); omega
            have HBS := Lib.hid (belI_succ (T := T) hx)
            have HXB1 := Lib.hid (fun k => HXB.out j k x hjl)
            have HX := Lib.hid hx
            have OD0 : Hid (OwnDivs wm wo.heap.size A5 c5 vs (belI X T j ++ extK x 0)) := by rw [show extK x 0 = [] from rfl, List.append_nil]; exact OD
            have hl0 : (belI X T j).length = (belI X T j ++ extK x 0).length := by rw [show extK x 0 = [] from rfl, List.append_nil]
            have hES : Hid (∀ k, (belI X T j ++ extK x k) ++ [x ++ [(k : Int)]] = belI X T j ++ extK x (k + 1)) := fun k => by rw [extK_succ, List.append_assoc]
            obtain ⟨F, hF⟩ : ∃ F : Nat → List (List Int), (fun k => belI X T j ++ extK x k) = F := ⟨_, rfl⟩
            have hF' : ∀ k, belI X T j ++ extK x k = F k := fun k => congrFun hF k
            have HFT : Hid (belI X T (j + 1) = F T) := by rw [Hid, HBS.out, hF']
            rw [hl0]
            simp only [hF'] at OD0 hES HXB1 ⊢
            clear hx hl0 hF hF' OD HBS
            go_wp2_with fail
            go_loopw [9, 11] (fun s i wl => ∃ (k : Nat) (A5 : Option Addr) (c5 : Nat) (vs : List Value), k ≤ T ∧ i = .int .i64 k ∧ s = .slice A5 (F k).length c5 ∧ Hid (OwnDivs wl wo.heap.size A5 c5 vs (F k)) ∧ Below wo.heap.size wo wl) (fun _ i _ => T - (intOf i).toNat)
            case atStart => exact ⟨0, A5, c5, vs, by omega, rfl, rfl, OD0, hBm⟩
            case round =>
              obtain ⟨k, A5, c5, vs, hk, rfl, rfl, OD, hBi⟩ := hrel
              clear OD0 hBm
              have hsi := hBi.size
              have hBw := hB.trans (hBi.mono hsz)
              by_cases hkl : k < T
              · have hki : (k = 0) = True := eq_true (by omega)
                obtain ⟨b, off, A', c', rfl, hb, hcellx, hrd⟩ := (RX.out.below hBi).at_ HX.out
                have hFl := HXB1.out k (by omega)
                have hFS := hES.out k
                have hk6 : k ≤ 1000001 := by omega
                have OX : (wr.alloc (.cells #[] 3)).ownsRow wr.heap.size 3 1 (.slice (some ⟨wr.heap.size, 0, none⟩) 0 0) 0 [] := World.ownsRow_made wr #[] 0 (Nat.le_refl _) (by simp [maxLen]) (by simp)
                have hcell2 : (wr.alloc (.cells #[] 3)).cell? ⟨b, off + j, none⟩ = _ := (World.cell?_alloc_lt wr _ ⟨b, off + j, none⟩ (by show b < wr.heap.size; omega)).trans hcellx
                have RD := (hrd.more hsi).alloc (Nat.le_refl _) (.cells #[] 3)
                go_wp2_with (first
                  | (at_builtin
                     refine append_go rfl (.tmp 42) (.tmp 46) _ rfl wr.heap.size 3 Tryz.underlying26 info_int rfl (by omega) (some ⟨wr.heap.size, 0, none⟩) 0 0 [] rfl OX wr.heap.size (ints x) rfl RD (by simp [ints, Value.oneCell']) (by omega) (by simp) ?_
                     intro A4 c4 w4 hown4 _ hb4 _
                     rw [Nat.zero_add, List.nil_append] at hown4
                     rw [Nat.zero_add]
                     have o4 : OwnI w4 wr.heap.size A4 c4 x := hown4
                     have hs4 := hb4.size)
                  | (at_builtin
                     refine push_int rfl (.tmp 47) (.tmp 49) _ rfl Tryz.underlying26 wr.heap.size A4 c4 x (k : Int) rfl o4 rfl rfl (by omega) (by simp at hs4; omega) ?_
                     intro A7 c7 w7 o7 hg7 hb7
                     have hb8 : Below wr.heap.size wr w7 := (((Below.refl wr.heap.size wr).alloc (Nat.le_refl _) (.cells #[] 3)).trans hb4).trans hb7
                     have OD8 := Lib.hid (OD.out.next hb8)
                     have hs8 := hb8.size)
                  | (at_builtin
                     refine append_go rfl (.tmp 41) (.tmp 51) _ rfl wo.heap.size 26 Tryz.underlying74 info_divs rfl (by omega) A5 c5 (F k).length vs rfl (World.ownsRow.alloc OD8.out.1 _) _ [.slice A7 (x.length + 1) c7] rfl (Reads.box _ _ _) (by simp [Value.oneCell']) (by omega) (by simp; omega) ?_
                     intro A9 c9 w9 hown9 hg9 hb9 hw9))
                have B9 : Below wo.heap.size wo w9 := ((hBi.trans (hb8.mono hsi)).alloc (by omega) _).trans hb9
                go_roundw
                case rel =>
                  have k1 := OwnDivs.push (OD8.out.kept fun kk hkk => Below.heap_alloc _ _ _ (OD8.out.lt hkk).2) (OwnI.alloc (o7.mono hsi) _) (by rw [List.length_append]; exact hown9) hg9
                  rw [hFS] at k1
                  exact ⟨k + 1, A9, c9, _, by omega, by go_num, by rw [← hFS]; simp, k1, B9⟩
                case measure => simp [intOf]; omega
              · have hkT : k = T := by omega
                subst hkT
                have hki : (k = 0) = False := eq_false (by omega)
                go_wp2
                go_roundw
                case rel => exact ⟨j + 1, A5, c5, vs, by omega, by go_num, by rw [HFT.out], by rw [HFT.out]; exact OD, hBi⟩
                case measure => simp [intOf]; omega
          · have hje : j = X.length := by omega
            subst hje
            have hji : ¬ (X.length : Int) < (X.length : Int) := by omega
            rw [HIA.out] at OD ⊢
            go_wp2
            go_roundw
            case rel => exact ⟨v + 1, A5, c5, by omega, by go_num, by rw [HY.out], by rw [HY.out]; exact OD.out.reads, hB.trans (hBm.mono hsz)⟩
            case measure => simp [intOf]; omega
    · obtain rfl : v = n := by omega
      have kN : wo.cell? ⟨w.heap.size, 0, none⟩ = some (.int .i64 v) := (hB.cell (p := ⟨w.heap.size, 0, none⟩) hgl).trans k0
      have hBf := HB1.out.trans (hB.mono (by omega))
      go_wp2
      go_ret
      exact ⟨A3, c3, rfl, RX.out, hBf⟩
end Go.Proofs.YtghigdcpinengaaGreat

/-! ref28.All: all superstable configurations, found among all stable ones. -/
namespace Go.Proofs.YtghigdcpinengaaGreat
open Go.RowKit

def noBlk (n : Nat) (es : List E3) (q : Nat) (x : List Int) : Bool := !((subsL n (2 ^ n)).any fun S => bloB es q x S)
/-- Below the maximal stable configuration, what no set blocks is what burns. -/
theorem noBlk_calm {n q : Nat} {es : List E3} (hr : rootErr n es q = 0) (hG : RightG n es) (hC : AllConn n es) (hq : q < n) (hm : (endsL es).length ≤ 500) {x : List Int} (hx : x ∈ belL (maxL n es q) n) : noBlk n es q x = calmB n es q x := by
  obtain ⟨h1, h2⟩ := bel_mem n x hx
  have hb : burnErr n es q x = 0 := by
    refine burn_right hr h1 (fun v hv => (h2 v hv).1) (fun v hv => ?_) ?_
    · have h3 := (h2 v hv).2
      have h4 := valE_bd hG.ok v
      rw [maxL_get hG.ok hv] at h3
      split at h3
      · omega
      · have h5 := hG.hi
        have : (endsL es).length ≤ 500 := hm
        have h6 : valE es v ≤ 500 := valE_small hG hm v hv
        omega
    · have h3 := h2 q hq
      rw [maxL_get hG.ok hq, if_pos rfl] at h3; omega
  unfold noBlk calmB superE
  rw [if_pos hb, ← super_sets hG hC hq]
  simp

set_option maxRecDepth 100000 in
set_option maxHeartbeats 8000000 in
theorem all28_any (n : Nat) (hn6 : n ≤ 6) (A : Option Addr) (c : Nat) (es : List E3) (hlen : es.length ≤ 10000) (hG : RightG n es) (q : Nat) (hq : q < n) (hr : rootErr n es q = 0) (hj : joinErr n es = 0) (hC : AllConn n es) (hmE : (endsL es).length ≤ 500) (hM : ∀ v, v ≤ n → (belL (maxL n es q) v).length ≤ 1000000) (w : World)
    (h : Reads w w.heap.size 3 A es.length (edgeCells es)) :
    Calls Tryz.prog 75 #[.agg #[.int .i64 n, .slice A es.length c], .int .i64 q] w fun e w' => ∃ A' c', e = .returned (.slice A' (supL n es q).length c') ∧ RowsR w' w'.heap.size A' (supL n es q) ∧ Below w.heap.size w w' := by
  have g0 := Blk.new w 24 #[.int .i64 n, .slice A es.length c]
  have B0 : Below w.heap.size w (w.alloc (.cells #[.int .i64 n, .slice A es.length c] 24)) := (Below.refl _ _).alloc (Nat.le_refl _) _
  have c0 := g0.cell 0
  have c1 := g0.cell 1
  have BC : Hid (∀ (W : World), Below w.heap.size w W → Calls Tryz.prog 102 #[.agg #[.int .i64 n, .slice A es.length c], .int .i64 q] W fun e w' => ∃ A' c', e = .returned (.slice A' (belL (maxL n es q) n).length c') ∧ RowsR w' w'.heap.size A' (belL (maxL n es q) n) ∧ Below W.heap.size W w') := fun W hB => stables28_any n A c es hlen hG q hq hM W ((h.below hB).more hB.size)
  have IC : Hid (∀ (xs : List Int), xs.length = n → ∀ (B : Option Addr) (d : Nat) (W : World), Reads W W.heap.size 3 A es.length (edgeCells es) → Reads W W.heap.size 1 B n (ints xs) → Calls Tryz.prog 36 #[.agg #[.int .i64 n, .slice A es.length c], .int .i64 q, .slice B n d] W fun e w' => e = .returned (.bool (noBlk n es q xs)) ∧ Below W.heap.size W w') := by
    intro xs hx B d W h1 h2
    have := ris_any n hn6 A c es (by omega) hG q B d xs hx W h1 (by rw [hx]; exact h2)
    rw [hx] at this
    exact this
  have hRL : supL n es q = (belL (maxL n es q) n).filter (noBlk n es q) := by
    rw [supL_bel hr hj hG hq hmE]
    exact List.filter_congr fun x hx => (noBlk_calm hr hG hC hq hmE hx).symm
  have hLl := hM n (Nat.le_refl n)
  have hLm : ∀ x ∈ belL (maxL n es q) n, x.length = n := fun x hx => (bel_mem n x hx).1
  obtain ⟨R, hR⟩ : ∃ R, supL n es q = R := ⟨_, rfl⟩
  obtain ⟨L, hL⟩ : ∃ L, belL (maxL n es q) n = L := ⟨_, rfl⟩
  obtain ⟨P, hP⟩ : ∃ P, noBlk n es q = P := ⟨_, rfl⟩
  have hP' : ∀ x, noBlk n es q x = P x := fun x => congrFun hP x
  rw [hL] at hRL hLl hLm BC
  rw [hP] at hRL
  simp only [hP'] at IC
  rw [hR] at hRL ⊢
  have HLM := Lib.hid hLm
  have HRL := Lib.hid hRL
  clear hG hLm hR hL hP hP' hRL hM hr hj hC hmE
  go_enter Tryz.func75, Tryz.ntmps75
  go_wp2_with fail
  refine (BC.out _ B0).mono ?_
  rintro e w2 ⟨A3, c3, rfl, RX, hb2⟩
  have B2 := B0.trans (hb2.mono B0.size)
  have g2 := g0.next hb2
  have RXH := Lib.hid RX
  have HRF : Hid (∀ k x, L[k]? = some x → (L.take (k + 1)).filter P = (L.take k).filter P ++ if P x then [x] else []) := fun k x hx => filt_snoc hx
  have HRE : Hid ((L.take L.length).filter P = R) := by rw [Hid, List.take_length]; exact HRL.out.symm
  have HFL : Hid (∀ k, ((L.take k).filter P).length ≤ k) := fun k => Nat.le_trans (List.length_filter_le _ _) (by simp; omega)
  have HF0 : Hid ((L.take 0).filter P = []) := by simp [Hid]
  obtain ⟨F, hF⟩ : ∃ F : Nat → List (List Int), (fun k => (L.take k).filter P) = F := ⟨_, rfl⟩
  have hF' : ∀ k, (L.take k).filter P = F k := fun k => congrFun hF k
  simp only [hF'] at HRF HRE HFL HF0
  clear g0 B0 hb2 c0 c1 RX BC hF hF'
  go_wp2_with fail
  go_loopw [6, 7] (fun o i wl => ∃ (k : Nat) (A' : Option Addr) (c' : Nat) (vs : List Value), k ≤ L.length ∧ i = .int .i64 k ∧ o = .slice A' (F k).length c' ∧ Hid (Shared w2 wl A' c' vs (F k)) ∧ Below w2.heap.size w2 wl) (fun _ i _ => L.length - (intOf i).toNat)
  case atStart => exact ⟨0, none, 0, [], by omega, rfl, by rw [HF0.out]; rfl, by rw [HF0.out]; exact Shared.nil_ _ _, Below.refl _ _⟩
  case round =>
    obtain ⟨k, A', c', vs, hk, rfl, rfl, SH, hB⟩ := hrel
    obtain ⟨wo, hwo⟩ : ∃ wo : World, wo = wr := ⟨wr, rfl⟩
    subst hwo
    have hsz := hB.size
    have hBw := B2.trans (hB.mono B2.size)
    by_cases hlt : k < L.length
    · have hi : (k : Int) < (L.length : Int) := by omega
      obtain ⟨x, hx⟩ := get_of_lt hlt
      have hxn := HLM.out x (List.mem_of_getElem? hx)
      obtain ⟨b, off, A4, c4, rfl, hb, HC, hrd⟩ := RXH.out.at2 hx
      have HCH := Lib.hid HC
      have cx := HC wo hB
      rw [hxn] at cx
      have HX := Lib.hid hx
      have hfs := HRF.out k x hx
      have hrd' := hrd
      rw [hxn] at hrd'
      have IC1 := Lib.hid (fun W hW => IC.out x hxn A4 c4 W hW)
      have g7 := g2.next hB
      have c0 := g7.cell 0
      have c1 := g7.cell 1
      have hgl := g7.lt
      have RG := Lib.hid ((h.below hBw).more hBw.size)
      have RD := Lib.hid ((hrd'.below hB).more hsz)
      have HRD := Lib.hid hrd
      have HXN := Lib.hid hxn
      have hl6 := HFL.out k
      obtain ⟨z, hz⟩ : ∃ z, P x = z := ⟨_, rfl⟩
      rw [hz] at IC1 hfs
      cases z
      · simp only [if_neg (show ¬ (false = true) by decide), List.append_nil] at hfs
        have HFS := Lib.hid hfs
        clear hfs hx hrd hrd' hxn hz HC
        go_wp2
        go_region_held3 (fun W => W.cell? ⟨w.heap.size, 0, none⟩ = some (.int .i64 n) ∧ W.cell? ⟨w.heap.size, 1, none⟩ = some (.slice A es.length c) ∧ W.cell? ⟨b, off + k, none⟩ = some (.slice A4 n c4)) (go_keep)
          (first | (go_at_call 36; refine (IC1.out _ (by exact RG.out) (by exact RD.out)).mono ?_; rintro e w5 ⟨rfl, hb5⟩
                    have k0 := (hb5.cell (p := ⟨w.heap.size, 0, none⟩) (by exact hgl)).trans c0
                    have k1 := (hb5.cell (p := ⟨w.heap.size, 1, none⟩) (by exact hgl)).trans c1
                    have k2 := (hb5.cell (p := ⟨b, off + k, none⟩) (by show b < wo.heap.size; omega)).trans cx))
        all_goals (
          have hb5' : Below wo.heap.size wo w5 := (Below.refl _ _).drew.trans hb5
          go_wp2
          go_roundw
          case rel => exact ⟨k + 1, A', c', vs, by omega, by go_num, by rw [HFS.out], by rw [HFS.out]; exact SH.out.next hb5', hB.trans (hb5'.mono hsz)⟩
          case measure => simp [intOf]; omega)
      · simp only at hfs
        have HFS := Lib.hid hfs
        clear hfs hx hrd hrd' hxn hz HC
        go_wp2
        go_region_held3 (fun W => W.cell? ⟨w.heap.size, 0, none⟩ = some (.int .i64 n) ∧ W.cell? ⟨w.heap.size, 1, none⟩ = some (.slice A es.length c) ∧ W.cell? ⟨b, off + k, none⟩ = some (.slice A4 n c4)) (go_keep)
          (first | (go_at_call 36; refine (IC1.out _ (by exact RG.out) (by exact RD.out)).mono ?_; rintro e w5 ⟨rfl, hb5⟩
                    have k0 := (hb5.cell (p := ⟨w.heap.size, 0, none⟩) (by exact hgl)).trans c0
                    have k1 := (hb5.cell (p := ⟨w.heap.size, 1, none⟩) (by exact hgl)).trans c1
                    have k2 := (hb5.cell (p := ⟨b, off + k, none⟩) (by show b < wo.heap.size; omega)).trans cx))
        all_goals (
          have hb5' : Below wo.heap.size wo w5 := (Below.refl _ _).drew.trans hb5
          have hB5 := hB.trans (hb5'.mono hsz)
          have SH5 := Lib.hid (SH.out.next hb5')
          have hs5 := hB5.size
          have cx5 := HCH.out w5 hB5
          rw [HXN.out] at cx5
          go_wp2_with (at_builtin; refine append_go rfl (.tmp 24) (.tmp 29) _ rfl w2.heap.size 26 Tryz.underlying74 info_divs rfl (by omega) A' c' (F k).length vs rfl (World.ownsRow.alloc SH5.out.1 _) _ [.slice A4 n c4] rfl (Reads.box _ _ _) (by simp [Value.oneCell']) (by omega) (by simp; omega) ?_; intro A6 c6 w6 hown6 hg6 hb6 hw6)
          have B6 := (hB5.alloc hs5 (.cells #[.slice A4 n c4] 26)).trans hb6
          go_roundw
          case rel =>
            have := SH5.out.push (w' := w6) (A' := A6) (c' := c6) (c1 := c4) HRD.out (by rw [HXN.out]; exact hown6)
            exact ⟨k + 1, A6, c6, _, by omega, by go_num, by rw [HFS.out]; simp, by rw [HFS.out]; exact this, B6⟩
          case measure => simp [intOf]; omega)
    · obtain rfl : k = L.length := by omega
      have hR2 : Hid (F L.length = R) := HRE
      rw [hR2.out] at SH ⊢
      go_wp2
      go_ret
      exact ⟨A', c', rfl, SH.out.reads hB, hBw⟩
end Go.Proofs.YtghigdcpinengaaGreat

/-! ref30.given and Tree. -/
namespace Go.Proofs.YtghigdcpinengaaGreat
open Go.RowKit

/-- What ref30.Tree hands back. -/
def RTreeF (n : Int) (es : List E3) (q : Int) (cs : List Int) (w : World) (e : Ending) (w' : World) : Prop := ∃ A1 c1 A2 c2 A3 c3 A4 k4 c4, e = .returned (.tuple #[.agg #[.slice A1 (stepsE n es q cs).1.length c1, .slice A2 (treeFE n es q cs).2.1.length c2, .slice A3 (treeFE n es q cs).1.length c3, .slice A4 k4 c4], .int .i64 (cfgErr n es q cs)]) ∧
  Reads w' w'.heap.size 1 A1 (stepsE n es q cs).1.length (ints (stepsE n es q cs).1) ∧ Reads w' w'.heap.size 1 A2 (treeFE n es q cs).2.1.length (ints (treeFE n es q cs).2.1) ∧ Reads w' w'.heap.size 1 A3 (treeFE n es q cs).1.length (ints (treeFE n es q cs).1) ∧ Below w.heap.size w w'

end Go.Proofs.YtghigdcpinengaaGreat

