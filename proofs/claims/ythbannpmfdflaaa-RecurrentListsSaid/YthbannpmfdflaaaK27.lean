/-
  Texts of this claim, put together: RBel, RChips.
-/
import Derived.Test.YthbannpmfdflaaaK26
import Derived.Test.YthbannpmfdflaaaK13
import Derived.Test.YthbannpmfdflaaaK06
/-! ref24.Below: all lists below a list. -/
namespace Go.Proofs.Ythbannpmfdflaaa
open Go.RowKit

theorem bel_bound {top : List Int} {v M : Nat} {X : List (List Int)} {T : Nat} (hX : belL top v = X) (hT : (top.getD v 0 + 1).toNat = T) (hM : (belL top (v + 1)).length ≤ M) {i k : Nat} {x : List Int} (hi : i < X.length) (hk : k ≤ T) : (belI X T i ++ extK x k).length ≤ M := by
  subst hX hT
  have h1 := belI_all top v
  have h2 := belI_len (belL top v) (top.getD v 0 + 1).toNat (belL top v).length (Nat.le_refl _)
  have h3 := belI_len (belL top v) (top.getD v 0 + 1).toNat i (by omega)
  rw [List.length_append, h3, extK_len]
  rw [h1] at h2
  have h4 : (i + 1) * (top.getD v 0 + 1).toNat ≤ (belL top v).length * (top.getD v 0 + 1).toNat := Nat.mul_le_mul_right _ (by omega)
  rw [Nat.succ_mul] at h4
  omega

set_option maxRecDepth 100000 in
set_option maxHeartbeats 8000000 in
theorem rbel_any (B : Option Addr) (d : Nat) (top : List Int) (hn : top.length ≤ 12) (htb : ∀ x ∈ top, -1 ≤ x ∧ x ≤ 1000000) (hM : ∀ v, v ≤ top.length → (belL top v).length ≤ 1000000) (hbl : ∀ v, ∀ p ∈ belL top v, p.length = v) (w : World) (h : Reads w w.heap.size 1 B top.length (ints top)) :
    Calls Try.prog 147 #[.slice B top.length d] w fun e w' => ∃ A' c', e = .returned (.slice A' (belL top top.length).length c') ∧ RowsR w' w'.heap.size A' (belL top top.length) ∧ Below w.heap.size w w' := by
  have HTB := Lib.hid htb
  have HM := Lib.hid hM
  have HBL := Lib.hid hbl
  have B1 := (Below.refl w.heap.size w).alloc (Nat.le_refl _) (.cells #[] 3)
  have B2 := B1.alloc (by simp) (.cells #[.slice (some ⟨w.heap.size, 0, none⟩) 0 0] 26)
  have hs1 : (w.alloc (.cells #[] 3)).heap.size = w.heap.size + 1 := by simp
  have X0 : RowsR ((w.alloc (.cells #[] 3)).alloc (.cells #[.slice (some ⟨w.heap.size, 0, none⟩) 0 0] 26)) ((w.alloc (.cells #[] 3)).alloc (.cells #[.slice (some ⟨w.heap.size, 0, none⟩) 0 0] 26)).heap.size (some ⟨w.heap.size + 1, 0, none⟩) (belL top 0) := by
    refine ⟨[.slice (some ⟨w.heap.size, 0, none⟩) 0 0], ?_, fun i xs hi => ?_⟩
    · have := Reads.box (w.alloc (.cells #[] 3)) (.slice (some ⟨w.heap.size, 0, none⟩) 0 0) 26
      rw [hs1] at this
      exact this.more (by simp)
    · rcases i with _ | i
      · have : xs = [] := by simpa [belL] using hi.symm
        subst this
        exact ⟨_, _, rfl, by simp [ints], fun hc => absurd hc (by simp)⟩
      · simp [belL] at hi
  clear htb hM hbl
  go_enter Try.func147, Try.ntmps147
  go_wp2_with fail
  obtain ⟨W2, hW2⟩ : ∃ W2, (w.alloc (.cells #[] 3)).alloc (.cells #[.slice (some ⟨w.heap.size, 0, none⟩) 0 0] 26) = W2 := ⟨_, rfl⟩
  rw [hW2] at X0 B2 ⊢
  clear B1 hs1 hW2
  go_loopw [3, 4, 5, 6, 7] (fun s i _ _ _ wl => ∃ (v : Nat) (A3 : Option Addr) (c3 : Nat), v ≤ top.length ∧ i = .int .i64 v ∧ s = .slice A3 (belL top v).length c3 ∧ Hid (RowsR wl wl.heap.size A3 (belL top v)) ∧ Below w.heap.size w wl) (fun _ i _ _ _ _ => top.length - (intOf i).toNat)
  case atStart => exact ⟨0, _, _, by omega, rfl, rfl, X0, B2⟩
  case round =>
    obtain ⟨v, A3, c3, hv, rfl, rfl, RX, hB⟩ := hrel
    clear X0 B2
    obtain ⟨wo, hwo⟩ : ∃ wo : World, wo = wr := ⟨wr, rfl⟩
    subst hwo
    have hsz := hB.size
    by_cases hlt : v < top.length
    · have hi : (v : Int) < (top.length : Int) := by omega
      obtain ⟨t, ht⟩ := get_of_lt hlt
      have ht0 := HTB.out t (List.mem_of_getElem? ht)
      have hTt : (top.getD v 0 + 1).toNat = (t + 1).toNat := by rw [getD_at ht]
      obtain ⟨T, hT⟩ : ∃ T, (t + 1).toNat = T := ⟨_, rfl⟩
      have hTe : (T : Int) = t + 1 := by omega
      rw [hT] at hTt
      have HIA := belI_all top v
      rw [hTt] at HIA
      have HXB : Hid (∀ (i k : Nat) (x : List Int), i < (belL top v).length → k ≤ T → (belI (belL top v) T i ++ extK x k).length ≤ 1000000) := fun i k x => bel_bound rfl hTt (HM.out (v + 1) (by omega))
      have HXL := HBL.out v
      have hXl := HM.out v (by omega)
      obtain ⟨Y, hY⟩ : ∃ Y, belL top (v + 1) = Y := ⟨_, rfl⟩
      obtain ⟨X, hX⟩ : ∃ X, belL top v = X := ⟨_, rfl⟩
      rw [hX] at HXB HXL RX HIA hXl ⊢
      rw [hY] at HIA
      have HIA := Lib.hid HIA
      have HXL := Lib.hid HXL
      have HY := Lib.hid hY
      have HT := Lib.hid ht
      clear ht hTt hT hY hX
      go_wp2_with fail
      go_loopw [5, 6, 7] (fun s i _ wl => ∃ (j : Nat) (A5 : Option Addr) (c5 : Nat) (vs : List Value), j ≤ X.length ∧ i = .int .i64 j ∧ s = .slice A5 (belI X T j).length c5 ∧ Hid (OwnDivs wl wo.heap.size A5 c5 vs (belI X T j)) ∧ Below wo.heap.size wo wl) (fun _ i _ _ => X.length - (intOf i).toNat)
      case atStart => exact ⟨0, none, 0, [], by omega, rfl, by rw [belI_zero]; rfl, by rw [belI_zero]; exact OwnDivs.nil_ _ _, Below.refl _ _⟩
      case round =>
        obtain ⟨j, A5, c5, vs, hj, rfl, rfl, OD, hBm⟩ := hrel
        obtain ⟨wm, hwm⟩ : ∃ wm : World, wm = wr := ⟨wr, rfl⟩
        subst hwm
        by_cases hjl : j < X.length
        · have hji : (j : Int) < (X.length : Int) := by omega
          obtain ⟨x, hx⟩ := get_of_lt hjl
          have hxl6 : x.length ≤ 12 := by have := HXL.out x (List.mem_of_getElem? hx); omega
          have HBS := Lib.hid (belI_succ (T := T) hx)
          have HXB1 := Lib.hid (fun k => HXB.out j k x hjl)
          have HX := Lib.hid hx
          have OD0 : Hid (OwnDivs wm wo.heap.size A5 c5 vs (belI X T j ++ extK x 0)) := by rw [show extK x 0 = [] from rfl, List.append_nil]; exact OD
          have hl0 : (belI X T j).length = (belI X T j ++ extK x 0).length := by rw [show extK x 0 = [] from rfl, List.append_nil]
          have hES : Hid (∀ k, (belI X T j ++ extK x k) ++ [x ++ [(k : Int)]] = belI X T j ++ extK x (k + 1)) := fun k => by rw [extK_succ, List.append_assoc]
          obtain ⟨F, hF⟩ : ∃ F : Nat → List (List Int), (fun k => belI X T j ++ extK x k) = F := ⟨_, rfl⟩
          have hF' : ∀ k, belI X T j ++ extK x k = F k := fun k => congrFun hF k
          have HFT : Hid (belI X T (j + 1) = F T) := by rw [Hid, HBS.out, hF']
          rw [hl0]
          simp only [hF'] at OD0 hES HXB1 ⊢
          clear hx hl0 hF hF' OD HBS
          go_wp2_with fail
          go_loopw [5, 7] (fun s i wl => ∃ (k : Nat) (A5 : Option Addr) (c5 : Nat) (vs : List Value), k ≤ T ∧ i = .int .i64 k ∧ s = .slice A5 (F k).length c5 ∧ Hid (OwnDivs wl wo.heap.size A5 c5 vs (F k)) ∧ Below wo.heap.size wo wl) (fun _ i _ => T - (intOf i).toNat)
          case atStart => exact ⟨0, A5, c5, vs, by omega, rfl, rfl, OD0, hBm⟩
          case round =>
            obtain ⟨k, A5, c5, vs, hk, rfl, rfl, OD, hBi⟩ := hrel
            clear OD0 hBm
            have hsi := hBi.size
            have hBw := hB.trans (hBi.mono hsz)
            obtain ⟨bB, oB, hA, hbB, hcell⟩ := (h.below hBw).at_ (ints_at HT.out)
            subst hA
            by_cases hkl : k < T
            · have hki : (k : Int) ≤ t := by omega
              obtain ⟨b, off, A', c', rfl, hb, hcellx, hrd⟩ := (RX.out.below hBi).at_ HX.out
              have hFl := HXB1.out k (by omega)
              have hFS := hES.out k
              have hk6 : k ≤ 1000001 := by omega
              have OX : (wr.alloc (.cells #[] 3)).ownsRow wr.heap.size 3 1 (.slice (some ⟨wr.heap.size, 0, none⟩) 0 0) 0 [] := World.ownsRow_made wr #[] 0 (Nat.le_refl _) (by simp [maxLen]) (by simp)
              have hcell2 : (wr.alloc (.cells #[] 3)).cell? ⟨b, off + j, none⟩ = _ := (World.cell?_alloc_lt wr _ ⟨b, off + j, none⟩ (by show b < wr.heap.size; omega)).trans hcellx
              have RD := (hrd.more hsi).alloc (Nat.le_refl _) (.cells #[] 3)
              go_wp2_with (first
                | (at_builtin
                   refine append_go rfl (.tmp 31) (.tmp 35) _ rfl wr.heap.size 3 Try.underlying26 info_int rfl (by omega) (some ⟨wr.heap.size, 0, none⟩) 0 0 [] rfl OX wr.heap.size (ints x) rfl RD (by simp [ints, Value.oneCell']) (by omega) (by simp) ?_
                   intro A4 c4 w4 hown4 _ hb4 _
                   rw [Nat.zero_add, List.nil_append] at hown4
                   rw [Nat.zero_add]
                   have o4 : OwnI w4 wr.heap.size A4 c4 x := hown4
                   have hs4 := hb4.size)
                | (at_builtin
                   refine push_int rfl (.tmp 36) (.tmp 38) _ rfl Try.underlying26 wr.heap.size A4 c4 x (k : Int) rfl o4 rfl rfl (by omega) (by simp at hs4; omega) ?_
                   intro A7 c7 w7 o7 hg7 hb7
                   have hb8 : Below wr.heap.size wr w7 := (((Below.refl wr.heap.size wr).alloc (Nat.le_refl _) (.cells #[] 3)).trans hb4).trans hb7
                   have OD8 := Lib.hid (OD.out.next hb8)
                   have hs8 := hb8.size)
                | (at_builtin
                   refine append_go rfl (.tmp 30) (.tmp 40) _ rfl wo.heap.size 26 Try.underlying74 info_divs rfl (by omega) A5 c5 (F k).length vs rfl (World.ownsRow.alloc OD8.out.1 _) _ [.slice A7 (x.length + 1) c7] rfl (Reads.box _ _ _) (by simp [Value.oneCell']) (by omega) (by simp; omega) ?_
                   intro A9 c9 w9 hown9 hg9 hb9 hw9))
              have B9 : Below wo.heap.size wo w9 := ((hBi.trans (hb8.mono hsi)).alloc (by omega) _).trans hb9
              go_roundw
              case rel =>
                have k1 := OwnDivs.push (OD8.out.kept fun kk hkk => Below.heap_alloc _ _ _ (OD8.out.lt hkk).2) (OwnI.alloc (o7.mono hsi) _) (by rw [List.length_append]; exact hown9) hg9
                rw [hFS] at k1
                exact ⟨k + 1, A9, c9, _, by omega, by go_num, by rw [← hFS]; simp, k1, B9⟩
              case measure => simp [intOf]; omega
            · have hkT : k = T := by omega
              subst hkT
              have hki : ¬ (k : Int) ≤ t := by omega
              go_wp2
              go_roundw
              case rel => exact ⟨j + 1, A5, c5, vs, by omega, by go_num, by rw [HFT.out], by rw [HFT.out]; exact OD, hBi⟩
              case measure => simp [intOf]; omega
        · have hje : j = X.length := by omega
          subst hje
          have hji : ¬ (X.length : Int) < (X.length : Int) := by omega
          rw [HIA.out] at OD ⊢
          go_wp2
          go_roundw
          case rel => exact ⟨v + 1, A5, c5, by omega, by go_num, by rw [HY.out], by rw [HY.out]; exact OD.out.reads, hB.trans (hBm.mono hsz)⟩
          case measure => simp [intOf]; omega
    · obtain rfl : v = top.length := by omega
      go_wp2
      go_ret
      exact ⟨A3, c3, rfl, RX.out, hB⟩
end Go.Proofs.Ythbannpmfdflaaa

/-! ref08.Between; the error of a divisor: ref17.Check. -/
namespace Go.Proofs.Ythbannpmfdflaaa
open Go.RowKit

set_option maxRecDepth 100000 in
set_option maxHeartbeats 2000000 in
/-- ref08.Between -/
theorem between_any (n : Int) (A : Option Addr) (c : Nat) (es : List E3) (hn : es.length ≤ 1048576) (a b : Int) (w : World) (h : Reads w w.heap.size 3 A es.length (edgeCells es)) :
    Calls Try.prog 156 #[.agg #[.int .i64 n, .slice A es.length c], .int .i64 a, .int .i64 b] w fun e w' => e = .returned (.int .i64 (btw es a b)) ∧ Below w.heap.size w w' := by
  obtain ⟨r, hr⟩ : ∃ r, btw es a b = r := ⟨_, rfl⟩
  rw [hr]
  have HR := Lib.hid hr
  clear hr
  rcases Int.lt_trichotomy a b with hab | rfl | hab
  · have hba : ¬ b < a := by omega
    go_enter Try.func156, Try.ntmps156
    go_wp2
    go_loopw [7] (fun i wr => ∃ k : Nat, k ≤ es.length ∧ i = .int .i64 k ∧ Below w.heap.size w wr ∧ Blk wr w.heap.size 24 #[.int .i64 n, .slice A es.length c] ∧ Hid (btw es a b = btw (es.drop k) a b)) (fun i _ => es.length - (intOf i).toNat)
    case atStart => exact ⟨0, by omega, rfl, (Below.refl _ _).alloc (Nat.le_refl _) _, Blk.new _ _ _, by simp [Hid]⟩
    case round =>
      obtain ⟨k, hk, rfl, hbel, g1, HS⟩ := hrel
      have c1 := g1.cell 1
      have hsz := hbel.size
      have hlt0 := g1.lt
      by_cases hlt : k < es.length
      · obtain ⟨⟨x, y, m⟩, hx⟩ := get_of_lt hlt
        have hi : (k : Int) < (es.length : Int) := by omega
        have hd := btw_drop hx a b
        rw [show min a b = a from by omega, show max a b = b from by omega] at hd
        dsimp only at hd
        obtain ⟨bb, off, rfl, hb, q1, q2, q3⟩ := (h.below hbel).edge hx
        have G1 := g1.alloc (.cells #[.int .i64 x, .int .i64 y, .int .i64 m] 130)
        dsimp only at q1 q2 q3
        have HB := Lib.hid (hbel.alloc (Nat.le_trans (by simp) hsz) (.cells #[.int .i64 x, .int .i64 y, .int .i64 m] 130))
        clear hx h hbel
        by_cases h1 : x = a
        · by_cases h2 : y = b
          · rw [if_pos ⟨h1, h2⟩] at hd
            have HD := Lib.hid hd
            have e1 : (x == a) = true := by simpa using h1
            have e2 : (y == b) = true := by simpa using h2
            clear hd h1 h2
            go_wp2
            go_ret
            exact ⟨ret_int (by rw [← HR.out, HS.out, HD.out]), HB.out⟩
          · rw [if_neg (fun hc => h2 hc.2)] at hd
            have HD := Lib.hid hd
            have e1 : (x == a) = true := by simpa using h1
            have e2 : (y == b) = false := by simpa using h2
            clear hd h1 h2
            go_wp2
            go_roundw
            case rel => exact ⟨k + 1, by omega, by go_num, HB.out, G1, by rw [Hid, HS.out, HD.out]⟩
            case measure => simp [intOf]; omega
        · rw [if_neg (fun hc => h1 hc.1)] at hd
          have HD := Lib.hid hd
          have e1 : (x == a) = false := by simpa using h1
          clear hd h1
          go_wp2
          go_roundw
          case rel => exact ⟨k + 1, by omega, by go_num, HB.out, G1, by rw [Hid, HS.out, HD.out]⟩
          case measure => simp [intOf]; omega
      · go_wp2
        go_ret
        refine ⟨ret_int ?_, hbel⟩
        have e : btw es a b = 0 := by rw [HS.out, List.drop_eq_nil_of_le (by omega)]; rfl
        rw [← HR.out, e]
  · go_enter Try.func156, Try.ntmps156
    go_wp2
    go_loopw [7] (fun i wr => ∃ k : Nat, k ≤ es.length ∧ i = .int .i64 k ∧ Below w.heap.size w wr ∧ Blk wr w.heap.size 24 #[.int .i64 n, .slice A es.length c] ∧ Hid (btw es a a = btw (es.drop k) a a)) (fun i _ => es.length - (intOf i).toNat)
    case atStart => exact ⟨0, by omega, rfl, (Below.refl _ _).alloc (Nat.le_refl _) _, Blk.new _ _ _, by simp [Hid]⟩
    case round =>
      obtain ⟨k, hk, rfl, hbel, g1, HS⟩ := hrel
      have c1 := g1.cell 1
      have hsz := hbel.size
      have hlt0 := g1.lt
      by_cases hlt : k < es.length
      · obtain ⟨⟨x, y, m⟩, hx⟩ := get_of_lt hlt
        have hi : (k : Int) < (es.length : Int) := by omega
        have hd := btw_drop hx a a
        rw [show min a a = a from by omega, show max a a = a from by omega] at hd
        dsimp only at hd
        obtain ⟨bb, off, rfl, hb, q1, q2, q3⟩ := (h.below hbel).edge hx
        have G1 := g1.alloc (.cells #[.int .i64 x, .int .i64 y, .int .i64 m] 130)
        dsimp only at q1 q2 q3
        have HB := Lib.hid (hbel.alloc (Nat.le_trans (by simp) hsz) (.cells #[.int .i64 x, .int .i64 y, .int .i64 m] 130))
        clear hx h hbel
        by_cases h1 : x = a
        · by_cases h2 : y = a
          · rw [if_pos ⟨h1, h2⟩] at hd
            have HD := Lib.hid hd
            have e1 : (x == a) = true := by simpa using h1
            have e2 : (y == a) = true := by simpa using h2
            clear hd h1 h2
            go_wp2
            go_ret
            exact ⟨ret_int (by rw [← HR.out, HS.out, HD.out]), HB.out⟩
          · rw [if_neg (fun hc => h2 hc.2)] at hd
            have HD := Lib.hid hd
            have e1 : (x == a) = true := by simpa using h1
            have e2 : (y == a) = false := by simpa using h2
            clear hd h1 h2
            go_wp2
            go_roundw
            case rel => exact ⟨k + 1, by omega, by go_num, HB.out, G1, by rw [Hid, HS.out, HD.out]⟩
            case measure => simp [intOf]; omega
        · rw [if_neg (fun hc => h1 hc.1)] at hd
          have HD := Lib.hid hd
          have e1 : (x == a) = false := by simpa using h1
          clear hd h1
          go_wp2
          go_roundw
          case rel => exact ⟨k + 1, by omega, by go_num, HB.out, G1, by rw [Hid, HS.out, HD.out]⟩
          case measure => simp [intOf]; omega
      · go_wp2
        go_ret
        refine ⟨ret_int ?_, hbel⟩
        have e : btw es a a = 0 := by rw [HS.out, List.drop_eq_nil_of_le (by omega)]; rfl
        rw [← HR.out, e]
  · have hba : ¬ a < b := by omega
    go_enter Try.func156, Try.ntmps156
    go_wp2
    go_loopw [7] (fun i wr => ∃ k : Nat, k ≤ es.length ∧ i = .int .i64 k ∧ Below w.heap.size w wr ∧ Blk wr w.heap.size 24 #[.int .i64 n, .slice A es.length c] ∧ Hid (btw es a b = btw (es.drop k) a b)) (fun i _ => es.length - (intOf i).toNat)
    case atStart => exact ⟨0, by omega, rfl, (Below.refl _ _).alloc (Nat.le_refl _) _, Blk.new _ _ _, by simp [Hid]⟩
    case round =>
      obtain ⟨k, hk, rfl, hbel, g1, HS⟩ := hrel
      have c1 := g1.cell 1
      have hsz := hbel.size
      have hlt0 := g1.lt
      by_cases hlt : k < es.length
      · obtain ⟨⟨x, y, m⟩, hx⟩ := get_of_lt hlt
        have hi : (k : Int) < (es.length : Int) := by omega
        have hd := btw_drop hx a b
        rw [show min a b = b from by omega, show max a b = a from by omega] at hd
        dsimp only at hd
        obtain ⟨bb, off, rfl, hb, q1, q2, q3⟩ := (h.below hbel).edge hx
        have G1 := g1.alloc (.cells #[.int .i64 x, .int .i64 y, .int .i64 m] 130)
        dsimp only at q1 q2 q3
        have HB := Lib.hid (hbel.alloc (Nat.le_trans (by simp) hsz) (.cells #[.int .i64 x, .int .i64 y, .int .i64 m] 130))
        clear hx h hbel
        by_cases h1 : x = b
        · by_cases h2 : y = a
          · rw [if_pos ⟨h1, h2⟩] at hd
            have HD := Lib.hid hd
            have e1 : (x == b) = true := by simpa using h1
            have e2 : (y == a) = true := by simpa using h2
            clear hd h1 h2
            go_wp2
            go_ret
            exact ⟨ret_int (by rw [← HR.out, HS.out, HD.out]), HB.out⟩
          · rw [if_neg (fun hc => h2 hc.2)] at hd
            have HD := Lib.hid hd
            have e1 : (x == b) = true := by simpa using h1
            have e2 : (y == a) = false := by simpa using h2
            clear hd h1 h2
            go_wp2
            go_roundw
            case rel => exact ⟨k + 1, by omega, by go_num, HB.out, G1, by rw [Hid, HS.out, HD.out]⟩
            case measure => simp [intOf]; omega
        · rw [if_neg (fun hc => h1 hc.1)] at hd
          have HD := Lib.hid hd
          have e1 : (x == b) = false := by simpa using h1
          clear hd h1
          go_wp2
          go_roundw
          case rel => exact ⟨k + 1, by omega, by go_num, HB.out, G1, by rw [Hid, HS.out, HD.out]⟩
          case measure => simp [intOf]; omega
      · go_wp2
        go_ret
        refine ⟨ret_int ?_, hbel⟩
        have e : btw es a b = 0 := by rw [HS.out, List.drop_eq_nil_of_le (by omega)]; rfl
        rw [← HR.out, e]

set_option maxHeartbeats 400000 in
theorem rin_any (k : Int) (w : World) :
    Calls Try.prog 185 #[.int .i64 k] w fun e w' => e = .returned (.bool (chipB k)) ∧ w = w' := by
  go_enter Try.func185, Try.ntmps185
  go_wp2
  all_goals (go_ret; exact ⟨by simp only [chipB]; simp [*]; try omega, rfl⟩)
set_option maxHeartbeats 1000000 in
/-- ref17.Check -/
theorem rdcheck_any (A : Option Addr) (c : Nat) (cs : List Int) (hm : cs.length ≤ 1048576) (n : Int) (w : World) (h : Reads w w.heap.size 1 A cs.length (ints cs)) :
    Calls Try.prog 155 #[.slice A cs.length c, .int .i64 n] w fun e w' => e = .returned (.int .i64 (divErr cs n)) ∧ w = w' := by
  by_cases h1 : n < 1
  · have hd : divErr cs n = 2 := by unfold divErr; rw [if_pos (.inl h1)]
    rw [hd]
    go_enter Try.func155, Try.ntmps155
    go_wp2
    go_ret
    exact ⟨rfl, rfl⟩
  by_cases h2 : 12 < n
  · have hd : divErr cs n = 2 := by unfold divErr; rw [if_pos (.inr h2)]
    rw [hd]
    go_enter Try.func155, Try.ntmps155
    go_wp2
    go_ret
    exact ⟨rfl, rfl⟩
  by_cases hl : (cs.length : Int) = n
  · have hn : ¬ (n < 1 ∨ 12 < n) := by omega
    subst hl
    have hb : ((cs.length : Int) != (cs.length : Int)) = false := by simp
    have HE := Lib.hid (fun k x hx hb => divErr_at (cs := cs) (k := k) (x := x) hn rfl hx hb)
    have HF := Lib.hid (divErr_end (cs := cs) hn rfl)
    obtain ⟨r, hr⟩ : ∃ r, divErr cs cs.length = r := ⟨_, rfl⟩
    rw [hr] at HE HF ⊢
    clear hn hr
    go_enter Try.func155, Try.ntmps155
    go_wp2
    go_loop [5] (fun i => ∃ k : Nat, k ≤ cs.length ∧ i = .int .i64 k ∧ Hid ((cs.take k).all chipB = true)) (fun i => cs.length - (intOf i).toNat)
    case atStart => exact ⟨0, by omega, rfl, by simp [Hid]⟩
    case round =>
      obtain ⟨k, hk, rfl, HS⟩ := hrel
      by_cases hlt : k < cs.length
      · obtain ⟨x, hx⟩ := get_of_lt hlt
        obtain ⟨b, off, rfl, hb', hcell⟩ := h.at_ (ints_at hx)
        have hi : (k : Int) < (cs.length : Int) := by omega
        have HX := Lib.hid hx
        clear hx h
        cases hin : chipB x
        · obtain rfl := HE.out k x HX.out hin
          go_wp2_with (go_at_call 185; refine (rin_any _ _).mono ?_; rintro e w' ⟨rfl, rfl⟩)
          go_ret
          exact ⟨rfl, rfl⟩
        · have HN := Lib.hid (all_snoc HX.out HS.out hin)
          go_wp2_with (go_at_call 185; refine (rin_any _ _).mono ?_; rintro e w' ⟨rfl, rfl⟩)
          go_round
          case rel => exact ⟨k + 1, by omega, by go_num, HN.out⟩
          case measure => simp [intOf]; omega
      · obtain rfl : k = cs.length := by omega
        obtain rfl := HF.out HS.out
        go_wp2
        go_ret
        exact ⟨rfl, rfl⟩
  · have hd : divErr cs n = 8 := by unfold divErr; rw [if_neg (by omega), if_pos hl]
    have hb : ((cs.length : Int) != n) = true := by simpa using hl
    rw [hd]
    clear hl hd
    go_enter Try.func155, Try.ntmps155
    go_wp2
    go_ret
    exact ⟨rfl, rfl⟩
end Go.Proofs.Ythbannpmfdflaaa

