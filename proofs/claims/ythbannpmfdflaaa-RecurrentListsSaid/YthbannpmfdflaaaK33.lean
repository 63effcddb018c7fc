/-
  Texts of this claim, put together: RMin24.
-/
import Derived.Test.YthbannpmfdflaaaK31
import Derived.Test.YthbannpmfdflaaaK32
/-! ref24.All, Least, Minimal. -/
namespace Go.Proofs.Ythbannpmfdflaaa
open Go.RowKit

theorem valE_size {n : Int} {es : List E3} (h : ∀ e ∈ es, okE n e) (v : Int) : valE es v ≤ (sizeE es : Int) := by
  induction es with
  | nil => simp [valE, sizeE]
  | cons e es ih =>
    have h1 := ih fun x hx => h x (by simp [hx])
    have h2 := h e (by simp)
    have h3 : valT v e ≤ e.2.2 := by unfold okE at h2; unfold valT; split <;> omega
    have e1 : valE (e :: es) v = valT v e + valE es v := by simp [valE]
    have e2 : sizeE (e :: es) = e.2.2.toNat + sizeE es := by simp [sizeE]
    have e3 : e.2.2.toNat = e.2.2 := by unfold okE at h2; omega
    rw [e1, e2]
    omega
theorem few_bel {n q : Nat} {es : List E3} (hx : rootErr n es q = 0) (hn : n ≤ 5) (hs : sizeE es ≤ 8) : (∀ v, v ≤ n → (belL (maxL n es q) v).length ≤ 1000000) ∧ (recsL n es q).length ≤ 16384 := by
  obtain ⟨_, hG, _, hq⟩ := root_zero hx
  have hv : ∀ v : Nat, valE es v ≤ (8 : Nat) := fun v => by have := valE_size hG.ok (v : Int); omega
  have hp : ∀ v, v ≤ 5 → 8 ^ v ≤ 8 ^ 5 := fun v h => Nat.pow_le_pow_right (by omega) h
  have hb := bel_few (top := maxL n es q) (q := q) (K := 8) (fun v hvq => by
    by_cases hvn : v < n
    · rw [maxL_get hG.ok hvn, if_neg hvq]
      have := hv v
      omega
    · rw [List.getD_eq_getElem?_getD, List.getElem?_eq_none (by rw [maxL_length]; omega)]
      simp) (by rw [maxL_get hG.ok hq, if_pos rfl])
  refine ⟨fun v hvn => ?_, ?_⟩
  · have h1 := hb v
    have h2 := hp v (by omega)
    have h3 : (belL (maxL n es q) v).length ≤ (belL (maxL n es q) v).length * (if q < v then 8 else 1) := Nat.le_mul_of_pos_right _ (by split <;> omega)
    have : 8 ^ 5 = 32768 := by decide
    omega
  · have h1 := recsL_few (K := 8) hx (by omega) (fun v => by have := valE_size hG.ok v; omega)
    have h2 := hp n hn
    have : 8 ^ 5 = 32768 := by decide
    omega

set_option maxRecDepth 100000 in
set_option maxHeartbeats 4000000 in
theorem rall24_any (n : Int) (A : Option Addr) (c : Nat) (es : List E3) (hlen : es.length ≤ 10000) (q : Int) (hsm : checkG n es = 0 → n ≤ 5 ∧ sizeE es ≤ 8) (w : World) (h : Reads w w.heap.size 3 A es.length (edgeCells es)) :
    Calls Try.prog 50 #[.agg #[.int .i64 n, .slice A es.length c], .int .i64 q] w fun e w' => ∃ Ar cr, e = .returned (.tuple #[.slice Ar (allE n es q).1.length cr, .int .i64 (allE n es q).2]) ∧ RowsR w' w'.heap.size Ar (allE n es q).1 ∧ Below w.heap.size w w' := by
  have RC := Lib.hid (fun (W : World) (hB : Below w.heap.size w W) => rrooted_any n A c es (by omega) q W ((h.below hB).more hB.size))
  have g0 := Blk.new w 24 #[.int .i64 n, .slice A es.length c]
  have B0 : Below w.heap.size w (w.alloc (.cells #[.int .i64 n, .slice A es.length c] 24)) := (Below.refl _ _).alloc (Nat.le_refl _) _
  have c0 := g0.cell 0
  have c1 := g0.cell 1
  by_cases hx : rootErr n es q = 0
  · obtain ⟨m, p, rfl, rfl⟩ := root_nat hx
    obtain ⟨hck, hG, _, hp⟩ := root_zero hx
    obtain ⟨hn5, hs8⟩ := hsm hck
    obtain ⟨hM, hR⟩ := few_bel hx (by omega) hs8
    have hE : allE m es p = (recsL m es p, 0) := by unfold allE; rw [if_pos hx]; simp
    have LC := Lib.hid (fun (W : World) (hB : Below w.heap.size w W) => rlist_any m (by omega) A c es hlen hG p hp hM W ((h.below hB).more hB.size))
    rw [hE]
    rw [hx] at RC
    obtain ⟨R, hRe⟩ : ∃ R, recsL m es p = R := ⟨_, rfl⟩
    rw [hRe] at hR LC ⊢
    have hi : ¬ (16384 : Int) < (R.length : Int) := by omega
    clear hG hM hE hRe hx hck hsm
    go_enter Try.func50, Try.ntmps50
    go_wp2_with fail
    refine (RC.out _ B0).mono ?_
    rintro e w1 ⟨rfl, hb1⟩
    have B1 := B0.trans (hb1.mono B0.size)
    have g1 := g0.next hb1
    have c0 := g1.cell 0
    have c1 := g1.cell 1
    go_wp2_with fail
    refine (LC.out _ B1).mono ?_
    rintro e w2 ⟨A2, c2, rfl, hr, hb2⟩
    go_wp2
    go_ret2
    exact ⟨A2, c2, rfl, hr, B1.trans (hb2.mono B1.size)⟩
  · obtain ⟨z, hz⟩ : ∃ z, rootErr n es q = z := ⟨_, rfl⟩
    have hE : allE n es q = ([], z) := by unfold allE; rw [if_neg hx, hz]
    rw [hE]
    rw [hz] at hx RC
    have hz1 : (z != 0) = true := by simpa using hx
    clear hE hx hz hsm
    go_enter Try.func50, Try.ntmps50
    go_wp2_with fail
    refine (RC.out _ B0).mono ?_
    rintro e w1 ⟨rfl, hb1⟩
    go_wp2
    go_ret2
    exact ⟨none, 0, rfl, RowsR.nil_ _ _, B0.trans (hb1.mono B0.size)⟩

set_option maxRecDepth 100000 in
set_option maxHeartbeats 4000000 in
theorem rleast_any (n : Nat) (hn6 : n ≤ 6) (A : Option Addr) (c : Nat) (es : List E3) (hlen : es.length ≤ 10000) (hG : RightG n es) (q : Nat) (hq : q < n) (B : Option Addr) (d : Nat) (cs : List Int) (hcl : cs.length = n) (hcb : ∀ x ∈ cs, -1048575 ≤ x ∧ x ≤ 1048577) (w : World)
    (h : Reads w w.heap.size 3 A es.length (edgeCells es)) (h' : Reads w w.heap.size 1 B n (ints cs)) :
    Calls Try.prog 104 #[.agg #[.int .i64 n, .slice A es.length c], .int .i64 q, .slice B n d] w fun e w' => e = .returned (.bool (minTo n es q cs n)) ∧ Below w.heap.size w w' := by
  have IC := Lib.hid (fun (xs : List Int) (hx : xs.length = n) (B : Option Addr) (d : Nat) (W : World) h1 h2 => ris24_any n hn6 A c es hlen hG q hq B d xs hx W h1 h2)
  have g0 := Blk.new w 24 #[.int .i64 n, .slice A es.length c]
  have B0 : Below w.heap.size w (w.alloc (.cells #[.int .i64 n, .slice A es.length c] 24)) := (Below.refl _ _).alloc (Nat.le_refl _) _
  have HCL := Lib.hid hcl
  have HCB := Lib.hid hcb
  clear hcl hcb hG
  go_enter Try.func104, Try.ntmps104
  go_wp2_with fail
  go_loopw [7, 8] (fun i _ wl => ∃ k : Nat, i = .int .i64 k ∧ k ≤ n ∧ Hid (minTo n es q cs k = true) ∧ Hid (Below w.heap.size w wl) ∧ Hid (Blk wl w.heap.size 24 #[.int .i64 n, .slice A es.length c])) (fun i _ _ => n - (intOf i).toNat)
  case atStart => exact ⟨0, rfl, by omega, by simp [Hid, minTo], B0, g0⟩
  case round =>
    obtain ⟨k, rfl, hk, HM, HB, HG7⟩ := hrel
    clear g0 B0
    have g7 := HG7.out
    have c0 := g7.cell 0
    have hsz := HB.out.size
    by_cases hlt : k < n
    · have hi : (k : Int) < (n : Int) := by omega
      obtain ⟨x, hx⟩ := get_of_lt (xs := cs) (k := k) (by rw [HCL.out]; exact hlt)
      obtain ⟨bB, oB, hA, hbB, hcell⟩ := (h'.below HB.out).at_ (ints_at hx)
      subst hA
      have hms := minTo_succ n es q cs k
      rw [HM.out, Bool.true_and, getD_at hx] at hms
      have hmf := fun h1 h2 => minTo_false (n := n) (es := es) (q := q) (cs := cs) hlt h1 h2
      rw [getD_at hx] at hmf
      have HMF := Lib.hid hmf
      have hxb := HCB.out x (List.mem_of_getElem? hx)
      have HX := Lib.hid hx
      clear hx hmf
      by_cases hx0 : x = 0
      · subst hx0
        rw [decide_eq_true rfl, Bool.true_or] at hms
        have HMS := Lib.hid hms
        clear hms
        go_wp2
        go_roundw
        case rel => exact ⟨k + 1, by go_num, by omega, HMS, HB, HG7⟩
        case measure => simp [intOf]; omega
      · have hne : (x == 0) = false := by simpa using hx0
        rw [decide_eq_false hx0, Bool.false_or] at hms
        have HMS := Lib.hid hms
        have hki : (k : Int) < (cs.length : Int) := by rw [HCL.out]; omega
        have IC1 := Lib.hid (IC.out (cs.set k (x - 1)) (by rw [List.length_set]; exact HCL.out))
        obtain ⟨z, hz⟩ : ∃ z, recB n es (cs.set k (x - 1)) q = z := ⟨_, rfl⟩
        rw [hz] at IC1 hms HMF
        have HMS := Lib.hid hms
        have HX0 := Lib.hid hx0
        have OX : (wr.alloc (.cells #[] 3)).ownsRow wr.heap.size 3 1 (.slice (some ⟨wr.heap.size, 0, none⟩) 0 0) 0 [] := World.ownsRow_made wr #[] 0 (Nat.le_refl _) (by simp [maxLen]) (by simp)
        have RD := ((h'.below HB.out).more hsz).alloc (Nat.le_refl _) (.cells #[] 3)
        clear hms hz hx0
        go_wp2_with (first
          | (at_builtin
             refine append_go rfl (.tmp 20) (.tmp 21) _ rfl wr.heap.size 3 Try.underlying26 info_int rfl (by omega) (some ⟨wr.heap.size, 0, none⟩) 0 0 [] rfl OX wr.heap.size (ints cs) rfl RD (by simp [ints, Value.oneCell']) (by omega) (by simp) ?_
             intro A4 c4 w4 hown4 _ hb4 _
             rw [Nat.zero_add, List.nil_append] at hown4
             rw [Nat.zero_add]
             have o4 : OwnI w4 wr.heap.size A4 c4 cs := by unfold OwnI; rw [HCL.out]; exact hown4
             obtain ⟨g, rfl, hg, hf, hc⟩ := o4.block (by rw [HCL.out]; omega)
             have hf := hf k
             have hc := hc k x HX.out
             have hbw : Below wr.heap.size wr w4 := ((Below.refl wr.heap.size wr).alloc (Nat.le_refl _) (.cells #[] 3)).trans hb4
             have o5 := Lib.hid (o4.put k (x - 1))
             have g4 := (g7.next hbw).far (p := ⟨g, k, none⟩) (by have := g7.lt; show w.heap.size ≠ g; omega) (.int .i64 (x - 1))
             have k0 := g4.cell 0
             have k1 := g4.cell 1
             have B4 := HB.out.trans (hbw.mono hsz)
             have B5 := B4.setCell (p := ⟨g, k, none⟩) (show w.heap.size ≤ g by omega) (.int .i64 (x - 1)))
          | fail)
        have r5 := o5.out.reads
        rw [List.length_set, HCL.out] at r5
        refine (IC1.out _ _ _ (by exact (h.below B5).more B5.size) (by exact r5)).mono ?_
        rintro e w5 ⟨rfl, hb5⟩
        have B6 := B5.trans (hb5.mono B5.size)
        cases z
        · go_wp2
          go_roundw
          case rel => exact ⟨k + 1, by go_num, by omega, by rw [Hid, HMS.out]; rfl, B6, g4.next hb5⟩
          case measure => simp [intOf]; omega
        · have hmf := HMF.out HX0.out rfl
          go_wp2
          go_ret
          exact ⟨by rw [hmf]; rfl, B6⟩
    · obtain rfl : k = n := by omega
      have hMM := HM.out
      go_wp2
      go_ret
      exact ⟨by rw [hMM]; rfl, HB.out⟩

set_option maxRecDepth 100000 in
set_option maxHeartbeats 8000000 in
theorem rmin24_any (n : Int) (A : Option Addr) (c : Nat) (es : List E3) (hlen : es.length ≤ 10000) (q : Int) (hsm : checkG n es = 0 → n ≤ 5 ∧ sizeE es ≤ 8) (w : World) (h : Reads w w.heap.size 3 A es.length (edgeCells es)) :
    Calls Try.prog 52 #[.agg #[.int .i64 n, .slice A es.length c], .int .i64 q] w fun e w' => ∃ Ar cr, e = .returned (.tuple #[.slice Ar (minimE n es q).1.length cr, .int .i64 (minimE n es q).2]) ∧ RowsR w' w'.heap.size Ar (minimE n es q).1 ∧ Below w.heap.size w w' := by
  have RA := Lib.hid (fun (W : World) (hB : Below w.heap.size w W) => rall24_any n A c es hlen q hsm W ((h.below hB).more hB.size))
  have g0 := Blk.new w 24 #[.int .i64 n, .slice A es.length c]
  have B0 : Below w.heap.size w (w.alloc (.cells #[.int .i64 n, .slice A es.length c] 24)) := (Below.refl _ _).alloc (Nat.le_refl _) _
  have c0 := g0.cell 0
  have c1 := g0.cell 1
  by_cases hx : rootErr n es q = 0
  · obtain ⟨n, p, rfl, rfl⟩ := root_nat hx
    obtain ⟨hck, hG, _, hp⟩ := root_zero hx
    obtain ⟨hn5, hs8⟩ := hsm hck
    obtain ⟨_, hRl⟩ := few_bel hx (by omega) hs8
    have hE : allE n es p = (recsL n es p, 0) := by unfold allE; rw [if_pos hx]; simp
    have hF : minimE n es p = ((recsL n es p).filter fun xs => minTo n es p xs n, 0) := by unfold minimE; rw [if_pos hx]; simp
    have HLM : Hid (∀ x ∈ recsL n es p, x.length = n) := fun x hxm => (recsL_bd hx hlen hxm).1
    have HBD : Hid (∀ x ∈ recsL n es p, ∀ y ∈ x, -1048575 ≤ y ∧ y ≤ 1048577) := fun x hxm => (recsL_bd hx hlen hxm).2
    have IC := Lib.hid (fun (xs : List Int) (hxl : xs.length = n) (hxb : ∀ x ∈ xs, -1048575 ≤ x ∧ x ≤ 1048577) (B : Option Addr) (d : Nat) (W : World) h1 h2 => rleast_any n (by omega) A c es hlen hG p hp B d xs hxl hxb W h1 h2)
    rw [hE] at RA
    rw [hF]
    obtain ⟨P, hP⟩ : ∃ P : List Int → Bool, (fun xs => minTo n es p xs n) = P := ⟨_, rfl⟩
    have hP' : ∀ xs, minTo n es p xs n = P xs := fun xs => by rw [← hP]
    rw [hP]
    simp only [hP'] at IC
    obtain ⟨L, hL⟩ : ∃ L, recsL n es p = L := ⟨_, rfl⟩
    rw [hL] at RA HLM HBD hRl ⊢
    obtain ⟨R, hR⟩ : ∃ R, L.filter P = R := ⟨_, rfl⟩
    have HRE : Hid ((L.take L.length).filter P = R) := by rw [Hid, List.take_length]; exact hR
    rw [hR]
    clear hE hF hx hck hG hsm hL hP hP' hR
    go_enter Try.func52, Try.ntmps52
    go_wp2_with fail
    refine (RA.out _ B0).mono ?_
    rintro e w2 ⟨A3, c3, rfl, RX, hb2⟩
    have B2 := B0.trans (hb2.mono B0.size)
    have g2 := g0.next hb2
    have RXH := Lib.hid RX
    have HRF : Hid (∀ k x, L[k]? = some x → (L.take (k + 1)).filter P = (L.take k).filter P ++ if P x then [x] else []) := fun k x hx => filt_snoc hx
    have HFL : Hid (∀ k, ((L.take k).filter P).length ≤ k) := fun k => Nat.le_trans (List.length_filter_le _ _) (by simp; omega)
    have HF0 : Hid ((L.take 0).filter P = []) := by simp [Hid]
    obtain ⟨F, hF⟩ : ∃ F : Nat → List (List Int), (fun k => (L.take k).filter P) = F := ⟨_, rfl⟩
    have hF' : ∀ k, (L.take k).filter P = F k := fun k => congrFun hF k
    simp only [hF'] at HRF HRE HFL HF0
    clear g0 B0 c0 c1 hb2 RX hF hF'
    go_wp2_with fail
    go_loopw [8, 9] (fun o i wl => ∃ (k : Nat) (A' : Option Addr) (c' : Nat) (vs : List Value), k ≤ L.length ∧ i = .int .i64 k ∧ o = .slice A' (F k).length c' ∧ Hid (Shared w2 wl A' c' vs (F k)) ∧ Below w2.heap.size w2 wl) (fun _ i _ => L.length - (intOf i).toNat)
    case atStart => exact ⟨0, none, 0, [], by omega, rfl, by rw [HF0.out]; rfl, by rw [HF0.out]; exact Shared.nil_ _ _, Below.refl _ _⟩
    case round =>
      obtain ⟨k, A', c', vs, hk, rfl, rfl, SH, hB⟩ := hrel
      obtain ⟨wo, hwo⟩ : ∃ wo : World, wo = wr := ⟨wr, rfl⟩
      subst hwo
      have hsz := hB.size
      have hBw := B2.trans (hB.mono B2.size)
      by_cases hlt : k < L.length
      · have hi : (k : Int) < (L.length : Int) := by omega
        obtain ⟨x, hx⟩ := get_of_lt hlt
        have hxn := HLM.out x (List.mem_of_getElem? hx)
        have hxb := HBD.out x (List.mem_of_getElem? hx)
        obtain ⟨b, off, A4, c4, rfl, hb, HC, hrd⟩ := RXH.out.at2 hx
        have HCH := Lib.hid HC
        have cx := HC wo hB
        rw [hxn] at cx
        have hfs := HRF.out k x hx
        have hrd' := hrd
        rw [hxn] at hrd'
        have IC1 := Lib.hid (fun W hW => IC.out x hxn hxb A4 c4 W hW)
        have g7 := g2.next hB
        have c0 := g7.cell 0
        have c1 := g7.cell 1
        have hgl := g7.lt
        have RG := Lib.hid ((h.below hBw).more hBw.size)
        have RD := Lib.hid ((hrd'.below hB).more hsz)
        have HRD := Lib.hid hrd
        have HXN := Lib.hid hxn
        have hl6 := HFL.out k
        obtain ⟨z, hz⟩ : ∃ z, P x = z := ⟨_, rfl⟩
        rw [hz] at IC1 hfs
        cases z
        · simp only [if_neg (show ¬ (false = true) by decide), List.append_nil] at hfs
          have HFS := Lib.hid hfs
          clear hfs hx hrd hrd' hxn hxb hz HC
          go_wp2
          go_region_held3 (fun W => W.cell? ⟨w.heap.size, 0, none⟩ = some (.int .i64 n) ∧ W.cell? ⟨w.heap.size, 1, none⟩ = some (.slice A es.length c) ∧ W.cell? ⟨b, off + k, none⟩ = some (.slice A4 n c4)) (go_keep)
            (first | (go_at_call 104; refine (IC1.out _ (by exact RG.out) (by exact RD.out)).mono ?_; rintro e w5 ⟨rfl, hb5⟩
                      have k0 := (hb5.cell (p := ⟨w.heap.size, 0, none⟩) (by exact hgl)).trans c0
                      have k1 := (hb5.cell (p := ⟨w.heap.size, 1, none⟩) (by exact hgl)).trans c1
                      have k2 := (hb5.cell (p := ⟨b, off + k, none⟩) (by show b < wo.heap.size; omega)).trans cx))
          all_goals (
            have hb5' : Below wo.heap.size wo w5 := (Below.refl _ _).drew.trans hb5
            go_wp2
            go_roundw
            case rel => exact ⟨k + 1, A', c', vs, by omega, by go_num, by rw [HFS.out], by rw [HFS.out]; exact SH.out.next hb5', hB.trans (hb5'.mono hsz)⟩
            case measure => simp [intOf]; omega)
        · simp only at hfs
          have HFS := Lib.hid hfs
          clear hfs hx hrd hrd' hxn hxb hz HC
          go_wp2
          go_region_held3 (fun W => W.cell? ⟨w.heap.size, 0, none⟩ = some (.int .i64 n) ∧ W.cell? ⟨w.heap.size, 1, none⟩ = some (.slice A es.length c) ∧ W.cell? ⟨b, off + k, none⟩ = some (.slice A4 n c4)) (go_keep)
            (first | (go_at_call 104; refine (IC1.out _ (by exact RG.out) (by exact RD.out)).mono ?_; rintro e w5 ⟨rfl, hb5⟩
                      have k0 := (hb5.cell (p := ⟨w.heap.size, 0, none⟩) (by exact hgl)).trans c0
                      have k1 := (hb5.cell (p := ⟨w.heap.size, 1, none⟩) (by exact hgl)).trans c1
                      have k2 := (hb5.cell (p := ⟨b, off + k, none⟩) (by show b < wo.heap.size; omega)).trans cx))
          all_goals (
            have hb5' : Below wo.heap.size wo w5 := (Below.refl _ _).drew.trans hb5
            have hB5 := hB.trans (hb5'.mono hsz)
            have SH5 := Lib.hid (SH.out.next hb5')
            have hs5 := hB5.size
            have cx5 := HCH.out w5 hB5
            rw [HXN.out] at cx5
            go_wp2_with (at_builtin; refine append_go rfl (.tmp 32) (.tmp 37) _ rfl w2.heap.size 26 Try.underlying74 info_divs rfl (by omega) A' c' (F k).length vs rfl (World.ownsRow.alloc SH5.out.1 _) _ [.slice A4 n c4] rfl (Reads.box _ _ _) (by simp [Value.oneCell']) (by omega) (by simp; omega) ?_; intro A6 c6 w6 hown6 hg6 hb6 hw6)
            have B6 := (hB5.alloc hs5 (.cells #[.slice A4 n c4] 26)).trans hb6
            go_roundw
            case rel =>
              have := SH5.out.push (w' := w6) (A' := A6) (c' := c6) (c1 := c4) HRD.out (by rw [HXN.out]; exact hown6)
              exact ⟨k + 1, A6, c6, _, by omega, by go_num, by rw [HFS.out]; simp, by rw [HFS.out]; exact this, B6⟩
            case measure => simp [intOf]; omega)
      · obtain rfl : k = L.length := by omega
        have hR2 : Hid (F L.length = R) := HRE
        rw [hR2.out] at SH ⊢
        go_wp2
        go_ret2
        exact ⟨A', c', rfl, SH.out.reads hB, hBw⟩
  · obtain ⟨z, hz⟩ : ∃ z, rootErr n es q = z := ⟨_, rfl⟩
    have hE : allE n es q = ([], z) := by unfold allE; rw [if_neg hx, hz]
    have hF : minimE n es q = ([], z) := by unfold minimE; rw [if_neg hx, hz]
    rw [hE] at RA
    rw [hF]
    have hz1 : (z != 0) = true := by rw [← hz]; simpa using hx
    clear hE hF hx hz hsm
    go_enter Try.func52, Try.ntmps52
    go_wp2_with fail
    refine (RA.out _ B0).mono ?_
    rintro e w1 ⟨A1, c1', rfl, _, hb1⟩
    go_wp2
    go_ret2
    exact ⟨none, 0, rfl, RowsR.nil_ _ _, B0.trans (hb1.mono B0.size)⟩
end Go.Proofs.Ythbannpmfdflaaa

