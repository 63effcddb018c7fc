/-
  Texts of this claim, put together: Oris, SrcO.
-/
import Derived.Test.YtplgbapbgcipdaaGreatK43
import Derived.Test.YtplgbapbgcipdaaGreatK05
/-! The iterator orientation.orientations: all lists of n truths, each in one and the same block. -/
namespace Go.Proofs.YtplgbapbgcipdaaGreat
open Go.RowKit Go.Shelf

def ArgO (n : Nat) (x : List Bool) (args : Array Value) (_ : Nat → Prop) (W : World) : Prop := ∃ g, args = #[.slice (some ⟨g, 0, none⟩) n n] ∧ Blk W g 4 (bools x)
def isT : Value → Bool
  | .bool b => b
  | _ => false
/-- The number that a block of truths spells. -/
def unW (w : World) (g : Nat) : Nat := match w.heap[g]? with
  | some (.cells cs _) => unbits ((cs.toList.map isT).reverse)
  | _ => 0
theorem unW_of {w : World} {g : Nat} {t : TypeId} {o : List Bool} (h : Blk w g t (bools o)) : unW w g = unbits o.reverse := by
  unfold unW
  have h : w.heap[g]? = some (.cells (bools o) t) := h
  rw [h]
  have : (bools o).toList.map isT = o := by
    unfold bools
    rw [List.map_map]
    exact List.map_id' o
  show unbits (((bools o).toList.map isT).reverse) = _
  rw [this]
theorem set_mid {r t : List Bool} {b x : Bool} : ((b :: r).reverse ++ t).set r.length x = r.reverse ++ x :: t := by
  rw [List.reverse_cons, List.append_assoc, List.set_append, List.length_reverse, if_neg (by omega), Nat.sub_self]
  rfl
theorem get_mid {r t : List Bool} {b : Bool} : ((b :: r).reverse ++ t)[r.length]? = some b := by
  rw [List.reverse_cons, List.append_assoc, List.getElem?_append_right (by rw [List.length_reverse]; exact Nat.le_refl _), List.length_reverse, Nat.sub_self]
  rfl
set_option maxHeartbeats 1000000 in
theorem orientations_any (n : Int) (w : World) :
    Calls Tryz.prog 98 #[.int .i64 n] w fun e w' => e = .returned (.func (.func 129) #[] #[.pointer (some ⟨w.heap.size, 0, none⟩)]) ∧ w.alloc (.cells #[.int .i64 n] 3) = w' := by
  have hmf : ∀ (fn : Fn) (first cap : Array Value) (w : World), (Instr.makeFunc fn first cap).run Tryz.prog w = .ok (.func fn first cap) w := fun _ _ _ _ => rfl
  go_enter Tryz.func98, Tryz.ntmps98
  go_wp2
  go_ret
  exact ⟨rfl, rfl⟩
set_option maxRecDepth 100000 in
set_option maxHeartbeats 8000000 in
theorem ors_iter (n : Nat) (hn : n ≤ 62) (bn : Nat) (W0 : World) (h1 : Blk W0 bn 3 #[.int .i64 n]) :
    Iter Tryz.prog 129 #[.pointer (some ⟨bn, 0, none⟩)] (ArgO n) (fun k => k = bn) (fun _ => False) (orsL n) W0 := by
  intro l J Jx C W hL hC hJ hJx hY h0
  have k1 : Blk W bn 3 #[.int .i64 n] := (hL.block bn h1.lt rfl).trans h1
  have hbn := k1.lt
  have c0 := k1.cell 0
  have hmk := make_bools n (by omega)
  have HC := Lib.hid hC
  have HY := Lib.hid hY
  have HJ := Lib.hid hJ
  have G1 := Blk.new W 4 (bools (List.replicate n false))
  have J1 : Hid (J [] C (W.alloc (.cells (bools (List.replicate n false)) 4))) := HJ.out _ _ _ _ h0 (Stays.of_new ((Below.refl _ _).alloc (Nat.le_refl _) _))
  have K1 := k1.alloc (.cells (bools (List.replicate n false)) 4)
  have hz0 : Hid (orL n 0 = List.replicate n false) := by
    have h : ∀ m, lowB m 0 = List.replicate m false := fun m => by
      induction m with
      | zero => rfl
      | succ m ih => rw [lowB, List.replicate_succ, Nat.zero_div, ih]; rfl
    rw [Hid, orL, h, List.reverse_replicate]
  rw [← hz0.out] at G1 J1 K1 hmk
  clear h1 hL hC hY hJ hJx h0 k1 hz0
  refine (callsIn_wide (n := 3)).1 ?_
  refine callsIn_of_wp_marks Tryz.func129 rfl trivial ?_
  simp only [Tryz.ntmps129, List.size_toArray, List.length_cons, List.length_nil, Nat.reduceAdd, Nat.reduceSub, Array.replicate_succ, Array.replicate_zero, List.push_toArray, List.append_toArray, List.nil_append, List.cons_append]
  gi_wp2_with fail
  gi_loopw [] (fun wl => ∃ (k : Nat) (C' : Nat → Prop), Hid (k < 2 ^ n) ∧ Hid (Blk wl W.heap.size 4 (bools (orL n k))) ∧ Hid (Blk wl bn 3 #[.int .i64 n]) ∧ Hid (W.heap.size ≤ wl.heap.size) ∧
    Hid (J ((orsL n).take k) C' wl) ∧ Hid (∀ x, C' x → x < wl.heap.size ∧ x ≠ W.heap.size ∧ x ≠ bn)) (fun wl => 2 ^ n - unW wl W.heap.size)
  case atStart => exact ⟨0, C, Nat.two_pow_pos n, G1, K1, by simp [Hid], J1.out, fun x hx => by have := HC.out x hx; simp; exact ⟨by omega, by omega, this.2⟩⟩
  case round =>
    obtain ⟨k, C', hk, iB, iN, iS, IJ, IC⟩ := hrel
    obtain ⟨wo, hwo⟩ : ∃ wo : World, wo = wr := ⟨wr, rfl⟩
    subst hwo
    clear J1 G1 K1 c0
    have HTK := Lib.hid (take_snoc (orsL_at hk.out))
    have hpx : Hid ((orsL n).take k ++ [orL n k] <+: orsL n) := by rw [Hid, ← HTK.out]; exact List.take_prefix _ _
    obtain ⟨fn, tmps, assign, body, hy, hR⟩ := HY.out ((orsL n).take k) (orL n k) C' wo #[.slice (some ⟨W.heap.size, 0, none⟩) n n] (fun _ => False) hpx.out IJ.out iS.out (fun x hx => (IC.out x hx).1) (fun x hx => hx.elim) ⟨W.heap.size, rfl, iB.out⟩
    gi_wp2_with fail
    refine (roundIn_wide hR).mono ?_
    rintro e' w2 ⟨C2, b2, ho2, hg2, rfl, hj2, hx2⟩
    cases b2
    · have HX2 := Lib.hid (hx2 rfl)
      rw [← HTK.out] at HX2
      clear hj2 hx2
      gi_wp2
      exact ⟨_, results_none rfl _ _ _, ⟨⟨_, rfl⟩, C2, .inr ⟨(orsL n).take (k + 1), List.take_prefix _ _, HX2.out⟩⟩⟩
    · have HJ2 := Lib.hid (hj2 rfl)
      rw [← HTK.out] at HJ2
      have hsz2 := ho2.size
      have B2 : Blk w2 W.heap.size 4 (bools (orL n k)) := iB.out.only ho2 (fun hc => hc.elim (fun hc => (IC.out _ hc).2.1 rfl) id)
      have N2 : Blk w2 bn 3 #[.int .i64 n] := iN.out.only ho2 (fun hc => hc.elim (fun hc => (IC.out _ hc).2.2 rfl) id)
      have IC2 : Hid (∀ x, C2 x → x < w2.heap.size ∧ x ≠ W.heap.size ∧ x ≠ bn) := by
        intro x hx
        have hlt := iB.out.lt
        have hln := iN.out.lt
        rcases hg2 x hx with h | h | h
        · have := IC.out x h; exact ⟨by omega, this.2⟩
        · exact h.elim
        · exact ⟨h.2, by omega, by omega⟩
      have c0 := N2.cell 0
      have hw1 : IntKind.i64.wrap ((n : Int) - 1) = (n : Int) - 1 := IntWalk.i64_in _ (by omega)
      have HS2 : Hid (W.heap.size ≤ w2.heap.size) := Nat.le_trans iS.out hsz2
      have HM : Hid (unW wo W.heap.size = k) := by rw [Hid, unW_of iB.out, orL, List.reverse_reverse, unbits_bits hk.out]
      clear hj2 hx2 hR hy ho2 hg2 iB iN IJ IC hpx
      gi_wp2_with fail
      gi_loopw [4] (fun v wl => ∃ (x : Int) (rest : List Bool) (j : Nat), v = .int .i64 x ∧ Hid (x = (rest.length : Int) - 1) ∧ Hid (lowB n k = List.replicate j true ++ rest) ∧ Hid (Blk wl W.heap.size 4 (bools (rest.reverse ++ List.replicate j false))) ∧ Hid (Only (fun y => y = W.heap.size) w2 wl)) (fun v _ => (intOf v + 1).toNat)
      case atStart => exact ⟨(n : Int) - 1, lowB n k, 0, rfl, by rw [Hid, lowB_length], rfl, by rw [List.replicate_zero, List.append_nil]; exact B2, Only.refl _ _⟩
      case round =>
        obtain ⟨x, rest, j, rfl, hx, hlow, iB, iO⟩ := hrel
        obtain ⟨wp, hwp⟩ : ∃ wp : World, wp = wr := ⟨wr, rfl⟩
        subst hwp
        have hnl : Hid (n = j + rest.length) := by
          have := congrArg List.length hlow.out
          rw [lowB_length] at this
          rw [Hid]
          simpa using this
        clear B2 c0 hw1
        have iJ : Hid (J ((orsL n).take (k + 1)) C2 wp) := HJ.out _ _ _ _ HJ2.out (Stays.of_only iO.out (fun y hy e => by subst e; exact ⟨fun hc => (IC2.out _ hc).2.1 rfl, .inl (Nat.le_refl _)⟩))
        have iN : Blk wp bn 3 #[.int .i64 n] := N2.only iO.out (by show ¬ bn = W.heap.size; omega)
        have hszp := iO.out.size
        rcases rest with _ | ⟨b, r⟩
        · have hx1 : x = -1 := hx.out
          subst hx1
          have hfin : Hid ((orsL n).take (k + 1) = orsL n) := by
            have h1 := hnl.out
            have h2 := hlow.out
            have h3 := unbits_bits hk.out
            have h4 := unbits_ones j
            rw [List.append_nil] at h2
            rw [h2] at h3
            have h5 : n = j := h1
            subst h5
            exact List.take_of_length_le (by rw [orsL_length]; omega)
          rw [hfin.out] at iJ
          gi_wp2
          exact ⟨_, results_none rfl _ _ _, ⟨⟨_, rfl⟩, C2, .inl iJ.out⟩⟩
        · obtain ⟨p, hp⟩ : ∃ p, r.length = p := ⟨_, rfl⟩
          have hx1 : x = (p : Int) := by have := hx.out; rw [List.length_cons, hp] at this; omega
          subst hx1
          have hpn : (p : Int) < (n : Int) := by have := hnl.out; rw [List.length_cons, hp] at this; omega
          have cb := (iB.out.cell p).trans (bools_get (by rw [← hp]; exact get_mid))
          have fb := iB.out.frozen p
          have HB2 := iB.out
          have hset : ∀ y, Blk (wp.setCell ⟨W.heap.size, p, none⟩ (.bool y)) W.heap.size 4 (bools (r.reverse ++ y :: List.replicate j false)) := fun y => by
            have h := HB2.set_ p (.bool y)
            rw [bools_set, ← hp, set_mid] at h
            rw [← hp]
            exact h
          have HSET := Lib.hid hset
          have HP := Lib.hid hp
          clear hset hp HB2
          cases b
          · have hk1 : Hid (k + 1 < 2 ^ n) := by
              have h1 := hk.out
              refine Nat.lt_of_le_of_ne h1 fun e => ?_
              have h2 := unbits_ones n
              have h3 : unbits (List.replicate n true) = k := by omega
              have h4 := bits_unbits (List.replicate n true)
              rw [h3, List.length_replicate] at h4
              have h5 := hlow.out
              rw [h4] at h5
              have : false ∈ List.replicate n true := by rw [h5]; simp
              exact absurd (List.eq_of_mem_replicate this) (by decide)
            have hor : Hid (orL n (k + 1) = r.reverse ++ true :: List.replicate j false) := by
              rw [Hid, orL, lowB_succ, hlow.out, succB_rep, List.reverse_append, List.reverse_cons, List.append_assoc, List.reverse_replicate]
              rfl
            gi_wp2
            go_roundw
            case rel => exact ⟨k + 1, C2, hk1, by rw [hor.out]; exact HSET.out true, iN.far (by show bn ≠ W.heap.size; omega) _, by simp [World.setCell, Hid]; have := HS2.out; omega, HJ.out _ _ _ _ iJ.out (Stays.of_only ((Only.refl (fun y => y = W.heap.size) wp).setCell (.inl rfl) _) (fun y hy e => by subst e; exact ⟨fun hc => (IC2.out _ hc).2.1 rfl, .inl (Nat.le_refl _)⟩)), fun y hy => by have := IC2.out y hy; simp [World.setCell]; exact ⟨by omega, this.2⟩⟩
            case measure =>
              have h1 := unW_of (HSET.out true)
              rw [← hor.out, orL, List.reverse_reverse, unbits_bits hk1.out] at h1
              have h2 := HM.out
              have h3 := hk.out
              rw [h1, h2]
              omega
          · gi_wp2
            go_roundw
            case rel => exact ⟨(p : Int) - 1, r, j + 1, by go_num, by rw [HP.out]; rfl, by rw [Hid, hlow.out, List.replicate_succ', List.append_assoc]; rfl, HSET.out false, iO.out.setCell (.inl rfl) _⟩
            case measure => simp [intOf]
end Go.Proofs.YtplgbapbgcipdaaGreat

/-! orientation.sources. -/
namespace Go.Proofs.YtplgbapbgcipdaaGreat
open Go.RowKit

def srcTo (l : List (Nat × Nat)) (k : Nat) : List Int := nI ((List.range k).filter fun v => decide (l.countP (fun x => decide (x.2 = v)) = 0))
theorem srcTo_succ {l : List (Nat × Nat)} {k : Nat} : srcTo l (k + 1) = if l.countP (fun x => decide (x.2 = k)) = 0 then srcTo l k ++ [(k : Int)] else srcTo l k := by
  unfold srcTo
  rw [List.range_succ, List.filter_append]
  by_cases h : l.countP (fun x => decide (x.2 = k)) = 0
  · simp [h, nI]
  · simp [h, nI]
theorem srcTo_len {l : List (Nat × Nat)} {k : Nat} : (srcTo l k).length ≤ k := by
  unfold srcTo
  rw [nI_length]
  exact Nat.le_trans (List.length_filter_le _ _) (by simp)
set_option maxRecDepth 100000 in
set_option maxHeartbeats 4000000 in
theorem sources_any (n : Nat) (A : Option Addr) (c : Nat) (es : List E3) (hn : es.length ≤ 10000) (hz : checkG n es = 0) (O : List Bool) (hO : O.length = (endsL es).length) (hmx : (endsL es).length ≤ 1000000) (Ao : Option Addr) (co : Nat) (w : World)
    (h : Reads w w.heap.size 3 A es.length (edgeCells es)) (h' : Reads w w.heap.size 1 Ao O.length (boolCells O)) :
    Calls Tryz.prog 62 #[.agg #[.int .i64 n, .slice A es.length c], .slice Ao O.length co] w fun e w' => ∃ A' c', e = .returned (.slice A' (srcTo (arrL (endsL es) O) n).length c') ∧ OwnI w' w.heap.size A' c' (srcTo (arrL (endsL es) O) n) ∧ Below w.heap.size w w' := by
  have hn12 : n ≤ 12 := by have := (right_of hz).hi; omega
  have IC := Lib.hid (fun (W : World) (hB : Below w.heap.size w W) => indegrees_any n A c es hn hz O hO hmx Ao co W ((h.below hB).more hB.size) ((h'.below hB).more hB.size))
  have g0 := Blk.new w 24 #[.int .i64 n, .slice A es.length c]
  have B0 : Below w.heap.size w (w.alloc (.cells #[.int .i64 n, .slice A es.length c] 24)) := (Below.refl _ _).alloc (Nat.le_refl _) _
  have c0 := g0.cell 0
  have c1 := g0.cell 1
  obtain ⟨l, hl⟩ : ∃ l, arrL (endsL es) O = l := ⟨_, rfl⟩
  rw [hl] at IC ⊢
  clear hz hO hl hmx
  go_enter Tryz.func62, Tryz.ntmps62
  go_wp2_with fail
  refine (IC.out _ B0).mono ?_
  rintro e w1 ⟨g, rfl, hg, hb, hb1⟩
  have hB1 := B0.trans (hb1.mono B0.size)
  have HI := Lib.hid hb
  have hs1 := hB1.size
  have hsB := B0.size
  clear hb hb1 c0 c1 g0
  go_wp2_with fail
  go_loopw [5, 12] (fun o i wr => ∃ (k : Nat) (A' : Option Addr) (c' : Nat), k ≤ n ∧ i = .int .i64 k ∧ o = .slice A' (srcTo l k).length c' ∧ Hid (OwnI wr w1.heap.size A' c' (srcTo l k)) ∧ Hid (Below w1.heap.size w1 wr)) (fun _ i _ => n - (intOf i).toNat)
  case atStart => exact ⟨0, none, 0, by omega, rfl, rfl, OwnI.nil_ _ _, Below.refl _ _⟩
  case round =>
    obtain ⟨k, A', c', hk, rfl, rfl, HO, HW⟩ := hrel
    have hszw := HW.out.size
    by_cases hlt : k < n
    · have hi : (k : Int) < (n : Int) := by omega
      have cx := ((HI.out.next HW.out).cell k).trans (intCells_at (incL_at (l := l) hlt))
      have hsl := srcTo_len (l := l) (k := k)
      obtain ⟨S, hS⟩ : ∃ S, srcTo l k = S := ⟨_, rfl⟩
      have hsc := srcTo_succ (l := l) (k := k)
      rw [hS] at HO hsl hsc
      obtain ⟨x, hx⟩ : ∃ x, l.countP (fun y => decide (y.2 = k)) = x := ⟨_, rfl⟩
      rw [hx] at cx hsc
      obtain ⟨sl, hsl2⟩ : ∃ sl, S.length = sl := ⟨_, rfl⟩
      have HSL := Lib.hid hsl2
      have HSE := Lib.hid hS
      rw [hS, hsl2]
      rw [hsl2] at hsl
      by_cases hx0 : x = 0
      · rw [if_pos hx0] at hsc
        subst hx0
        have HSC := Lib.hid hsc
        have e0 : (((0 : Nat) : Int) == 0) = true := by simp
        have OX : wr.ownsRow w1.heap.size 3 1 (.slice A' sl c') sl (ints S) := by have := HO.out; unfold OwnI at this; rw [hsl2] at this; exact this
        clear hsc hx hS hsl2
        go_wp2_with (first | (at_builtin; refine append_go rfl (.tmp 19) (.tmp 21) _ rfl w1.heap.size 3 Tryz.underlying25 info_int rfl (by omega) A' c' sl (ints S) rfl (World.ownsRow.alloc OX _) _ [.int .i64 (k : Int)] rfl (Reads.box _ _ _) (by simp [Value.oneCell']) (by omega) (by simp; omega) ?_; intro A6 c6 w6 hown6 hg6 hb6 hw6) | fail)
        have B6 : Below w1.heap.size w1 w6 := (HW.out.alloc hszw _).trans hb6
        have O6 : OwnI w6 w1.heap.size A6 c6 (S ++ [(k : Int)]) := by unfold OwnI; rw [List.length_append, ints_snoc, HSL.out]; exact hown6
        go_roundw
        case rel => exact ⟨k + 1, A6, c6, by omega, by go_num, by rw [HSC.out, List.length_append, HSL.out]; rfl, by rw [HSC.out]; exact O6, B6⟩
        case measure => simp [intOf]; omega
      · rw [if_neg hx0] at hsc
        have HSC := Lib.hid hsc
        have e0 : ((x : Int) == 0) = false := by simp; omega
        clear hsc hx hS hsl2
        go_wp2
        go_roundw
        case rel => exact ⟨k + 1, A', c', by omega, by go_num, by rw [HSC.out, HSL.out], by rw [HSC.out]; exact HO.out, HW.out⟩
        case measure => simp [intOf]; omega
    · obtain rfl : k = n := by omega
      have hf : ¬ (k : Int) < (k : Int) := by omega
      have O2 := Lib.hid (HO.out.mono (base' := w.heap.size) hs1)
      have B2 := Lib.hid (hB1.trans (HW.out.mono hs1))
      clear HO
      go_wp2
      go_ret
      exact ⟨A', c', rfl, O2.out, B2.out⟩
end Go.Proofs.YtplgbapbgcipdaaGreat

