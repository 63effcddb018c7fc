/-
  Texts of this claim, put together: RFall, RRecs2.
-/
import Derived.Test.YtplgbapbgcipdaaGreatK21
import Derived.Test.YtplgbapbgcipdaaGreatK10
import Derived.Test.YtplgbapbgcipdaaGreatK23
import Derived.Deep.RegionHeld3
import Derived.Test.YtplgbapbgcipdaaGreatK24
/-! ref19.Rows, Valences, least. -/
namespace Go.Proofs.YtplgbapbgcipdaaGreat
open Go.RowKit

theorem cell_other {w : World} {b g i o : Nat} {u : Value} (h : b ≠ g) : (w.setCell ⟨g, i, none⟩ u).cell? ⟨b, o, none⟩ = w.cell? ⟨b, o, none⟩ :=
  World.cell?_setCell_other w ⟨g, i, none⟩ ⟨b, o, none⟩ u (fun e => h (congrArg Addr.block e).symm)
set_option maxRecDepth 100000 in
set_option maxHeartbeats 8000000 in
theorem rows19_any (n : Nat) (A : Option Addr) (c : Nat) (es : List E3) (hlen : es.length ≤ 10000) (hG : RightG n es) (w : World) (h : Reads w w.heap.size 3 A es.length (edgeCells es)) :
    Calls Tryz.prog 137 #[.agg #[.int .i64 n, .slice A es.length c]] w fun e w' => ∃ A' c' gs, e = .returned (.slice A' n c') ∧ Hid (gs.length = n) ∧ Grid w' w.heap.size A' c' n gs (ttTab n es n 0) ∧ Below w.heap.size w w' := by
  have hn12 : n ≤ 12 := by have := hG.hi; omega
  have TC := Lib.hid (fun (w : World) => table_any n (by omega) w)
  have BC := Lib.hid (fun (a b : Nat) (W : World) (hB : Below w.heap.size w W) => between_any n A c es (by omega) a b W ((h.below hB).more hB.size))
  have g0 := Blk.new w 24 #[.int .i64 n, .slice A es.length c]
  have B0 : Below w.heap.size w (w.alloc (.cells #[.int .i64 n, .slice A es.length c] 24)) := (Below.refl _ _).alloc (Nat.le_refl _) _
  have c0 := g0.cell 0
  have hst : Hid (ttTab n es 0 0 = List.replicate n (List.replicate n 0)) := ttTab_start
  clear hG
  go_enter Tryz.func137, Tryz.ntmps137
  go_wp2_with fail
  refine (TC.out _).mono ?_
  rintro e w1 ⟨A1, f1, gs, rfl, HL, gr1, hb1⟩
  have B1 := B0.trans (hb1.mono B0.size)
  have g1 := g0.next hb1
  have gr1 := gr1.mono B0.size
  rw [← hst.out] at gr1
  clear g0 B0 c0 hb1
  go_wp2_with fail
  go_loopw [4, 5] (fun i _ wl => ∃ v : Nat, v ≤ n ∧ i = .int .i64 v ∧ Hid (Grid wl w.heap.size A1 f1 n gs (ttTab n es v 0)) ∧ Hid (Blk wl w.heap.size 24 #[.int .i64 n, .slice A es.length c]) ∧ Hid (Below w.heap.size w wl)) (fun i _ _ => n - (intOf i).toNat)
  case atStart => exact ⟨0, by omega, rfl, gr1, g1, B1⟩
  case round =>
    obtain ⟨v, hv, rfl, HR, HG, HB⟩ := hrel
    clear gr1 g1 B1
    have c0 := HG.out.cell 0
    by_cases hlv : v < n
    · have hi : (v : Int) < (n : Int) := by omega
      obtain ⟨wo, hwo⟩ : ∃ wo : World, wr = wo := ⟨_, rfl⟩
      subst hwo
      obtain ⟨g, hg⟩ := get_of_lt (xs := gs) (k := v) (by rw [HL.out]; exact hlv)
      have HGV := Lib.hid hg
      go_wp2_with fail
      go_loopw [5] (fun i wl => ∃ k : Nat, k ≤ n ∧ i = .int .i64 k ∧ Hid (Grid wl w.heap.size A1 f1 n gs (ttTab n es v k)) ∧ Hid (Blk wl w.heap.size 24 #[.int .i64 n, .slice A es.length c]) ∧ Hid (Below w.heap.size w wl)) (fun i _ => n - (intOf i).toNat)
      case atStart => exact ⟨0, by omega, rfl, HR, HG, HB⟩
      case round =>
        obtain ⟨k, hk, rfl, HR2, HG2, HB2⟩ := hrel
        clear c0 HR HG HB
        have c0 := HG2.out.cell 0
        have c1 := HG2.out.cell 1
        by_cases hlk : k < n
        · have hik : (k : Int) < (n : Int) := by omega
          by_cases hvk : v = k
          · have hne : ((v : Int) != (k : Int)) = false := by simp [hvk]
            have hts : Hid (Grid wr w.heap.size A1 f1 n gs (ttTab n es v (k + 1))) := by
              have := HR2.out
              subst hvk
              show Grid wr w.heap.size A1 f1 n gs (ttTab n es v (v + 1))
              rw [ttTab_self]; exact this
            clear hg
            go_wp2
            go_roundw
            case rel => exact ⟨k + 1, by omega, by go_num, hts, HG2, HB2⟩
            case measure => simp [intOf]; omega
          · have hne : ((v : Int) != (k : Int)) = true := by rw [bne_iff_ne]; omega
            have BC2 := BC.out v k wr.drew HB2.out.drew
            have hb : btw es v k = tt es v k := by unfold tt; rw [if_neg hvk]
            rw [hb] at BC2
            have hts := ttTab_succ (n := n) (es := es) (v := v) (k := k)
            have hrow : (ttTab n es v k)[v]? = some (ttRow n es v k) := ttTab_row hlv
            obtain ⟨bA, oA, rfl, hcell⟩ := HR2.out.cell hg
            obtain ⟨x, hx⟩ : ∃ x, tt es v k = x := ⟨_, rfl⟩
            rw [hx] at BC2 hts
            have BC2 := Lib.hid BC2
            have HTS := Lib.hid hts
            have HROW := Lib.hid hrow
            have hbA : bA < wr.heap.size := (own_lt HR2.out.outer ⟨_, rfl, rfl⟩).2
            have hgn : w.heap.size < wr.heap.size := HG2.out.lt
            clear hts hrow hb hx hvk hg
            go_wp2_with fail
            go_region_held3 (fun W => W.cell? ⟨w.heap.size, 0, none⟩ = some (.int .i64 n) ∧ W.cell? ⟨w.heap.size, 1, none⟩ = some (.slice A es.length c) ∧ W.cell? ⟨bA, oA + v, none⟩ = some (.slice (some ⟨g, 0, none⟩) n n)) (go_keep) (first | (go_at_call 41; refine (BC2.out).mono ?_; rintro e w5 ⟨rfl, hb5⟩; have d0 := (hb5.cell (p := ⟨w.heap.size, 0, none⟩) hgn).trans c0; have d1 := (hb5.cell (p := ⟨w.heap.size, 1, none⟩) hgn).trans c1; have d2 := (hb5.cell (p := ⟨bA, oA + v, none⟩) hbA).trans hcell; have hb6 : Below wr.heap.size wr w5 := Below.trans (Below.drew (Below.refl _ _)) hb5; have R5 := HR2.out.next hb6; have G5 := HG2.out.next hb6; have B5 := HB2.out.trans (hb6.mono HB2.out.size); obtain ⟨q1, q2, q3⟩ := R5.row v g _ HGV.out HROW.out; have cf := q1.frozen k; obtain ⟨y, hy⟩ := get_of_lt (xs := ttRow n es v k) (k := k) (by rw [ttRow_length]; exact hlk); have co := (q1.cell k).trans (intCells_get hy); clear hy; have hgw : w.heap.size ≠ g := (q1.ne_ G5 (by decide)).symm; have hga : bA ≠ g := own_blk R5.outer q1 (by decide) ⟨_, rfl, rfl⟩; have e0 := (G5.far (p := ⟨g, k, none⟩) hgw (.int .i64 x)).cell 0; have e1 := (G5.far (p := ⟨g, k, none⟩) hgw (.int .i64 x)).cell 1; have e2 := (cell_other (u := .int .i64 x) (i := k) (o := oA + v) hga).trans d2))
            all_goals
              have R6 := R5.set HGV.out HROW.out (j := k) x
              rw [← HTS.out] at R6
              have G6 := G5.far (p := ⟨g, k, none⟩) hgw (.int .i64 x)
              have B6 := B5.setCell (p := ⟨g, k, none⟩) (by show w.heap.size ≤ g; exact q3) (.int .i64 x)
              have HR6 := Lib.hid R6
              have HG6 := Lib.hid G6
              have HB6 := Lib.hid B6
              clear R6 G6 B6 R5 G5 B5 hb6 hb5 q1 q2 q3 hgw hga e0 e1 e2
              go_wp2
              go_roundw
              case rel => exact ⟨k + 1, by omega, by go_num, HR6, HG6, HB6⟩
              case measure => simp [intOf]; omega
        · obtain rfl : k = n := by omega
          have hR : Hid (Grid wr w.heap.size A1 f1 k gs (ttTab k es (v + 1) 0)) := by show Grid wr w.heap.size A1 f1 k gs (ttTab k es (v + 1) 0); rw [← ttTab_next]; exact HR2.out
          clear hg
          go_wp2
          go_roundw
          case rel => exact ⟨v + 1, by omega, by go_num, hR, HG2, HB2⟩
          case measure => simp [intOf]; omega
    · obtain rfl : v = n := by omega
      go_wp2
      go_ret
      exact ⟨A1, f1, gs, rfl, HL, HR.out, HB.out⟩

set_option maxRecDepth 100000 in
set_option maxHeartbeats 4000000 in
theorem valences19_any (n : Nat) (A : Option Addr) (c : Nat) (es : List E3) (hlen : es.length ≤ 10000) (hG : RightG n es) (w : World) (h : Reads w w.heap.size 3 A es.length (edgeCells es)) :
    Calls Tryz.prog 138 #[.agg #[.int .i64 n, .slice A es.length c]] w fun e w' => ∃ A' c', e = .returned (.slice A' n c') ∧ OwnI w' w.heap.size A' c' (valsL n es) ∧ Below w.heap.size w w' := by
  have hn12 : n ≤ 12 := by have := hG.hi; omega
  have VC := Lib.hid (fun (v : Nat) (W : World) (hB : Below w.heap.size w W) => val08_any n A c es hlen hG v W ((h.below hB).more hB.size))
  have g0 := Blk.new w 24 #[.int .i64 n, .slice A es.length c]
  have B0 : Below w.heap.size w (w.alloc (.cells #[.int .i64 n, .slice A es.length c] 24)) := (Below.refl _ _).alloc (Nat.le_refl _) _
  clear hG
  go_enter Tryz.func138, Tryz.ntmps138
  go_wp2_with fail
  go_loopw [3, 4] (fun s i wl => ∃ (k : Nat) (A' : Option Addr) (c' : Nat) (r : List Int), k ≤ n ∧ i = .int .i64 k ∧ s = .slice A' r.length c' ∧ Hid (r = valsL k es) ∧ r.length = k ∧ Hid (OwnI wl w.heap.size A' c' r) ∧ Hid (Blk wl w.heap.size 24 #[.int .i64 n, .slice A es.length c]) ∧ Hid (Below w.heap.size w wl)) (fun _ i _ => n - (intOf i).toNat)
  case atStart => exact ⟨0, none, 0, [], by omega, rfl, rfl, rfl, rfl, OwnI.nil_ _ _, g0, B0⟩
  case round =>
    obtain ⟨k, A', c', r, hk, rfl, rfl, HR, hrl, HO, HG, HB⟩ := hrel
    clear g0 B0
    have c0 := HG.out.cell 0
    have c1 := HG.out.cell 1
    by_cases hlt : k < n
    · have hi : (k : Int) < (n : Int) := by omega
      have VC1 := VC.out k wr HB.out
      have hs := valsL_succ k es
      rw [← HR.out] at hs
      obtain ⟨V, hV⟩ : ∃ V, valE es k = V := ⟨_, rfl⟩
      rw [hV] at VC1 hs
      have VC1 := Lib.hid VC1
      have HS := Lib.hid hs.symm
      have hrl2 := Lib.hid hrl
      clear hs hV hrl
      go_wp2_with fail
      refine (VC1.out).mono ?_
      rintro e w5 ⟨rfl, hb5⟩
      have B5 := HB.out.trans (hb5.mono HB.out.size)
      have s5 := B5.size
      have o5 := HO.out.next hb5
      have g5 := HG.out.next hb5
      have hl5 : r.length ≤ 1048000 := by have := hrl2.out; omega
      go_wp2_with (at_builtin; refine push_int rfl (.tmp 11) (.tmp 15) _ rfl Tryz.underlying25 w.heap.size A' c' r V rfl o5 rfl rfl hl5 s5 ?_; intro A2 c2 w2 hown2 hg2 hb2)
      have g6 := (g5.alloc (.cells #[.int .i64 V] 3)).grown hg2 (own_blk_ne o5 g5 (by decide))
      go_roundw
      case rel => exact ⟨k + 1, A2, c2, r ++ [V], by omega, by go_num, by simp, HS.out, by rw [List.length_append, hrl2.out]; rfl, hown2, g6, B5.trans hb2⟩
      case measure => simp [intOf]; omega
    · obtain rfl : k = n := by omega
      have hO := HO.out
      rw [HR.out] at hO
      have hl := Lib.hid hrl
      clear hrl
      go_wp2
      go_ret
      exact ⟨A', c', by rw [hl.out]; rfl, hO, HB.out⟩

/-- The least unstable vertex. -/
def leastU (es : List E3) (n q : Nat) (d : List Int) : Option Nat := (List.range n).find? fun v => decide (v ≠ q) && decide (valE es v ≤ d.getD v 0)
def leastI (es : List E3) (n q : Nat) (d : List Int) : Int := match leastU es n q d with
  | some v => (v : Int)
  | none => -1
set_option maxRecDepth 100000 in
set_option maxHeartbeats 4000000 in
theorem least19_any (n : Nat) (hn12 : n ≤ 12) (es : List E3) (q : Nat) (B : Option Addr) (cB : Nat) (d : List Int) (hd : d.length = n) (V : Option Addr) (cV : Nat) (w : World)
    (h : Reads w w.heap.size 1 B n (ints d)) (h' : Reads w w.heap.size 1 V n (ints (valsL n es))) :
    Calls Tryz.prog 139 #[.slice B n cB, .int .i64 q, .slice V n cV] w fun e w' => e = .returned (.int .i64 (leastI es n q d)) ∧ ∃ k, w' = w.drewN k := by
  have HD := Lib.hid hd
  have hvl := Lib.hid (valsL_length n es)
  have HV : Hid (∀ v, v < n → (valsL n es)[v]? = some (valE es v)) := fun v hv => valsL_at es hv
  have H1 := Lib.hid h
  have H2 := Lib.hid h'
  clear hd h h'
  go_enter Tryz.func139, Tryz.ntmps139
  go_wp2_with fail
  go_loopw [7] (fun i wl => ∃ k : Nat, k ≤ n ∧ i = .int .i64 k ∧ Hid (∀ v, v < k → (decide (v ≠ q) && decide (valE es v ≤ d.getD v 0)) = false) ∧ ∃ m, wl = w.drewN m) (fun i _ => n - (intOf i).toNat)
  case atStart => exact ⟨0, by omega, rfl, fun v hv => by omega, 0, rfl⟩
  case round =>
    obtain ⟨k, hk, rfl, HN, m, rfl⟩ := hrel
    by_cases hlt : k < n
    · have hi : (k : Int) < (n : Int) := by omega
      obtain ⟨x, hx⟩ := get_of_lt (xs := d) (k := k) (by rw [HD.out]; exact hlt)
      obtain ⟨bB, oB, rfl, _, hc1⟩ := H1.out.at_ (ints_at hx)
      obtain ⟨bV, oV, rfl, _, hc2⟩ := H2.out.at_ (ints_at (HV.out k hlt))
      have hxd := getD_at hx
      obtain ⟨y, hy⟩ : ∃ y, valE es k = y := ⟨_, rfl⟩
      rw [hy] at hc2
      by_cases hkq : k = q
      · have hne : ((k : Int) != (q : Int)) = false := by simp [hkq]
        have HN2 : Hid (∀ v, v < k + 1 → (decide (v ≠ q) && decide (valE es v ≤ d.getD v 0)) = false) := by
          intro v hv
          by_cases hvk : v = k
          · subst hvk; simp [hkq]
          · exact HN.out v (by omega)
        clear hx hy hxd hkq
        go_wp2_with fail
        go_quiet (fail)
        go_wp2
        go_roundw
        case rel => exact ⟨k + 1, by omega, by go_num, HN2, _, rfl⟩
        case measure => simp [intOf]; omega
      · have hne : ((k : Int) != (q : Int)) = true := by rw [bne_iff_ne]; omega
        by_cases hge : y ≤ x
        · have hlu : Hid (leastI es n q d = k) := by
            show leastI es n q d = k
            unfold leastI leastU
            have : (List.range n).find? (fun v => decide (v ≠ q) && decide (valE es v ≤ d.getD v 0)) = some k := by
              rw [List.find?_range_eq_some]
              refine ⟨by rw [Bool.and_eq_true, decide_eq_true_eq, decide_eq_true_eq, hy, hxd]; exact ⟨hkq, hge⟩, by simpa using hlt, fun j hj => ?_⟩
              rw [HN.out j hj]; rfl
            rw [this]
          have hd1 := Lib.hid hge
          clear hx hy hxd hkq
          go_wp2_with fail
          go_quiet (fail)
          go_wp2
          go_ret
          exact ⟨by rw [hlu.out]; rfl, _, World.drewN_drewN _ _ _⟩
        · have HN2 : Hid (∀ v, v < k + 1 → (decide (v ≠ q) && decide (valE es v ≤ d.getD v 0)) = false) := by
            intro v hv
            by_cases hvk : v = k
            · subst hvk; rw [hy, hxd]; simp [hge]
            · exact HN.out v (by omega)
          clear hx hy hxd hkq
          go_wp2_with fail
          go_quiet (fail)
          go_wp2
          go_roundw
          case rel => exact ⟨k + 1, by omega, by go_num, HN2, _, rfl⟩
          case measure => simp [intOf]; omega
    · obtain rfl : k = n := by omega
      have hlu : Hid (leastI es k q d = -1) := by
        show leastI es k q d = -1
        unfold leastI leastU
        have : (List.range k).find? (fun v => decide (v ≠ q) && decide (valE es v ≤ d.getD v 0)) = none := by
          rw [List.find?_eq_none]
          intro v hv
          rw [HN.out v (by simpa using hv)]; simp
        rw [this]
      go_wp2
      go_ret
      exact ⟨by rw [hlu.out]; rfl, _, rfl⟩
end Go.Proofs.YtplgbapbgcipdaaGreat

/-! Package recurrent: the iterator recurrents, where all vertices are chosen. -/
namespace Go.Proofs.YtplgbapbgcipdaaGreat
open Go.RowKit Go.Shelf
attribute [local go_sem] Oper.semAt_some

/-- What all steps of the iterator share. -/
structure RFix (n q : Nat) (es : List E3) (top : List Int) : Prop where
  hlen : es.length ≤ 10000
  hz : checkG n es = 0
  hq : q < n
  htl : top.length = n
  htb : ∀ x ∈ top, 0 ≤ x ∧ x ≤ 1048576
/-- The property. -/
def recP (n : Nat) (es : List E3) (q : Nat) (c : List Int) : Bool := recB n es c q

set_option maxRecDepth 100000 in
set_option maxHeartbeats 4000000 in
theorem recs_iter0 (n q : Nat) (es : List E3) (top : List Int) (hF : RFix n q es top) (cs : List Int) (hcs : cs.length = n) (hcb : ∀ x ∈ cs, -1048576 ≤ x ∧ x ≤ 1048577) (bp bv bt : Nat) (A : Option Addr) (cA : Nat) (C : Option Addr) (cC : Nat) (T : Option Addr) (cT : Nat) (W0 : World)
    (hW : RecW W0 n q n bp bv bt es A cA C cC T cT cs top) :
    Iter Tryz.prog 80 #[.pointer (some ⟨bp, 0, none⟩), .pointer (some ⟨bv, 0, none⟩), .pointer (some ⟨bt, 0, none⟩)] ArgD (KR bp bv bt es A C T) (fun _ => False) (enumR (recP n es q) top n 0 cs) W0 := by
  intro l J Jx C0 W hL hC hJ hJx hY h0
  have hn0 : 0 < n := by have := hF.hq; omega
  have hn12 : n ≤ 12 := by have := (right_of hF.hz).hi; omega
  have hRW : RecW W n q n bp bv bt es A cA C cC T cT cs top := hW.kept hL.size fun k hk => hL.block k (hW.lt hn0 hk) hk
  obtain ⟨Wy, hWy⟩ : ∃ Wy, W.alloc (.cells #[.func (.yield l) #[] #[]] 51) = Wy := ⟨_, rfl⟩
  have hby : Below W.heap.size W Wy := by rw [← hWy]; exact (Below.refl _ _).alloc (Nat.le_refl _) _
  have y5 : Blk Wy W.heap.size 51 #[.func (.yield l) #[] #[]] := by rw [← hWy]; exact Blk.new _ _ _
  have hsy : Wy.heap.size = W.heap.size + 1 := by rw [← hWy]; simp
  have hRy := hRW.next hn0 hby
  have RC := Lib.hid (recurs_any n A cA es q hF.hq C cC cs ⟨hF.hlen, hF.hz, hcs, hcb⟩ Wy hRy.e hRy.c)
  have CL := Lib.hid (fun (W : World) (h : Reads W W.heap.size 1 C n (ints cs)) => by have := dclone_any C cC cs (by omega) W (by rw [hcs]; exact h); rw [hcs] at this; exact this)
  have HRY := Lib.hid hRy
  have HJ := Lib.hid hJ
  have HY := Lib.hid hY
  have HC := Lib.hid hC
  have HLEN := Lib.hid hcs
  have hJy := hJ _ _ _ _ h0 (Stays.of_new hby)
  have HJy := Lib.hid hJy
  have e1 := hRy.p.cell 0
  have e2 := hRy.p.cell 1
  have e3 := hRy.p.cell 2
  have e4 := hRy.p.cell 3
  have HEN : Hid (enumR (recP n es q) top n 0 cs = if recB n es cs q then [cs] else []) := rfl
  obtain ⟨xs, hxs⟩ : ∃ xs, enumR (recP n es q) top n 0 cs = xs := ⟨_, rfl⟩
  rw [hxs] at HEN HY ⊢
  obtain ⟨b, hb⟩ : ∃ b, recB n es cs q = b := ⟨_, rfl⟩
  rw [hb] at HEN RC
  clear hb hxs hJ hY hC hcs hRy hRW hW hF hL h0 hJx hJy hcb
  refine (callsIn_wide (n := 3)).1 ?_
  refine callsIn_of_wp_marks Tryz.func80 rfl trivial ?_
  simp only [Tryz.ntmps80, List.size_toArray, List.length_cons, List.length_nil, Nat.reduceAdd, Nat.reduceSub, Array.replicate_succ, Array.replicate_zero, List.push_toArray, List.append_toArray, List.nil_append, List.cons_append]
  gi_wp2_with fail
  refine ⟨trivial, ?_⟩

  refine (inW RC.out).mono ?_
  rintro e w1 ⟨rfl, hb1⟩
  have hB1 := hby.trans (hb1.mono (by omega))
  have hR1 := HRY.out.next hn0 hb1
  have J1 := Lib.hid (HJ.out _ _ _ _ HJy.out (Stays.of_new hb1))
  have y1 := y5.next hb1
  have hs1 := hb1.size
  have e5 := y1.cell 0
  have e1 := hR1.p.cell 0
  have e3 := hR1.p.cell 2
  have e4 := hR1.p.cell 3
  have e6 := hR1.v.cell 0
  have HR1 := Lib.hid hR1
  clear hby y5 hWy hR1
  cases b
  · have HEN2 : Hid (xs = []) := HEN.out
    gi_wp2
    exact ⟨_, results_none rfl _ _ _, ⟨⟨_, rfl⟩, C0, .inl (by rw [HEN2.out]; exact J1.out)⟩⟩
  · have HEN2 : Hid (xs = [cs]) := HEN.out
    have HPR : Hid ([] ++ [cs] <+: xs) := by rw [HEN2.out]; exact List.prefix_refl _
    have HA2 : Hid (∀ (A' : Option Addr) (c' : Nat), (#[.slice A' n c'] : Array Value) = #[.slice A' cs.length c']) := fun A' c' => by rw [HLEN.out]
    gi_wp2_with fail
    refine wpIn_nopanic ?_
    gi_region_with (first
      | (refine ⟨trivial, ?_⟩; gi_at_call 17; refine (inW (CL.out w1.drew HR1.out.c)).mono ?_; rintro e w2 ⟨A', c', rfl, hown, hbel⟩
         have ho1 : Only (fun _ => False) w1 w2 := ((Only.refl _ w1).drew).trans (Only.of_new hbel)
         have cy : w2.cell? ⟨W.heap.size, 0, none⟩ = some (.func (.yield l) #[] #[]) := (hbel.cell (p := ⟨W.heap.size, 0, none⟩) y1.lt).trans e5
         have hs2 := ho1.size
         have hOw : Hid (∀ k, blockOf A' k → w1.heap.size ≤ k ∧ k < w2.heap.size) := fun k hk => hown.lt k (blockOf_own.2 hk)
         obtain ⟨fn, tmps, assign, body, hy, hR⟩ := HY.out [] cs C0 w2 #[.slice A' n c'] (blockOf A') HPR.out (HJ.out _ _ _ _ J1.out (Stays.of_only ho1 (fun _ _ h => h.elim))) (by omega) (fun k hk => by have := (HC.out k hk).1; omega) (fun k hk => ⟨fun h => by have := (HC.out k h).1; have := (hOw.out k hk).1; omega, (hOw.out k hk).2, by have := (hOw.out k hk).1; omega⟩) ⟨A', c', HA2.out A' c', hown.mono (Nat.zero_le _), fun k hk => hk⟩)
      | (refine (roundIn_wide hR).mono ?_; rintro e w3 ⟨C2, b2, ho2, hg2, rfl, hj2, hx2⟩))
    all_goals (
      refine nopanic_normal ?_
      have EN : Hid (∃ C', J xs C' w3 ∨ ∃ pre, pre <+: xs ∧ Jx pre C' w3) := by
        rw [HEN2.out]
        cases b2
        · exact ⟨C2, .inr ⟨_, List.prefix_refl _, hx2 rfl⟩⟩
        · exact ⟨C2, .inl (hj2 rfl)⟩
      clear hj2 hx2 hR hy ho2 hg2
      gi_wp2
      exact ⟨_, results_none rfl _ _ _, ⟨⟨_, rfl⟩, EN.out⟩⟩)
end Go.Proofs.YtplgbapbgcipdaaGreat

