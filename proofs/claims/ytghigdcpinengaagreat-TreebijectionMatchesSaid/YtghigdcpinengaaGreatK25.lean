/-
  Texts of this claim, put together: Conf, RCatch, Pile2, PileP, RConf2, FewT, RSets, MadeG, TConn.
-/
import Derived.Test.YtghigdcpinengaaGreatK21
import Derived.Test.YtghigdcpinengaaGreatK18
import Derived.Deep.RegionHeld3
import Derived.Test.YtghigdcpinengaaGreatK22
import Derived.Test.YtghigdcpinengaaGreatK09
import Derived.Test.YtghigdcpinengaaGreatK23
import Derived.Test.YtghigdcpinengaaGreatK06
import Derived.Test.YtghigdcpinengaaGreatK03
import Derived.WalkKit
import Derived.Test.YtghigdcpinengaaGreatK19
import Derived.Test.YtghigdcpinengaaGreatK20
/-! The errors of configurations: stabilize.Check. -/
namespace Go.Proofs.YtghigdcpinengaaGreat
open Go.RowKit

set_option maxHeartbeats 2000000 in
theorem rooted_any (n : Int) (A : Option Addr) (c : Nat) (es : List E3) (hn : es.length ≤ 1048576) (q : Int) (w : World) (h : Reads w w.heap.size 3 A es.length (edgeCells es)) :
    Calls Tryz.prog 113 #[.agg #[.int .i64 n, .slice A es.length c], .int .i64 q] w fun e w' => e = .returned (.int .i64 (rootErr n es q)) ∧ Below w.heap.size w w' := by
  have g0 := Blk.new w 24 #[.int .i64 n, .slice A es.length c]
  rcases root_cases n es q with ⟨h1, hE⟩ | ⟨h1, h2, hE⟩ | ⟨h1, h2, h3, hE⟩ | ⟨h1, h2, h3, hE⟩
  · rw [hE]
    have GC := Lib.hid (connected_bad n A c es hn h1)
    obtain ⟨r, hr⟩ : ∃ r, checkG n es = r := ⟨_, rfl⟩
    rw [hr] at GC h1 ⊢
    have hb : (r != 0) = true := by simpa using h1
    clear hr h1 hE
    go_enter Tryz.func113, Tryz.ntmps113
    go_wp2_with fail
    refine (GC.out _ ((h.alloc (Nat.le_refl _) _).more (by simp))).mono ?_
    rintro e w1 ⟨rfl, hb1⟩
    have hbel1 : Below w.heap.size w w1 := ((Below.refl _ _).alloc (Nat.le_refl _) _).trans (hb1.mono (by simp))
    go_wp2
    go_ret
    exact ⟨rfl, hbel1⟩
  · rw [hE]
    have hG := right_of h1
    have hlo := hG.lo
    obtain ⟨m, rfl⟩ := Int.eq_ofNat_of_zero_le (show 0 ≤ n by omega)
    have CC := Lib.hid (connected_ok m A c es hn h1)
    rw [Int.toNat_natCast] at h2
    rw [h2] at CC
    clear h1 hE hG h2
    go_enter Tryz.func113, Tryz.ntmps113
    go_wp2_with fail
    refine (CC.out _ ((h.alloc (Nat.le_refl _) _).more (by simp))).mono ?_
    rintro e w1 ⟨rfl, hb1⟩
    have hbel1 : Below w.heap.size w w1 := ((Below.refl _ _).alloc (Nat.le_refl _) _).trans (hb1.mono (by simp))
    go_wp2
    go_ret
    exact ⟨rfl, hbel1⟩
  · rw [hE]
    have hG := right_of h1
    have hlo := hG.lo
    obtain ⟨m, rfl⟩ := Int.eq_ofNat_of_zero_le (show 0 ≤ n by omega)
    have CC := Lib.hid (connected_ok m A c es hn h1)
    rw [Int.toNat_natCast] at h2
    rw [h2] at CC
    clear h1 hE hG h2
    rw [vertB_false] at h3
    by_cases h4 : q < 0
    · go_enter Tryz.func113, Tryz.ntmps113
      go_wp2_with fail
      refine (CC.out _ ((h.alloc (Nat.le_refl _) _).more (by simp))).mono ?_
      rintro e w1 ⟨rfl, hb1⟩
      have hbel1 : Below w.heap.size w w1 := ((Below.refl _ _).alloc (Nat.le_refl _) _).trans (hb1.mono (by simp))
      have g1 := g0.next hb1
      have c0 := g1.cell 0
      go_wp2
      go_ret
      exact ⟨rfl, hbel1⟩
    · have h5 : (m : Int) ≤ q := by omega
      clear h3
      go_enter Tryz.func113, Tryz.ntmps113
      go_wp2_with fail
      refine (CC.out _ ((h.alloc (Nat.le_refl _) _).more (by simp))).mono ?_
      rintro e w1 ⟨rfl, hb1⟩
      have hbel1 : Below w.heap.size w w1 := ((Below.refl _ _).alloc (Nat.le_refl _) _).trans (hb1.mono (by simp))
      have g1 := g0.next hb1
      have c0 := g1.cell 0
      go_wp2
      go_ret
      exact ⟨rfl, hbel1⟩
  · rw [hE]
    have hG := right_of h1
    have hlo := hG.lo
    obtain ⟨m, rfl⟩ := Int.eq_ofNat_of_zero_le (show 0 ≤ n by omega)
    have CC := Lib.hid (connected_ok m A c es hn h1)
    rw [Int.toNat_natCast] at h2
    rw [h2] at CC
    clear h1 hE hG h2
    rw [vertB_true] at h3
    have h4 : ¬ q < 0 := by omega
    have h5 : ¬ (m : Int) ≤ q := by omega
    clear h3
    go_enter Tryz.func113, Tryz.ntmps113
    go_wp2_with fail
    refine (CC.out _ ((h.alloc (Nat.le_refl _) _).more (by simp))).mono ?_
    rintro e w1 ⟨rfl, hb1⟩
    have hbel1 : Below w.heap.size w w1 := ((Below.refl _ _).alloc (Nat.le_refl _) _).trans (hb1.mono (by simp))
    have g1 := g0.next hb1
    have c0 := g1.cell 0
    go_wp2
    go_ret
    exact ⟨rfl, hbel1⟩

set_option maxRecDepth 100000 in
set_option maxHeartbeats 4000000 in
theorem scheck_any (n : Int) (A : Option Addr) (c : Nat) (es : List E3) (hn : es.length ≤ 1048576) (q : Int) (B : Option Addr) (d : Nat) (cs : List Int) (hm : cs.length ≤ 1048576) (w : World) (h : Reads w w.heap.size 3 A es.length (edgeCells es)) (h' : Reads w w.heap.size 1 B cs.length (ints cs)) :
    Calls Tryz.prog 144 #[.agg #[.int .i64 n, .slice A es.length c], .int .i64 q, .slice B cs.length d] w fun e w' => e = .returned (.int .i64 (confErr n es q cs)) ∧ Below w.heap.size w w' := by
  have GC := Lib.hid (rooted_any n A c es hn q)
  have DC := Lib.hid (dcheck_any B d cs hm n)
  have g0 := Blk.new w 24 #[.int .i64 n, .slice A es.length c]
  rcases conf_cases n es q cs with ⟨h1, hE⟩ | ⟨h1, h2, hE⟩ | ⟨h1, h2, hE⟩
  · rw [hE]
    obtain ⟨r, hr⟩ : ∃ r, rootErr n es q = r := ⟨_, rfl⟩
    rw [hr] at GC h1 ⊢
    have hb : (r != 0) = true := by simpa using h1
    clear hr h1 hE
    go_enter Tryz.func144, Tryz.ntmps144
    go_wp2_with fail
    refine (GC.out _ ((h.alloc (Nat.le_refl _) _).more (by simp))).mono ?_
    rintro e w1 ⟨rfl, hb1⟩
    have hbel1 : Below w.heap.size w w1 := ((Below.refl _ _).alloc (Nat.le_refl _) _).trans (hb1.mono (by simp))
    go_wp2
    go_ret
    exact ⟨rfl, hbel1⟩
  · rw [hE]
    rw [h1] at GC
    obtain ⟨r, hr⟩ : ∃ r, divErr cs n = r := ⟨_, rfl⟩
    rw [hr] at DC h2 ⊢
    have hb : (r != 0) = true := by simpa using h2
    clear hr h1 hE h2
    go_enter Tryz.func144, Tryz.ntmps144
    go_wp2_with fail
    refine (GC.out _ ((h.alloc (Nat.le_refl _) _).more (by simp))).mono ?_
    rintro e w1 ⟨rfl, hb1⟩
    have hbel1 : Below w.heap.size w w1 := ((Below.refl _ _).alloc (Nat.le_refl _) _).trans (hb1.mono (by simp))
    have g1 := g0.next hb1
    have c0 := g1.cell 0
    go_wp2_with fail
    refine (DC.out _ ((h'.below hbel1).more hbel1.size)).mono ?_
    rintro e w2 ⟨rfl, rfl⟩
    go_wp2
    go_ret
    exact ⟨rfl, hbel1⟩
  · rw [hE]
    rw [h1] at GC
    rw [h2] at DC
    obtain ⟨r, hr⟩ : ∃ r, (if debtTo cs q cs.length then (2 : Int) else 0) = r := ⟨_, rfl⟩
    rw [hr]
    have HR := Lib.hid hr
    have hlen := (divErr_zero h2).2.1
    have hlen2 := (divErr_zero h2).2.2.1
    clear hr h1 hE h2
    go_enter Tryz.func144, Tryz.ntmps144
    go_wp2_with fail
    refine (GC.out _ ((h.alloc (Nat.le_refl _) _).more (by simp))).mono ?_
    rintro e w1 ⟨rfl, hb1⟩
    have hbel1 : Below w.heap.size w w1 := ((Below.refl _ _).alloc (Nat.le_refl _) _).trans (hb1.mono (by simp))
    have g1 := g0.next hb1
    have c0 := g1.cell 0
    have hr1 := (h'.below hbel1).more hbel1.size
    have HL := Lib.hid hlen2
    clear hlen2
    go_wp2_with fail
    refine (DC.out _ hr1).mono ?_
    rintro e w2 ⟨rfl, rfl⟩
    go_wp2
    go_loop [26] (fun i => ∃ k : Nat, k ≤ cs.length ∧ i = .int .i64 k ∧ Hid (debtTo cs q k = false)) (fun i => cs.length - (intOf i).toNat)
    case atStart => exact ⟨0, by omega, rfl, by simp [Hid, debtTo]⟩
    case round =>
      obtain ⟨k, hk, rfl, HS⟩ := hrel
      by_cases hlt : k < cs.length
      · obtain ⟨x, hx⟩ := get_of_lt hlt
        obtain ⟨b, off, rfl, hb', hcell⟩ := hr1.at_ (ints_at hx)
        have hi : (k : Int) < (cs.length : Int) := by omega
        have hds := debtTo_succ cs q k
        rw [HS.out, getD_at hx] at hds
        have hkn : ∀ z, debtTo cs q (k + 1) = z → (z = true → r = 2) ∧ (z = false → Hid (debtTo cs q (k + 1) = false)) := fun z hz => ⟨fun e => by rw [← HR.out, if_pos (debtTo_mono (by omega) (hz.trans e))], fun e => hz.trans e⟩
        have HK := Lib.hid hkn
        clear hx h h' hkn
        by_cases h3 : (k : Int) = q
        · have hb : ((k : Int) != q) = false := by simpa using h3
          have HN := (HK.out _ hds).2 (by simp [h3])
          clear hds HK h3
          go_wp2
          go_round
          case rel => exact ⟨k + 1, by omega, by go_num, HN⟩
          case measure => simp [intOf]; omega
        · have hb : ((k : Int) != q) = true := by simpa using h3
          by_cases h4 : x < 0
          · obtain rfl := (HK.out _ hds).1 (by simp [h3, h4])
            clear hds HK h3
            go_wp2
            go_ret
            exact ⟨rfl, hbel1⟩
          · have HN := (HK.out _ hds).2 (by simp [h4])
            clear hds HK h3
            go_wp2
            go_round
            case rel => exact ⟨k + 1, by omega, by go_num, HN⟩
            case measure => simp [intOf]; omega
      · obtain rfl : k = cs.length := by omega
        go_wp2
        go_ret
        exact ⟨ret_int (by rw [← HR.out, HS.out]; rfl), hbel1⟩
end Go.Proofs.YtghigdcpinengaaGreat

/-! burning.check. -/
namespace Go.Proofs.YtghigdcpinengaaGreat
open Go.RowKit

set_option maxRecDepth 100000 in
set_option maxHeartbeats 2000000 in
theorem bcheck_any (n : Int) (A : Option Addr) (c : Nat) (es : List E3) (hn : es.length ≤ 1048576) (q : Int) (B : Option Addr) (d : Nat) (cs : List Int) (hm : cs.length ≤ 1048576) (w : World) (h : Reads w w.heap.size 3 A es.length (edgeCells es)) (h' : Reads w w.heap.size 1 B cs.length (ints cs)) :
    Calls Tryz.prog 135 #[.agg #[.int .i64 n, .slice A es.length c], .int .i64 q, .slice B cs.length d] w fun e w' => e = .returned (.int .i64 (burnErr n es q cs)) ∧ Below w.heap.size w w' := by
  have GC := Lib.hid (scheck_any n A c es hn q B d cs hm)
  rcases burn_cases n es q cs with ⟨h1, hE⟩ | ⟨h1, h2, hE⟩ | ⟨h1, h2, hE⟩
  · rw [hE]
    obtain ⟨r, hr⟩ : ∃ r, confErr n es q cs = r := ⟨_, rfl⟩
    rw [hr] at GC h1 ⊢
    have hb : (r != 0) = true := by simpa using h1
    clear hr h1 hE
    go_enter Tryz.func135, Tryz.ntmps135
    go_wp2_with fail
    refine (GC.out _ ((h.alloc (Nat.le_refl _) _).more (by simp)) ((h'.alloc (Nat.le_refl _) _).more (by simp))).mono ?_
    rintro e w1 ⟨rfl, hb1⟩
    have hbel1 : Below w.heap.size w w1 := ((Below.refl _ _).alloc (Nat.le_refl _) _).trans (hb1.mono (by simp))
    go_wp2
    go_ret
    exact ⟨rfl, hbel1⟩
  all_goals
    rw [hE]
    obtain ⟨_, _, hq0, hqn, hlen, _, _⟩ := conf_zero h1
    obtain ⟨v, rfl⟩ := Int.eq_ofNat_of_zero_le hq0
    rw [Int.toNat_natCast] at h2
    obtain ⟨x, hx⟩ := get_of_lt (xs := cs) (k := v) (by omega)
    rw [getD_at hx] at h2
    rw [h1] at GC
    have hi : (v : Int) < (cs.length : Int) := by omega
    have HX := Lib.hid hx
    clear h1 hE hx hlen
    go_enter Tryz.func135, Tryz.ntmps135
    go_wp2_with fail
    refine (GC.out _ ((h.alloc (Nat.le_refl _) _).more (by simp)) ((h'.alloc (Nat.le_refl _) _).more (by simp))).mono ?_
    rintro e w1 ⟨rfl, hb1⟩
    have hbel1 : Below w.heap.size w w1 := ((Below.refl _ _).alloc (Nat.le_refl _) _).trans (hb1.mono (by simp))
    obtain ⟨b, off, rfl, hb', hcell⟩ := (h'.below hbel1).at_ (ints_at HX.out)
    first
      | (have hb0 : (x != 0) = true := by simpa using h2
         clear h2
         go_wp2
         go_ret
         exact ⟨rfl, hbel1⟩)
      | (subst h2
         go_wp2
         go_ret
         exact ⟨rfl, hbel1⟩)
end Go.Proofs.YtghigdcpinengaaGreat

/-! Package recurrent: catches, stable. -/
namespace Go.Proofs.YtghigdcpinengaaGreat
open Go.RowKit

/-- Is no vertex below k but the sink unstable? -/
def stabTo (es : List E3) (cs : List Int) (q : Nat) (k : Nat) : Bool := (List.range k).all fun v => decide (v = q) || decide (cs.getD v 0 < valE es v)
end Go.Proofs.YtghigdcpinengaaGreat

/-! Package stabilize: wait; pileOf. -/
namespace Go.Proofs.YtghigdcpinengaaGreat
open Go.RowKit

set_option maxHeartbeats 2000000 in
theorem wait_any (base bp n : Nat) (hn : n ≤ 12) (a : PA) (d : List Int) (q : Int) (rows : List (List Int)) (val fired : List Int) (total : Int) (ws : List Bool) (v : Nat) (hv : v < n) (w : World) (h : PileW w base bp n a d q rows val fired total ws) :
    Calls Tryz.prog 132 #[.pointer (some ⟨bp, 0, none⟩), .int .i64 v] w fun e w' => (∃ v, e = .returned v) ∧ PileW w' base bp n a d q rows val fired total (ws.set v (unst q d val v)) ∧ Only (fun k => k = bp) w w' := by
  have HU := Lib.hid (fun m => unstable_any base bp n a d q rows val fired total ws v hv _ (h.drewN m))
  have HP := Lib.hid h
  obtain ⟨b0, hb0⟩ := get_of_lt (xs := ws) (k := v) (by have := h.wl; omega)
  have hfz := h.blk.frozen (6 + v)
  have hce : w.cell? ⟨bp, 6 + v, none⟩ = some (.bool b0) := (h.blk.cell (6 + v)).trans (by rw [Nat.add_comm]; simp [pileCells, hb0])
  have hi : (v : Int) < 12 := by omega
  clear h
  go_enter Tryz.func132, Tryz.ntmps132
  go_wp2
  go_region_with (go_at_call 152; refine (HU.out 1).mono ?_; rintro e w1 ⟨rfl, m, rfl⟩)
  all_goals
    go_wp2
    exact bodyPost_end (results_none rfl _ _ _) rfl ⟨⟨_, rfl⟩, (HP.out.drewN _).setW v _, ((Only.refl (fun k => k = bp) w).drewN _).setCell (p := ⟨bp, 6 + v, none⟩) (.inl rfl) _⟩
end Go.Proofs.YtghigdcpinengaaGreat

/-! What pileOf lays down: the table of single edges, the valences, the unstable vertices. -/
namespace Go.Proofs.YtghigdcpinengaaGreat
open Go.RowKit

def incE (xs : List Int) (i : Nat) : List Int := xs.set i (xs.getD i 0 + 1)
def incR (rows : List (List Int)) (a b : Nat) : List (List Int) := rows.set a (incE (rows.getD a []) b)
def edgeR (rows : List (List Int)) (p : Nat × Nat) : List (List Int) := if p.1 = p.2 then rows else incR (incR rows p.1 p.2) p.2 p.1
def edgeV (val : List Int) (p : Nat × Nat) : List Int := if p.1 = p.2 then val else incE (incE val p.1) p.2
def rowsL (n : Nat) (ps : List (Nat × Nat)) : List (List Int) := ps.foldl edgeR (List.replicate n (List.replicate n 0))
def valL (n : Nat) (ps : List (Nat × Nat)) : List Int := ps.foldl edgeV (List.replicate n 0)
def waitL (k : Nat) (q : Int) (d val : List Int) : List Bool := (List.range 12).map fun v => decide (v < k) && unst q d val v
theorem rowsL_snoc (n : Nat) {ps : List (Nat × Nat)} {k : Nat} {p : Nat × Nat} (h : ps[k]? = some p) : rowsL n (ps.take (k + 1)) = edgeR (rowsL n (ps.take k)) p := by rw [take_snoc h]; simp [rowsL]
theorem valL_snoc (n : Nat) {ps : List (Nat × Nat)} {k : Nat} {p : Nat × Nat} (h : ps[k]? = some p) : valL n (ps.take (k + 1)) = edgeV (valL n (ps.take k)) p := by rw [take_snoc h]; simp [valL]
theorem incE_length (xs : List Int) (i : Nat) : (incE xs i).length = xs.length := by simp [incE]
/-- Bounds of a table. -/
def TabBd (n : Nat) (K : Int) (rows : List (List Int)) : Prop := rows.length = n ∧ ∀ r ∈ rows, r.length = n ∧ ∀ x ∈ r, 0 ≤ x ∧ x ≤ K
def ValBd (n : Nat) (K : Int) (val : List Int) : Prop := val.length = n ∧ ∀ x ∈ val, 0 ≤ x ∧ x ≤ K
theorem ValBd.inc {n : Nat} {K : Int} {xs : List Int} (h : ValBd n K xs) (hK : 0 ≤ K) (i : Nat) : ValBd n (K + 1) (incE xs i) := by
  refine ⟨by rw [incE_length]; exact h.1, fun x hx => ?_⟩
  unfold incE at hx
  rcases List.mem_or_eq_of_mem_set hx with hx | rfl
  · have := h.2 x hx; omega
  · by_cases hi : i < xs.length
    · rw [List.getD_eq_getElem?_getD, List.getElem?_eq_getElem hi, Option.getD_some]
      have := h.2 _ (List.getElem_mem hi); omega
    · rw [List.getD_eq_getElem?_getD, List.getElem?_eq_none (by omega), Option.getD_none]; omega
theorem TabBd.inc {n : Nat} {K : Int} {rows : List (List Int)} (h : TabBd n K rows) (hK : 0 ≤ K) {a : Nat} (ha : a < n) (b : Nat) : TabBd n (K + 1) (incR rows a b) := by
  refine ⟨by unfold incR; rw [List.length_set]; exact h.1, fun r hr => ?_⟩
  unfold incR at hr
  rcases List.mem_or_eq_of_mem_set hr with hr | rfl
  · have := h.2 r hr
    exact ⟨this.1, fun x hx => by have := this.2 x hx; omega⟩
  · have hi : a < rows.length := by rw [h.1]; exact ha
    rw [List.getD_eq_getElem?_getD, List.getElem?_eq_getElem hi, Option.getD_some]
    exact ValBd.inc (h.2 _ (List.getElem_mem hi)) hK b
theorem edgeV_bd {n : Nat} {K : Int} {xs : List Int} (h : ValBd n K xs) (hK : 0 ≤ K) (p : Nat × Nat) : ValBd n (K + 2) (edgeV xs p) := by
  unfold edgeV
  split
  · exact ⟨h.1, fun x hx => by have := h.2 x hx; omega⟩
  · have := (h.inc hK p.1).inc (by omega) p.2
    exact ⟨this.1, fun x hx => by have := this.2 x hx; omega⟩
theorem edgeR_bd {n : Nat} {K : Int} {rows : List (List Int)} (h : TabBd n K rows) (hK : 0 ≤ K) {p : Nat × Nat} (h1 : p.1 < n) (h2 : p.2 < n) : TabBd n (K + 2) (edgeR rows p) := by
  unfold edgeR
  split
  · exact ⟨h.1, fun r hr => ⟨(h.2 r hr).1, fun x hx => by have := (h.2 r hr).2 x hx; omega⟩⟩
  · have := (h.inc hK h1 p.2).inc (by omega) h2 p.1
    exact ⟨this.1, fun r hr => ⟨(this.2 r hr).1, fun x hx => by have := (this.2 r hr).2 x hx; omega⟩⟩
theorem rep_bd (n : Nat) : ValBd n 0 (List.replicate n 0) := ⟨by simp, fun x hx => by rw [(List.mem_replicate.1 hx).2]; omega⟩
theorem valL_bd (n : Nat) (ps : List (Nat × Nat)) : ValBd n (2 * ps.length) (valL n ps) := by
  suffices h : ∀ (ps : List (Nat × Nat)) (K : Int) (xs : List Int), 0 ≤ K → ValBd n K xs → ValBd n (K + 2 * ps.length) (ps.foldl edgeV xs) by
    have := h ps 0 _ (Int.le_refl _) (rep_bd n)
    rwa [Int.zero_add] at this
  intro ps
  induction ps with
  | nil => intro K xs hK h; simpa using h
  | cons p ps ih =>
    intro K xs hK h
    have := ih (K + 2) _ (by omega) (edgeV_bd h hK p)
    rw [List.foldl_cons, List.length_cons]
    rwa [show K + 2 + 2 * (ps.length : Int) = K + 2 * ((ps.length + 1 : Nat) : Int) by omega] at this
theorem rowsL_bd (n : Nat) (ps : List (Nat × Nat)) (hp : ∀ p ∈ ps, p.1 < n ∧ p.2 < n) : TabBd n (2 * ps.length) (rowsL n ps) := by
  suffices h : ∀ (ps : List (Nat × Nat)) (K : Int) (xs : List (List Int)), (∀ p ∈ ps, p.1 < n ∧ p.2 < n) → 0 ≤ K → TabBd n K xs → TabBd n (K + 2 * ps.length) (ps.foldl edgeR xs) by
    have := h ps 0 (List.replicate n (List.replicate n 0)) hp (Int.le_refl _) ⟨by simp, fun r hr => by rw [(List.mem_replicate.1 hr).2]; exact rep_bd n⟩
    rwa [Int.zero_add] at this
  intro ps
  induction ps with
  | nil => intro K xs _ hK h; simpa using h
  | cons p ps ih =>
    intro K xs hp hK h
    have := ih (K + 2) _ (fun x hx => hp x (List.mem_cons_of_mem _ hx)) (by omega) (edgeR_bd h hK (hp p (List.mem_cons_self ..)).1 (hp p (List.mem_cons_self ..)).2)
    rw [List.foldl_cons, List.length_cons]
    rwa [show K + 2 + 2 * (ps.length : Int) = K + 2 * ((ps.length + 1 : Nat) : Int) by omega] at this
theorem endsL_ok {n : Nat} {es : List E3} (hok : ∀ e ∈ es, okE n e) : ∀ p ∈ endsL es, p.1 < n ∧ p.2 < n := by
  intro p hp
  unfold endsL at hp
  rw [List.mem_flatMap] at hp
  obtain ⟨e, he, hp⟩ := hp
  have h := hok e he
  unfold okE at h
  rw [(List.mem_replicate.1 hp).2]
  dsimp only
  omega
theorem waitL_succ (k : Nat) (hk : k < 12) (q : Int) (d val : List Int) : (waitL k q d val).set k (unst q d val k) = waitL (k + 1) q d val := by
  apply List.ext_getElem?
  intro i
  unfold waitL
  by_cases hi : i = k
  · subst hi
    rw [List.getElem?_set_self (by simp; exact hk)]
    simp [hk]
  · rw [List.getElem?_set_ne (fun e => hi e.symm), List.getElem?_map, List.getElem?_map]
    by_cases h12 : i < 12
    · rw [List.getElem?_range h12]
      simp only [Option.map_some]
      rw [show decide (i < k) = decide (i < k + 1) by rw [decide_eq_decide]; omega]
    · rw [List.getElem?_eq_none (by simp; omega)]; rfl
theorem waitL_zero (q : Int) (d val : List Int) : waitL 0 q d val = List.replicate 12 false := by
  unfold waitL
  simp [List.range_succ]
end Go.Proofs.YtghigdcpinengaaGreat

/-! ref19.Check and ref23.Check. -/
namespace Go.Proofs.YtghigdcpinengaaGreat
open Go.RowKit

end Go.Proofs.YtghigdcpinengaaGreat

/-! ref08.FewTrees, ref13.FewTrees. -/
namespace Go.Proofs.YtghigdcpinengaaGreat
open Go.RowKit

set_option maxHeartbeats 1000000 in
theorem rfewtrees_any (n : Int) (A : Option Addr) (c : Nat) (es : List E3) (w : World) (h : Reads w w.heap.size 3 A es.length (edgeCells es)) :
    Calls Tryz.prog 11 #[.agg #[.int .i64 n, .slice A es.length c]] w fun e w' => e = .returned (.bool (smallB n es 5 8)) ∧ Below w.heap.size w w' := by
  have SC := Lib.hid (rsmall_any n A c es 5 8)
  go_enter Tryz.func11, Tryz.ntmps11
  go_wp2_with fail
  refine (SC.out _ ((h.alloc (Nat.le_refl _) _).more (by simp))).mono ?_
  rintro e w1 ⟨rfl, hb1⟩
  have hbel1 : Below w.heap.size w w1 := ((Below.refl _ _).alloc (Nat.le_refl _) _).trans (hb1.mono (by simp))
  go_wp2
  go_ret
  exact ⟨rfl, hbel1⟩
end Go.Proofs.YtghigdcpinengaaGreat

/-! ref23.members and Subsets: all sets of vertices. -/
namespace Go.Proofs.YtghigdcpinengaaGreat
open Go.RowKit

end Go.Proofs.YtghigdcpinengaaGreat

/-! The graph of a list of single edges: it is right, and connects what they connect. -/
namespace Go.Proofs.YtghigdcpinengaaGreat
open Go.RowKit

end Go.Proofs.YtghigdcpinengaaGreat

/-! Package tree: connects. -/
namespace Go.Proofs.YtghigdcpinengaaGreat
open Go.RowKit

theorem rootsR_succ (r : Nat → Nat) (k : Nat) : ((List.range (k + 1)).filter fun v => decide (r v = v)).length = ((List.range k).filter fun v => decide (r v = v)).length + if r k = k then 1 else 0 := by
  rw [List.range_succ, List.filter_append, List.length_append]
  congr 1
  by_cases h : r k = k
  · rw [if_pos h, List.filter_cons, decide_eq_true h]; rfl
  · rw [if_neg h, List.filter_cons, decide_eq_false h]; rfl

set_option maxRecDepth 100000 in
set_option maxHeartbeats 8000000 in
theorem connects12 (n : Nat) (hn1 : 1 ≤ n) (hn : n ≤ 12) (a0 a1 a2 a3 a4 a5 a6 a7 a8 a9 a10 a11 : Nat) (ps : List (Nat × Nat)) (hF : FR ps [a0, a1, a2, a3, a4, a5, a6, a7, a8, a9, a10, a11]) (hps : BdP n ps) (ms : List (Nat × Nat)) (hms : BdP n ms) (hml : ms.length ≤ 1000000) (Ar : Option Addr) (cr : Nat) (w : World) (h : Reads w w.heap.size 2 Ar ms.length (pair2 ms)) :
    Calls Tryz.prog 109 #[.int .i64 n, .agg #[.int .i64 a0, .int .i64 a1, .int .i64 a2, .int .i64 a3, .int .i64 a4, .int .i64 a5, .int .i64 a6, .int .i64 a7, .int .i64 a8, .int .i64 a9, .int .i64 a10, .int .i64 a11], .slice Ar ms.length cr] w fun e w' => e = .returned (.bool (decide (partsP n (ps ++ ms) = 1))) ∧ Below w.heap.size w w' := by
  have g0 : Blk (w.alloc (.cells #[.int .i64 a0, .int .i64 a1, .int .i64 a2, .int .i64 a3, .int .i64 a4, .int .i64 a5, .int .i64 a6, .int .i64 a7, .int .i64 a8, .int .i64 a9, .int .i64 a10, .int .i64 a11] 138)) w.heap.size 138 (fcells [a0, a1, a2, a3, a4, a5, a6, a7, a8, a9, a10, a11]) := Blk.new w _ _
  have hb0 : Below w.heap.size w (w.alloc (.cells #[.int .i64 a0, .int .i64 a1, .int .i64 a2, .int .i64 a3, .int .i64 a4, .int .i64 a5, .int .i64 a6, .int .i64 a7, .int .i64 a8, .int .i64 a9, .int .i64 a10, .int .i64 a11] 138)) := (Below.refl _ _).alloc (Nat.le_refl _) _
  obtain ⟨W0, hW0⟩ : ∃ W0, w.alloc (.cells #[.int .i64 a0, .int .i64 a1, .int .i64 a2, .int .i64 a3, .int .i64 a4, .int .i64 a5, .int .i64 a6, .int .i64 a7, .int .i64 a8, .int .i64 a9, .int .i64 a10, .int .i64 a11] 138) = W0 := ⟨_, rfl⟩
  rw [hW0] at g0 hb0
  obtain ⟨f, hf⟩ : ∃ f, [a0, a1, a2, a3, a4, a5, a6, a7, a8, a9, a10, a11] = f := ⟨_, rfl⟩
  rw [hf] at g0 hF
  obtain ⟨r, hh, hrp⟩ := hF
  have RC := Lib.hid (fun v hv W hW => troot_any w.heap.size ps f r hh hrp v hv W hW)
  have HRP := Lib.hid hrp
  have HMS := Lib.hid hms
  have HCN := Lib.hid (hrp.cnt n hn hps)
  have HP0 : Hid (∀ k, k ≤ n → ((List.range k).filter fun v => decide (r v = v)).length ≤ k) := fun k _ => Nat.le_trans (List.length_filter_le _ _) (by simp)
  have HPL : Hid (∀ qs, partsP n qs ≤ 12) := fun qs => by show (List.filter _ _).length ≤ 12; exact Nat.le_trans (List.length_filter_le _ _) (by simpa using hn)
  have HPP : Hid (∀ qs, 1 ≤ partsP n qs) := fun qs => partsP_pos (by omega)
  obtain ⟨res, hres⟩ : ∃ res, decide (partsP n (ps ++ ms) = 1) = res := ⟨_, rfl⟩
  have HRES := Lib.hid hres
  rw [hres]
  have HW0 := Lib.hid hW0
  clear hrp hms hps hf hW0 hres
  go_enter Tryz.func109, Tryz.ntmps109
  go_wp2_with fail
  try rw [HW0.out]
  go_loopw [7, 8, 12] (fun p _ i wr => ∃ k : Nat, k ≤ n ∧ i = .int .i64 k ∧ p = .int .i64 ((((List.range k).filter fun v => decide (r v = v)).length : Nat) : Int) ∧ W0 = wr) (fun _ _ i _ => n - (intOf i).toNat)
  case atStart => exact ⟨0, by omega, rfl, rfl, rfl⟩
  case round =>
    obtain ⟨k, hk, rfl, rfl, rfl⟩ := hrel
    by_cases hlt : k < n
    · have hi : (k : Int) < (n : Int) := by omega
      have hs := rootsR_succ r k
      have hp0 := HP0.out k hk
      obtain ⟨P, hP⟩ : ∃ P, ((List.range k).filter fun v => decide (r v = v)).length = P := ⟨_, rfl⟩
      rw [hP] at hs hp0 ⊢
      have HS := Lib.hid hs
      have RK := Lib.hid (RC.out k (by omega) W0 g0)
      have hwk : IntKind.i64.wrap ((P : Int) + 1) = (P : Int) + 1 := IntWalk.i64_in _ (by omega)
      clear hP hs
      by_cases hrk : r k = k
      · rw [hrk] at RK
        have hq : ((k : Int) == (k : Int)) = true := by simp
        have hn1 := HS.out
        rw [if_pos hrk] at hn1
        have HN := Lib.hid hn1
        clear hrk hn1
        go_wp2_with (go_at_call 130; (with_reducible refine (RK.out).mono ?_); rintro e w5 ⟨rfl, rfl⟩)
        go_roundw
        case rel => exact ⟨k + 1, by omega, by go_num, by rw [HN.out]; go_num, trivial⟩
        case measure => simp [intOf]; omega
      · obtain ⟨x, hx⟩ : ∃ x, r k = x := ⟨_, rfl⟩
        rw [hx] at RK hrk
        have hq : ((x : Int) == (k : Int)) = false := by simp; omega
        have hn1 := HS.out
        rw [if_neg (by rw [hx]; exact hrk)] at hn1
        have HN := Lib.hid hn1
        clear hrk hn1 hx
        go_wp2_with (go_at_call 130; (with_reducible refine (RK.out).mono ?_); rintro e w5 ⟨rfl, rfl⟩)
        go_roundw
        case rel => exact ⟨k + 1, by omega, by go_num, by rw [HN.out]; rfl, trivial⟩
        case measure => simp [intOf]; omega
    · obtain rfl : k = n := by omega
      rw [HCN.out]
      have hgl := g0.lt
      clear hlt
      go_wp2_with fail
      go_loopw [7, 10, 24] (fun p _ i wr => ∃ (j : Nat) (f' : List Nat), j ≤ ms.length ∧ i = .int .i64 j ∧ p = .int .i64 ((partsP k (ps ++ ms.take j) : Nat) : Int) ∧ Hid (FR (ps ++ ms.take j) f') ∧ Hid (Blk wr w.heap.size 138 (fcells f')) ∧ Hid (Below w.heap.size w wr)) (fun _ _ i _ => ms.length - (intOf i).toNat)
      case atStart => exact ⟨0, f, by omega, rfl, by rw [List.take_zero, List.append_nil], by rw [List.take_zero, List.append_nil]; exact ⟨r, hh, HRP.out⟩, g0, hb0⟩
      case round =>
        obtain ⟨j, f', hj, rfl, rfl, HF, HB, HW⟩ := hrel
        clear g0 hb0
        have hwz := HW.out.size
        by_cases hlt : j < ms.length
        · obtain ⟨⟨a, b⟩, hx⟩ := get_of_lt hlt
          have hab := HMS.out _ (List.mem_of_getElem? hx)
          dsimp only at hab
          have hi : (j : Int) < (ms.length : Int) := by omega
          obtain ⟨bA, oA, hA, hbA, q0, q1⟩ := (h.below HW.out).pairAt hx
          subst hA
          have B0 := HB.out.alloc (.cells #[.int .i64 a, .int .i64 b] 63)
          have JC := Lib.hid (tjoin_any w.heap.size (ps ++ ms.take j) f' HF.out a b (by omega) (by omega) _ B0)
          have ht := take_snoc hx
          have hpn : partsP k (ps ++ ms.take (j + 1)) + (if Cn (ps ++ ms.take j) a b then 0 else 1) = partsP k (ps ++ ms.take j) := by
            rw [ht, ← List.append_assoc]
            have hmm : ∀ p, p ∈ ps ++ ms.take j ++ [(a, b)] ↔ p ∈ (a, b) :: (ps ++ ms.take j) := fun p => by simp [or_comm, or_assoc]
            rw [partsP_congr fun _ _ => cn_same hmm]
            by_cases hc : Cn (ps ++ ms.take j) a b
            · rw [if_pos hc, partsP_in (p := (a, b)) hc]; rfl
            · rw [if_neg hc]; exact partsP_out (p := (a, b)) hab.1 hab.2 hc
          have hp1 := HPP.out (ps ++ ms.take (j + 1))
          have hp12 := HPL.out (ps ++ ms.take j)
          have HBA : Hid (Below w.heap.size w (wr.alloc (.cells #[.int .i64 a, .int .i64 b] 63))) := HW.out.alloc hwz _
          obtain ⟨P, hP⟩ : ∃ P, partsP k (ps ++ ms.take j) = P := ⟨_, rfl⟩
          obtain ⟨P', hP'⟩ : ∃ P', partsP k (ps ++ ms.take (j + 1)) = P' := ⟨_, rfl⟩
          rw [hP, hP'] at hpn
          rw [hP'] at hp1
          rw [hP] at hp12 ⊢
          have HT := Lib.hid ht
          have HP' := Lib.hid hP'
          have qb := Blk.new wr 63 #[.int .i64 a, .int .i64 b]
          have k0 := qb.cell 0
          have k1 := qb.cell 1
          clear hx hP hP' ht qb
          by_cases hc : Cn (ps ++ ms.take j) a b
          · rw [decide_eq_true hc] at JC
            rw [if_pos hc] at hpn
            have HN := Lib.hid hpn
            clear hc hpn
            go_wp2_with (go_at_call 105; (with_reducible refine (JC.out).mono ?_); rintro e w5 ⟨rfl, f'', HF', HB', ho⟩)
            have HW5 := Lib.hid (HBA.out.trans (ho.below (fun j hj e => by omega) HBA.out.size))
            go_roundw
            case rel => exact ⟨j + 1, f'', by omega, by go_num, by have := HN.out; rw [HP'.out]; congr 1; omega, by rw [Hid, HT.out, ← List.append_assoc]; exact HF'.out, HB', HW5⟩
            case measure => simp [intOf]; omega
          · rw [decide_eq_false hc] at JC
            rw [if_neg hc] at hpn
            have hwp : IntKind.i64.wrap ((P : Int) - 1) = (P : Int) - 1 := IntWalk.i64_in _ (by omega)
            have HN := Lib.hid hpn
            clear hc hpn
            go_wp2_with (go_at_call 105; (with_reducible refine (JC.out).mono ?_); rintro e w5 ⟨rfl, f'', HF', HB', ho⟩)
            have HW5 := Lib.hid (HBA.out.trans (ho.below (fun j hj e => by omega) HBA.out.size))
            go_roundw
            case rel => exact ⟨j + 1, f'', by omega, by go_num, by have := HN.out; rw [HP'.out]; congr 1; omega, by rw [Hid, HT.out, ← List.append_assoc]; exact HF'.out, HB', HW5⟩
            case measure => simp [intOf]; omega
        · obtain rfl : j = ms.length := by omega
          rw [List.take_length] at HF ⊢
          have HI : Hid ((((partsP k (ps ++ ms) : Nat) : Int) == 1) = res) := by
            rw [Hid, ← HRES.out, Bool.eq_iff_iff]; simp; omega
          obtain ⟨P, hP⟩ : ∃ P, partsP k (ps ++ ms) = P := ⟨_, rfl⟩
          rw [hP] at HI ⊢
          clear hP hlt
          go_wp2
          go_ret
          exact ⟨ret_bool HI.out, HW.out⟩
end Go.Proofs.YtghigdcpinengaaGreat

