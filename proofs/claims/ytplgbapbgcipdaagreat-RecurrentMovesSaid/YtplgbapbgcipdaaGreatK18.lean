/-
  Texts of this claim, put together: Conf, Pile2, PileP, RFew, RBurn2.
-/
import Derived.Test.YtplgbapbgcipdaaGreatK15
import Derived.Test.YtplgbapbgcipdaaGreatK11
import Derived.Test.YtplgbapbgcipdaaGreatK16
import Derived.Test.YtplgbapbgcipdaaGreatK09
import Derived.Deep.RegionHeld3
/-! The errors of configurations: stabilize.Check. -/
namespace Go.Proofs.YtplgbapbgcipdaaGreat
open Go.RowKit

set_option maxHeartbeats 2000000 in
theorem rooted_any (n : Int) (A : Option Addr) (c : Nat) (es : List E3) (hn : es.length ≤ 1048576) (q : Int) (w : World) (h : Reads w w.heap.size 3 A es.length (edgeCells es)) :
    Calls Tryz.prog 78 #[.agg #[.int .i64 n, .slice A es.length c], .int .i64 q] w fun e w' => e = .returned (.int .i64 (rootErr n es q)) ∧ Below w.heap.size w w' := by
  have g0 := Blk.new w 24 #[.int .i64 n, .slice A es.length c]
  rcases root_cases n es q with ⟨h1, hE⟩ | ⟨h1, h2, hE⟩ | ⟨h1, h2, h3, hE⟩ | ⟨h1, h2, h3, hE⟩
  · rw [hE]
    have GC := Lib.hid (connected_bad n A c es hn h1)
    obtain ⟨r, hr⟩ : ∃ r, checkG n es = r := ⟨_, rfl⟩
    rw [hr] at GC h1 ⊢
    have hb : (r != 0) = true := by simpa using h1
    clear hr h1 hE
    go_enter Tryz.func78, Tryz.ntmps78
    go_wp2_with fail
    refine (GC.out _ ((h.alloc (Nat.le_refl _) _).more (by simp))).mono ?_
    rintro e w1 ⟨rfl, hb1⟩
    have hbel1 : Below w.heap.size w w1 := ((Below.refl _ _).alloc (Nat.le_refl _) _).trans (hb1.mono (by simp))
    go_wp2
    go_ret
    exact ⟨rfl, hbel1⟩
  · rw [hE]
    have hG := right_of h1
    have hlo := hG.lo
    obtain ⟨m, rfl⟩ := Int.eq_ofNat_of_zero_le (show 0 ≤ n by omega)
    have CC := Lib.hid (connected_ok m A c es hn h1)
    rw [Int.toNat_natCast] at h2
    rw [h2] at CC
    clear h1 hE hG h2
    go_enter Tryz.func78, Tryz.ntmps78
    go_wp2_with fail
    refine (CC.out _ ((h.alloc (Nat.le_refl _) _).more (by simp))).mono ?_
    rintro e w1 ⟨rfl, hb1⟩
    have hbel1 : Below w.heap.size w w1 := ((Below.refl _ _).alloc (Nat.le_refl _) _).trans (hb1.mono (by simp))
    go_wp2
    go_ret
    exact ⟨rfl, hbel1⟩
  · rw [hE]
    have hG := right_of h1
    have hlo := hG.lo
    obtain ⟨m, rfl⟩ := Int.eq_ofNat_of_zero_le (show 0 ≤ n by omega)
    have CC := Lib.hid (connected_ok m A c es hn h1)
    rw [Int.toNat_natCast] at h2
    rw [h2] at CC
    clear h1 hE hG h2
    rw [vertB_false] at h3
    by_cases h4 : q < 0
    · go_enter Tryz.func78, Tryz.ntmps78
      go_wp2_with fail
      refine (CC.out _ ((h.alloc (Nat.le_refl _) _).more (by simp))).mono ?_
      rintro e w1 ⟨rfl, hb1⟩
      have hbel1 : Below w.heap.size w w1 := ((Below.refl _ _).alloc (Nat.le_refl _) _).trans (hb1.mono (by simp))
      have g1 := g0.next hb1
      have c0 := g1.cell 0
      go_wp2
      go_ret
      exact ⟨rfl, hbel1⟩
    · have h5 : (m : Int) ≤ q := by omega
      clear h3
      go_enter Tryz.func78, Tryz.ntmps78
      go_wp2_with fail
      refine (CC.out _ ((h.alloc (Nat.le_refl _) _).more (by simp))).mono ?_
      rintro e w1 ⟨rfl, hb1⟩
      have hbel1 : Below w.heap.size w w1 := ((Below.refl _ _).alloc (Nat.le_refl _) _).trans (hb1.mono (by simp))
      have g1 := g0.next hb1
      have c0 := g1.cell 0
      go_wp2
      go_ret
      exact ⟨rfl, hbel1⟩
  · rw [hE]
    have hG := right_of h1
    have hlo := hG.lo
    obtain ⟨m, rfl⟩ := Int.eq_ofNat_of_zero_le (show 0 ≤ n by omega)
    have CC := Lib.hid (connected_ok m A c es hn h1)
    rw [Int.toNat_natCast] at h2
    rw [h2] at CC
    clear h1 hE hG h2
    rw [vertB_true] at h3
    have h4 : ¬ q < 0 := by omega
    have h5 : ¬ (m : Int) ≤ q := by omega
    clear h3
    go_enter Tryz.func78, Tryz.ntmps78
    go_wp2_with fail
    refine (CC.out _ ((h.alloc (Nat.le_refl _) _).more (by simp))).mono ?_
    rintro e w1 ⟨rfl, hb1⟩
    have hbel1 : Below w.heap.size w w1 := ((Below.refl _ _).alloc (Nat.le_refl _) _).trans (hb1.mono (by simp))
    have g1 := g0.next hb1
    have c0 := g1.cell 0
    go_wp2
    go_ret
    exact ⟨rfl, hbel1⟩

set_option maxRecDepth 100000 in
set_option maxHeartbeats 4000000 in
theorem scheck_any (n : Int) (A : Option Addr) (c : Nat) (es : List E3) (hn : es.length ≤ 1048576) (q : Int) (B : Option Addr) (d : Nat) (cs : List Int) (hm : cs.length ≤ 1048576) (w : World) (h : Reads w w.heap.size 3 A es.length (edgeCells es)) (h' : Reads w w.heap.size 1 B cs.length (ints cs)) :
    Calls Tryz.prog 68 #[.agg #[.int .i64 n, .slice A es.length c], .int .i64 q, .slice B cs.length d] w fun e w' => e = .returned (.int .i64 (confErr n es q cs)) ∧ Below w.heap.size w w' := by
  have GC := Lib.hid (rooted_any n A c es hn q)
  have DC := Lib.hid (dcheck_any B d cs hm n)
  have g0 := Blk.new w 24 #[.int .i64 n, .slice A es.length c]
  rcases conf_cases n es q cs with ⟨h1, hE⟩ | ⟨h1, h2, hE⟩ | ⟨h1, h2, hE⟩
  · rw [hE]
    obtain ⟨r, hr⟩ : ∃ r, rootErr n es q = r := ⟨_, rfl⟩
    rw [hr] at GC h1 ⊢
    have hb : (r != 0) = true := by simpa using h1
    clear hr h1 hE
    go_enter Tryz.func68, Tryz.ntmps68
    go_wp2_with fail
    refine (GC.out _ ((h.alloc (Nat.le_refl _) _).more (by simp))).mono ?_
    rintro e w1 ⟨rfl, hb1⟩
    have hbel1 : Below w.heap.size w w1 := ((Below.refl _ _).alloc (Nat.le_refl _) _).trans (hb1.mono (by simp))
    go_wp2
    go_ret
    exact ⟨rfl, hbel1⟩
  · rw [hE]
    rw [h1] at GC
    obtain ⟨r, hr⟩ : ∃ r, divErr cs n = r := ⟨_, rfl⟩
    rw [hr] at DC h2 ⊢
    have hb : (r != 0) = true := by simpa using h2
    clear hr h1 hE h2
    go_enter Tryz.func68, Tryz.ntmps68
    go_wp2_with fail
    refine (GC.out _ ((h.alloc (Nat.le_refl _) _).more (by simp))).mono ?_
    rintro e w1 ⟨rfl, hb1⟩
    have hbel1 : Below w.heap.size w w1 := ((Below.refl _ _).alloc (Nat.le_refl _) _).trans (hb1.mono (by simp))
    have g1 := g0.next hb1
    have c0 := g1.cell 0
    go_wp2_with fail
    refine (DC.out _ ((h'.below hbel1).more hbel1.size)).mono ?_
    rintro e w2 ⟨rfl, rfl⟩
    go_wp2
    go_ret
    exact ⟨rfl, hbel1⟩
  · rw [hE]
    rw [h1] at GC
    rw [h2] at DC
    obtain ⟨r, hr⟩ : ∃ r, (if debtTo cs q cs.length then (2 : Int) else 0) = r := ⟨_, rfl⟩
    rw [hr]
    have HR := Lib.hid hr
    have hlen := (divErr_zero h2).2.1
    have hlen2 := (divErr_zero h2).2.2.1
    clear hr h1 hE h2
    go_enter Tryz.func68, Tryz.ntmps68
    go_wp2_with fail
    refine (GC.out _ ((h.alloc (Nat.le_refl _) _).more (by simp))).mono ?_
    rintro e w1 ⟨rfl, hb1⟩
    have hbel1 : Below w.heap.size w w1 := ((Below.refl _ _).alloc (Nat.le_refl _) _).trans (hb1.mono (by simp))
    have g1 := g0.next hb1
    have c0 := g1.cell 0
    have hr1 := (h'.below hbel1).more hbel1.size
    have HL := Lib.hid hlen2
    clear hlen2
    go_wp2_with fail
    refine (DC.out _ hr1).mono ?_
    rintro e w2 ⟨rfl, rfl⟩
    go_wp2
    go_loop [26] (fun i => ∃ k : Nat, k ≤ cs.length ∧ i = .int .i64 k ∧ Hid (debtTo cs q k = false)) (fun i => cs.length - (intOf i).toNat)
    case atStart => exact ⟨0, by omega, rfl, by simp [Hid, debtTo]⟩
    case round =>
      obtain ⟨k, hk, rfl, HS⟩ := hrel
      by_cases hlt : k < cs.length
      · obtain ⟨x, hx⟩ := get_of_lt hlt
        obtain ⟨b, off, rfl, hb', hcell⟩ := hr1.at_ (ints_at hx)
        have hi : (k : Int) < (cs.length : Int) := by omega
        have hds := debtTo_succ cs q k
        rw [HS.out, getD_at hx] at hds
        have hkn : ∀ z, debtTo cs q (k + 1) = z → (z = true → r = 2) ∧ (z = false → Hid (debtTo cs q (k + 1) = false)) := fun z hz => ⟨fun e => by rw [← HR.out, if_pos (debtTo_mono (by omega) (hz.trans e))], fun e => hz.trans e⟩
        have HK := Lib.hid hkn
        clear hx h h' hkn
        by_cases h3 : (k : Int) = q
        · have hb : ((k : Int) != q) = false := by simpa using h3
          have HN := (HK.out _ hds).2 (by simp [h3])
          clear hds HK h3
          go_wp2
          go_round
          case rel => exact ⟨k + 1, by omega, by go_num, HN⟩
          case measure => simp [intOf]; omega
        · have hb : ((k : Int) != q) = true := by simpa using h3
          by_cases h4 : x < 0
          · obtain rfl := (HK.out _ hds).1 (by simp [h3, h4])
            clear hds HK h3
            go_wp2
            go_ret
            exact ⟨rfl, hbel1⟩
          · have HN := (HK.out _ hds).2 (by simp [h4])
            clear hds HK h3
            go_wp2
            go_round
            case rel => exact ⟨k + 1, by omega, by go_num, HN⟩
            case measure => simp [intOf]; omega
      · obtain rfl : k = cs.length := by omega
        go_wp2
        go_ret
        exact ⟨ret_int (by rw [← HR.out, HS.out]; rfl), hbel1⟩
end Go.Proofs.YtplgbapbgcipdaaGreat

/-! burning.check. -/
namespace Go.Proofs.YtplgbapbgcipdaaGreat
open Go.RowKit

end Go.Proofs.YtplgbapbgcipdaaGreat

/-! Package stabilize: wait; pileOf. -/
namespace Go.Proofs.YtplgbapbgcipdaaGreat
open Go.RowKit

set_option maxHeartbeats 2000000 in
theorem wait_any (base bp n : Nat) (hn : n ≤ 12) (a : PA) (d : List Int) (q : Int) (rows : List (List Int)) (val fired : List Int) (total : Int) (ws : List Bool) (v : Nat) (hv : v < n) (w : World) (h : PileW w base bp n a d q rows val fired total ws) :
    Calls Tryz.prog 116 #[.pointer (some ⟨bp, 0, none⟩), .int .i64 v] w fun e w' => (∃ v, e = .returned v) ∧ PileW w' base bp n a d q rows val fired total (ws.set v (unst q d val v)) ∧ Only (fun k => k = bp) w w' := by
  have HU := Lib.hid (fun m => unstable_any base bp n a d q rows val fired total ws v hv _ (h.drewN m))
  have HP := Lib.hid h
  obtain ⟨b0, hb0⟩ := get_of_lt (xs := ws) (k := v) (by have := h.wl; omega)
  have hfz := h.blk.frozen (6 + v)
  have hce : w.cell? ⟨bp, 6 + v, none⟩ = some (.bool b0) := (h.blk.cell (6 + v)).trans (by rw [Nat.add_comm]; simp [pileCells, hb0])
  have hi : (v : Int) < 12 := by omega
  clear h
  go_enter Tryz.func116, Tryz.ntmps116
  go_wp2
  go_region_with (go_at_call 142; refine (HU.out 1).mono ?_; rintro e w1 ⟨rfl, m, rfl⟩)
  all_goals
    go_wp2
    exact bodyPost_end (results_none rfl _ _ _) rfl ⟨⟨_, rfl⟩, (HP.out.drewN _).setW v _, ((Only.refl (fun k => k = bp) w).drewN _).setCell (p := ⟨bp, 6 + v, none⟩) (.inl rfl) _⟩
end Go.Proofs.YtplgbapbgcipdaaGreat

/-! What pileOf lays down: the table of single edges, the valences, the unstable vertices. -/
namespace Go.Proofs.YtplgbapbgcipdaaGreat
open Go.RowKit

def incE (xs : List Int) (i : Nat) : List Int := xs.set i (xs.getD i 0 + 1)
def incR (rows : List (List Int)) (a b : Nat) : List (List Int) := rows.set a (incE (rows.getD a []) b)
def edgeR (rows : List (List Int)) (p : Nat × Nat) : List (List Int) := if p.1 = p.2 then rows else incR (incR rows p.1 p.2) p.2 p.1
def edgeV (val : List Int) (p : Nat × Nat) : List Int := if p.1 = p.2 then val else incE (incE val p.1) p.2
def rowsL (n : Nat) (ps : List (Nat × Nat)) : List (List Int) := ps.foldl edgeR (List.replicate n (List.replicate n 0))
def valL (n : Nat) (ps : List (Nat × Nat)) : List Int := ps.foldl edgeV (List.replicate n 0)
def waitL (k : Nat) (q : Int) (d val : List Int) : List Bool := (List.range 12).map fun v => decide (v < k) && unst q d val v
theorem rowsL_snoc (n : Nat) {ps : List (Nat × Nat)} {k : Nat} {p : Nat × Nat} (h : ps[k]? = some p) : rowsL n (ps.take (k + 1)) = edgeR (rowsL n (ps.take k)) p := by rw [take_snoc h]; simp [rowsL]
theorem valL_snoc (n : Nat) {ps : List (Nat × Nat)} {k : Nat} {p : Nat × Nat} (h : ps[k]? = some p) : valL n (ps.take (k + 1)) = edgeV (valL n (ps.take k)) p := by rw [take_snoc h]; simp [valL]
theorem incE_length (xs : List Int) (i : Nat) : (incE xs i).length = xs.length := by simp [incE]
/-- Bounds of a table. -/
def TabBd (n : Nat) (K : Int) (rows : List (List Int)) : Prop := rows.length = n ∧ ∀ r ∈ rows, r.length = n ∧ ∀ x ∈ r, 0 ≤ x ∧ x ≤ K
def ValBd (n : Nat) (K : Int) (val : List Int) : Prop := val.length = n ∧ ∀ x ∈ val, 0 ≤ x ∧ x ≤ K
theorem ValBd.inc {n : Nat} {K : Int} {xs : List Int} (h : ValBd n K xs) (hK : 0 ≤ K) (i : Nat) : ValBd n (K + 1) (incE xs i) := by
  refine ⟨by rw [incE_length]; exact h.1, fun x hx => ?_⟩
  unfold incE at hx
  rcases List.mem_or_eq_of_mem_set hx with hx | rfl
  · have := h.2 x hx; omega
  · by_cases hi : i < xs.length
    · rw [List.getD_eq_getElem?_getD, List.getElem?_eq_getElem hi, Option.getD_some]
      have := h.2 _ (List.getElem_mem hi); omega
    · rw [List.getD_eq_getElem?_getD, List.getElem?_eq_none (by omega), Option.getD_none]; omega
theorem TabBd.inc {n : Nat} {K : Int} {rows : List (List Int)} (h : TabBd n K rows) (hK : 0 ≤ K) {a : Nat} (ha : a < n) (b : Nat) : TabBd n (K + 1) (incR rows a b) := by
  refine ⟨by unfold incR; rw [List.length_set]; exact h.1, fun r hr => ?_⟩
  unfold incR at hr
  rcases List.mem_or_eq_of_mem_set hr with hr | rfl
  · have := h.2 r hr
    exact ⟨this.1, fun x hx => by have := this.2 x hx; omega⟩
  · have hi : a < rows.length := by rw [h.1]; exact ha
    rw [List.getD_eq_getElem?_getD, List.getElem?_eq_getElem hi, Option.getD_some]
    exact ValBd.inc (h.2 _ (List.getElem_mem hi)) hK b
theorem edgeV_bd {n : Nat} {K : Int} {xs : List Int} (h : ValBd n K xs) (hK : 0 ≤ K) (p : Nat × Nat) : ValBd n (K + 2) (edgeV xs p) := by
  unfold edgeV
  split
  · exact ⟨h.1, fun x hx => by have := h.2 x hx; omega⟩
  · have := (h.inc hK p.1).inc (by omega) p.2
    exact ⟨this.1, fun x hx => by have := this.2 x hx; omega⟩
theorem edgeR_bd {n : Nat} {K : Int} {rows : List (List Int)} (h : TabBd n K rows) (hK : 0 ≤ K) {p : Nat × Nat} (h1 : p.1 < n) (h2 : p.2 < n) : TabBd n (K + 2) (edgeR rows p) := by
  unfold edgeR
  split
  · exact ⟨h.1, fun r hr => ⟨(h.2 r hr).1, fun x hx => by have := (h.2 r hr).2 x hx; omega⟩⟩
  · have := (h.inc hK h1 p.2).inc (by omega) h2 p.1
    exact ⟨this.1, fun r hr => ⟨(this.2 r hr).1, fun x hx => by have := (this.2 r hr).2 x hx; omega⟩⟩
theorem rep_bd (n : Nat) : ValBd n 0 (List.replicate n 0) := ⟨by simp, fun x hx => by rw [(List.mem_replicate.1 hx).2]; omega⟩
theorem valL_bd (n : Nat) (ps : List (Nat × Nat)) : ValBd n (2 * ps.length) (valL n ps) := by
  suffices h : ∀ (ps : List (Nat × Nat)) (K : Int) (xs : List Int), 0 ≤ K → ValBd n K xs → ValBd n (K + 2 * ps.length) (ps.foldl edgeV xs) by
    have := h ps 0 _ (Int.le_refl _) (rep_bd n)
    rwa [Int.zero_add] at this
  intro ps
  induction ps with
  | nil => intro K xs hK h; simpa using h
  | cons p ps ih =>
    intro K xs hK h
    have := ih (K + 2) _ (by omega) (edgeV_bd h hK p)
    rw [List.foldl_cons, List.length_cons]
    rwa [show K + 2 + 2 * (ps.length : Int) = K + 2 * ((ps.length + 1 : Nat) : Int) by omega] at this
theorem rowsL_bd (n : Nat) (ps : List (Nat × Nat)) (hp : ∀ p ∈ ps, p.1 < n ∧ p.2 < n) : TabBd n (2 * ps.length) (rowsL n ps) := by
  suffices h : ∀ (ps : List (Nat × Nat)) (K : Int) (xs : List (List Int)), (∀ p ∈ ps, p.1 < n ∧ p.2 < n) → 0 ≤ K → TabBd n K xs → TabBd n (K + 2 * ps.length) (ps.foldl edgeR xs) by
    have := h ps 0 (List.replicate n (List.replicate n 0)) hp (Int.le_refl _) ⟨by simp, fun r hr => by rw [(List.mem_replicate.1 hr).2]; exact rep_bd n⟩
    rwa [Int.zero_add] at this
  intro ps
  induction ps with
  | nil => intro K xs _ hK h; simpa using h
  | cons p ps ih =>
    intro K xs hp hK h
    have := ih (K + 2) _ (fun x hx => hp x (List.mem_cons_of_mem _ hx)) (by omega) (edgeR_bd h hK (hp p (List.mem_cons_self ..)).1 (hp p (List.mem_cons_self ..)).2)
    rw [List.foldl_cons, List.length_cons]
    rwa [show K + 2 + 2 * (ps.length : Int) = K + 2 * ((ps.length + 1 : Nat) : Int) by omega] at this
theorem endsL_ok {n : Nat} {es : List E3} (hok : ∀ e ∈ es, okE n e) : ∀ p ∈ endsL es, p.1 < n ∧ p.2 < n := by
  intro p hp
  unfold endsL at hp
  rw [List.mem_flatMap] at hp
  obtain ⟨e, he, hp⟩ := hp
  have h := hok e he
  unfold okE at h
  rw [(List.mem_replicate.1 hp).2]
  dsimp only
  omega
theorem waitL_succ (k : Nat) (hk : k < 12) (q : Int) (d val : List Int) : (waitL k q d val).set k (unst q d val k) = waitL (k + 1) q d val := by
  apply List.ext_getElem?
  intro i
  unfold waitL
  by_cases hi : i = k
  · subst hi
    rw [List.getElem?_set_self (by simp; exact hk)]
    simp [hk]
  · rw [List.getElem?_set_ne (fun e => hi e.symm), List.getElem?_map, List.getElem?_map]
    by_cases h12 : i < 12
    · rw [List.getElem?_range h12]
      simp only [Option.map_some]
      rw [show decide (i < k) = decide (i < k + 1) by rw [decide_eq_decide]; omega]
    · rw [List.getElem?_eq_none (by simp; omega)]; rfl
theorem waitL_zero (q : Int) (d val : List Int) : waitL 0 q d val = List.replicate 12 false := by
  unfold waitL
  simp [List.range_succ]
end Go.Proofs.YtplgbapbgcipdaaGreat

/-! ref08.Few, ref17.Few, ref18.Few, ref23.Few. -/
namespace Go.Proofs.YtplgbapbgcipdaaGreat
open Go.RowKit

set_option maxHeartbeats 1000000 in
theorem gfew_any (n : Int) (A : Option Addr) (c : Nat) (es : List E3) (w : World) (h : Reads w w.heap.size 3 A es.length (edgeCells es)) :
    Calls Tryz.prog 63 #[.agg #[.int .i64 n, .slice A es.length c]] w fun e w' => e = .returned (.bool (smallB n es 6 9)) ∧ Below w.heap.size w w' := by
  have SC := Lib.hid (rsmall_any n A c es 6 9)
  go_enter Tryz.func63, Tryz.ntmps63
  go_wp2_with fail
  refine (SC.out _ ((h.alloc (Nat.le_refl _) _).more (by simp))).mono ?_
  rintro e w1 ⟨rfl, hb1⟩
  have hbel1 : Below w.heap.size w w1 := ((Below.refl _ _).alloc (Nat.le_refl _) _).trans (hb1.mono (by simp))
  go_wp2
  go_ret
  exact ⟨rfl, hbel1⟩
set_option maxHeartbeats 1000000 in
theorem dfew_any (A : Option Addr) (c m : Nat) (w : World) :
    Calls Tryz.prog 64 #[.slice A m c] w fun e w' => e = .returned (.bool (decide (m ≤ 24))) ∧ w = w' := by
  go_enter Tryz.func64, Tryz.ntmps64
  go_wp2
  go_ret
  exact ⟨ret_bool (by rw [Bool.eq_iff_iff]; simp; try omega), rfl⟩
/-- A small graph with a small divisor. -/
def few18 (n : Int) (es : List E3) (cs : List Int) : Bool := smallB n es 6 9 && decide (cs.length ≤ 24)
set_option maxHeartbeats 1000000 in
theorem few18_any (n : Int) (A : Option Addr) (c : Nat) (es : List E3) (B : Option Addr) (d : Nat) (cs : List Int) (w : World) (h : Reads w w.heap.size 3 A es.length (edgeCells es)) :
    Calls Tryz.prog 30 #[.agg #[.int .i64 n, .slice A es.length c], .slice B cs.length d] w fun e w' => e = .returned (.bool (few18 n es cs)) ∧ Below w.heap.size w w' := by
  have SC := gfew_any n A c es
  unfold few18
  obtain ⟨r, hr⟩ : ∃ r, smallB n es 6 9 = r := ⟨_, rfl⟩
  rw [hr] at SC ⊢
  have SC := Lib.hid SC
  clear hr
  cases r
  · go_enter Tryz.func30, Tryz.ntmps30
    go_wp2_with fail
    refine (SC.out _ ((h.alloc (Nat.le_refl _) _).more (by simp))).mono ?_
    rintro e w1 ⟨rfl, hb1⟩
    have hbel1 : Below w.heap.size w w1 := ((Below.refl _ _).alloc (Nat.le_refl _) _).trans (hb1.mono (by simp))
    go_wp2
    go_ret
    exact ⟨rfl, hbel1⟩
  · go_enter Tryz.func30, Tryz.ntmps30
    go_wp2_with fail
    refine (SC.out _ ((h.alloc (Nat.le_refl _) _).more (by simp))).mono ?_
    rintro e w1 ⟨rfl, hb1⟩
    have hbel1 : Below w.heap.size w w1 := ((Below.refl _ _).alloc (Nat.le_refl _) _).trans (hb1.mono (by simp))
    go_wp2_with fail
    refine (dfew_any B d cs.length w1).mono ?_
    rintro e w2 ⟨rfl, rfl⟩
    go_wp2
    go_ret
    exact ⟨rfl, hbel1⟩
/-- .. whose chips are few. -/
def few23 (n : Int) (es : List E3) (cs : List Int) : Bool := few18 n es cs && cs.all fun x => !(decide (60 < x) && decide (x ≤ 1048576))
theorem few23_at {n : Int} {es : List E3} {cs : List Int} {k : Nat} {x : Int} (hx : cs[k]? = some x) (h1 : 60 < x) (h2 : x ≤ 1048576) : few23 n es cs = false := by
  unfold few23
  have : (cs.all fun x => !(decide (60 < x) && decide (x ≤ 1048576))) = false := by
    rw [Bool.eq_false_iff]; intro h; rw [List.all_eq_true] at h
    have := h x (List.mem_of_getElem? hx)
    simp at this
    omega
  rw [this, Bool.and_false]
set_option maxHeartbeats 2000000 in
theorem few23_any (n : Int) (A : Option Addr) (c : Nat) (es : List E3) (B : Option Addr) (d : Nat) (cs : List Int) (w : World) (h : Reads w w.heap.size 3 A es.length (edgeCells es)) (h' : Reads w w.heap.size 1 B cs.length (ints cs)) :
    Calls Tryz.prog 6 #[.agg #[.int .i64 n, .slice A es.length c], .slice B cs.length d] w fun e w' => e = .returned (.bool (few23 n es cs)) ∧ Below w.heap.size w w' := by
  have SC := few18_any n A c es B d cs
  cases hr : few18 n es cs
  · have hd : few23 n es cs = false := by unfold few23; rw [hr]; rfl
    rw [hd]
    rw [hr] at SC
    have SC := Lib.hid SC
    clear hr hd
    go_enter Tryz.func6, Tryz.ntmps6
    go_wp2_with fail
    refine (SC.out _ ((h.alloc (Nat.le_refl _) _).more (by simp))).mono ?_
    rintro e w1 ⟨rfl, hb1⟩
    have hbel1 : Below w.heap.size w w1 := ((Below.refl _ _).alloc (Nat.le_refl _) _).trans (hb1.mono (by simp))
    go_wp2
    go_ret
    exact ⟨rfl, hbel1⟩
  · have hcl : cs.length ≤ 24 := by unfold few18 at hr; simp at hr; exact hr.2
    have HF : Hid (∀ (k : Nat) (x : Int), cs[k]? = some x → 60 < x → x ≤ 1048576 → few23 n es cs = false) := fun k x hx h1 h2 => few23_at hx h1 h2
    have HT : Hid ((cs.take cs.length).all (fun x => !(decide (60 < x) && decide (x ≤ 1048576))) = true → few23 n es cs = true) := by
      intro ha
      rw [List.take_length] at ha
      unfold few23; rw [hr, ha]; rfl
    obtain ⟨r, hr2⟩ : ∃ r, few23 n es cs = r := ⟨_, rfl⟩
    rw [hr2] at HF HT ⊢
    rw [hr] at SC
    have SC := Lib.hid SC
    clear hr hr2
    go_enter Tryz.func6, Tryz.ntmps6
    go_wp2_with fail
    refine (SC.out _ ((h.alloc (Nat.le_refl _) _).more (by simp))).mono ?_
    rintro e w1 ⟨rfl, hb1⟩
    have hbel1 : Below w.heap.size w w1 := ((Below.refl _ _).alloc (Nat.le_refl _) _).trans (hb1.mono (by simp))
    have hr1 := h'.below hbel1
    go_wp2
    go_loop [5] (fun i => ∃ k : Nat, k ≤ cs.length ∧ i = .int .i64 k ∧ Hid ((cs.take k).all (fun x => !(decide (60 < x) && decide (x ≤ 1048576))) = true)) (fun i => cs.length - (intOf i).toNat)
    case atStart => exact ⟨0, by omega, rfl, by simp [Hid]⟩
    case round =>
      obtain ⟨k, hk, rfl, HS⟩ := hrel
      by_cases hlt : k < cs.length
      · obtain ⟨x, hx⟩ := get_of_lt hlt
        obtain ⟨b, off, rfl, hb', hcell⟩ := hr1.at_ (ints_at hx)
        have hi : (k : Int) < (cs.length : Int) := by omega
        have HX := Lib.hid hx
        clear hx h h'
        by_cases h1 : 60 < x
        · by_cases h2 : x ≤ 1048576
          · obtain rfl := HF.out k x HX.out h1 h2
            go_wp2
            go_ret
            exact ⟨rfl, hbel1⟩
          · have HN : Hid ((cs.take (k + 1)).all (fun x => !(decide (60 < x) && decide (x ≤ 1048576))) = true) := by
              rw [take_snoc HX.out, Hid, List.all_append, HS.out]; simp; omega
            have h3 : 1048576 < x := by omega
            go_wp2
            go_round
            case rel => exact ⟨k + 1, by omega, by go_num, HN⟩
            case measure => simp [intOf]; omega
        · have HN : Hid ((cs.take (k + 1)).all (fun x => !(decide (60 < x) && decide (x ≤ 1048576))) = true) := by
            rw [take_snoc HX.out, Hid, List.all_append, HS.out]; simp; omega
          have h3 : x ≤ 60 := by omega
          go_wp2
          go_round
          case rel => exact ⟨k + 1, by omega, by go_num, HN⟩
          case measure => simp [intOf]; omega
      · obtain rfl : k = cs.length := by omega
        obtain rfl := HT.out HS.out
        go_wp2
        go_ret
        exact ⟨rfl, hbel1⟩
theorem few23_parts {n : Int} {es : List E3} {cs : List Int} (h : few23 n es cs = true) : es.length ≤ 40 ∧ cs.length ≤ 24 ∧ (checkG n es = 0 → n ≤ 6 ∧ sizeE es ≤ 9) ∧ ∀ x ∈ cs, x ≤ 1048576 → x ≤ 60 := by
  unfold few23 few18 smallB at h
  rw [Bool.and_eq_true, Bool.and_eq_true, List.all_eq_true] at h
  obtain ⟨⟨h1, h2⟩, h3⟩ := h
  split at h1
  · cases h1
  · rename_i h4
    refine ⟨by omega, by simpa using h2, fun hc => ?_, fun x hx h5 => ?_⟩
    · rw [if_neg (fun h => h hc), Bool.and_eq_true] at h1
      have e1 := of_decide_eq_true h1.1
      have e2 := of_decide_eq_true h1.2
      exact ⟨e1, by omega⟩
    · have := h3 x hx
      simp at this
      omega
end Go.Proofs.YtplgbapbgcipdaaGreat

/-! The reference's fire: ref23.Burnt, ref23.Unburnt. -/
namespace Go.Proofs.YtplgbapbgcipdaaGreat
open Go.RowKit

end Go.Proofs.YtplgbapbgcipdaaGreat

/-! The reference's fire: ref23.Unburnt. -/
namespace Go.Proofs.YtplgbapbgcipdaaGreat
open Go.RowKit

end Go.Proofs.YtplgbapbgcipdaaGreat

