/-
  Texts of this claim, put together: RRecur, RForbP, REnumP, RowsD.
-/
import Derived.Test.YtdnoeaoelgehcaaGreatK12
import Derived.Test.YtdnoeaoelgehcaaGreatK11
import Derived.Test.YtdnoeaoelgehcaaGreatK07
import Derived.Test.YtdnoeaoelgehcaaGreatK04
/-! Package recurrent: check, recurs, Recurrent. -/
namespace Go.Proofs.YtdnoeaoelgehcaaGreat
open Go.RowKit


set_option maxRecDepth 100000 in
set_option maxHeartbeats 2000000 in
theorem reccheck_any (n : Int) (A : Option Addr) (c : Nat) (es : List E3) (hn : es.length ≤ 1048576) (q : Int) (B : Option Addr) (d : Nat) (cs : List Int) (hm : cs.length ≤ 1048576) (w : World) (h : Reads w w.heap.size 3 A es.length (edgeCells es)) (h' : Reads w w.heap.size 1 B cs.length (ints cs)) :
    Calls Tryz.prog 47 #[.agg #[.int .i64 n, .slice A es.length c], .int .i64 q, .slice B cs.length d] w fun e w' => e = .returned (.int .i64 (burnErr n es q cs)) ∧ Below w.heap.size w w' := by
  have GC := Lib.hid (scheck_any n A c es hn q B d cs hm)
  rcases burn_cases n es q cs with ⟨h1, hE⟩ | ⟨h1, h2, hE⟩ | ⟨h1, h2, hE⟩
  · rw [hE]
    obtain ⟨r, hr⟩ : ∃ r, confErr n es q cs = r := ⟨_, rfl⟩
    rw [hr] at GC h1 ⊢
    have hb : (r != 0) = true := by simpa using h1
    clear hr h1 hE
    go_enter Tryz.func47, Tryz.ntmps47
    go_wp2_with fail
    refine (GC.out _ ((h.alloc (Nat.le_refl _) _).more (by simp)) ((h'.alloc (Nat.le_refl _) _).more (by simp))).mono ?_
    rintro e w1 ⟨rfl, hb1⟩
    have hbel1 : Below w.heap.size w w1 := ((Below.refl _ _).alloc (Nat.le_refl _) _).trans (hb1.mono (by simp))
    go_wp2
    go_ret
    exact ⟨rfl, hbel1⟩
  all_goals
    rw [hE]
    obtain ⟨_, _, hq0, hqn, hlen, _, _⟩ := conf_zero h1
    obtain ⟨v, rfl⟩ := Int.eq_ofNat_of_zero_le hq0
    rw [Int.toNat_natCast] at h2
    obtain ⟨x, hx⟩ := get_of_lt (xs := cs) (k := v) (by omega)
    rw [getD_at hx] at h2
    rw [h1] at GC
    have hi : (v : Int) < (cs.length : Int) := by omega
    have HX := Lib.hid hx
    clear h1 hE hx hlen
    go_enter Tryz.func47, Tryz.ntmps47
    go_wp2_with fail
    refine (GC.out _ ((h.alloc (Nat.le_refl _) _).more (by simp)) ((h'.alloc (Nat.le_refl _) _).more (by simp))).mono ?_
    rintro e w1 ⟨rfl, hb1⟩
    have hbel1 : Below w.heap.size w w1 := ((Below.refl _ _).alloc (Nat.le_refl _) _).trans (hb1.mono (by simp))
    obtain ⟨b, off, rfl, hb', hcell⟩ := (h'.below hbel1).at_ (ints_at HX.out)
    first
      | (have hb0 : (x != 0) = true := by simpa using h2
         clear h2
         go_wp2
         go_ret
         exact ⟨rfl, hbel1⟩)
      | (subst h2
         go_wp2
         go_ret
         exact ⟨rfl, hbel1⟩)

set_option maxRecDepth 100000 in
set_option maxHeartbeats 8000000 in
theorem recurs_any (n : Nat) (A : Option Addr) (c : Nat) (es : List E3) (q : Nat) (hq : q < n) (B : Option Addr) (d : Nat) (cs : List Int) (hR : RArgs n es cs) (w : World)
    (h : Reads w w.heap.size 3 A es.length (edgeCells es)) (h' : Reads w w.heap.size 1 B n (ints cs)) :
    Calls Tryz.prog 55 #[pileV n A es.length c q B n d] w fun e w' => e = .returned (.bool (recB n es cs q)) ∧ Below w.heap.size w w' := by
  have hn12 : n ≤ 12 := by have := (right_of hR.hz).hi; omega
  have HS := Lib.hid (fun (W : World) (hB : Below w.heap.size w W) => stable_any n hn12 A c es hR.hn hR.hz q B d cs hR.hcl W ((h.below hB).more hB.size) ((h'.below hB).more hB.size))
  have HF := Lib.hid (fun (W : World) (hB : Below w.heap.size w W) => rfire_any n A c es q hq B d cs hR W ((h.below hB).more hB.size) ((h'.below hB).more hB.size))
  have g0 := Blk.new w 86 (pileC n A es.length c q B n d)
  have hB0 : Below w.heap.size w (w.alloc (.cells (pileC n A es.length c q B n d) 86)) := (Below.refl _ _).alloc (Nat.le_refl _) _
  unfold recB
  obtain ⟨S, hS⟩ : ∃ S, stabTo es cs q n = S := ⟨_, rfl⟩
  obtain ⟨R, hRL⟩ : ∃ R, recL n es cs q = R := ⟨_, rfl⟩
  rw [hS] at HS ⊢
  rw [hRL] at HF ⊢
  clear hS hRL
  simp only [pileV, pileC] at g0 hB0 HS HF ⊢
  have hgw : w.heap.size < (w.alloc (.cells #[.int .i64 n, .slice A es.length c, .int .i64 q, .slice B n d] 86)).heap.size := by simp
  have c0 := g0.cell 0
  have c1 := g0.cell 1
  have c2 := g0.cell 2
  have c3 := g0.cell 3
  obtain ⟨W0, hW0⟩ : ∃ W0, w.alloc (.cells #[.int .i64 n, .slice A es.length c, .int .i64 q, .slice B n d] 86) = W0 := ⟨_, rfl⟩
  have HW0 := Lib.hid hW0
  rw [hW0] at g0 hB0 c0 c1 c2 c3 hgw
  clear hW0
  have HS2 := Lib.hid (HS.out W0.drew hB0.drew)
  have HF2 := Lib.hid (fun (W : World) (hB : Below W0.heap.size W0 W) => HF.out W (hB0.trans (hB.mono hB0.size)))
  have KC := Lib.hid (fun (W : World) (hB : Below W0.heap.size W0 W) => (⟨(hB.cell (p := ⟨w.heap.size, 0, none⟩) hgw).trans c0, (hB.cell (p := ⟨w.heap.size, 1, none⟩) hgw).trans c1, (hB.cell (p := ⟨w.heap.size, 2, none⟩) hgw).trans c2, (hB.cell (p := ⟨w.heap.size, 3, none⟩) hgw).trans c3⟩ :
    W.cell? ⟨w.heap.size, 0, none⟩ = some (.int .i64 n) ∧ W.cell? ⟨w.heap.size, 1, none⟩ = some (.slice A es.length c) ∧ W.cell? ⟨w.heap.size, 2, none⟩ = some (.int .i64 q) ∧ W.cell? ⟨w.heap.size, 3, none⟩ = some (.slice B n d)))
  have B0 : Below W0.heap.size W0 W0.drew := (Below.refl _ _).drew
  clear g0 HS HF hR
  cases S
  · go_enter Tryz.func55, Tryz.ntmps55
    go_wp2_with fail
    rw [HW0.out]
    first
      | go_region_with ((go_at_call 62; refine (HS2.out).mono ?_; rintro e wJ ⟨rfl, bJ⟩; have BJ := B0.trans (bJ.mono (Nat.le_refl _)); obtain ⟨j0, j1, j2, j3⟩ := KC.out wJ BJ))
      | fail
    all_goals
      go_wp2
      go_ret
      exact ⟨rfl, hB0.trans (BJ.mono hB0.size)⟩
  · go_enter Tryz.func55, Tryz.ntmps55
    go_wp2_with fail
    rw [HW0.out]
    go_region_held3 (fun W => W.cell? ⟨w.heap.size, 0, none⟩ = some (.int .i64 n) ∧ W.cell? ⟨w.heap.size, 1, none⟩ = some (.slice A es.length c) ∧ W.cell? ⟨w.heap.size, 2, none⟩ = some (.int .i64 q) ∧ W.cell? ⟨w.heap.size, 3, none⟩ = some (.slice B n d)) (go_keep)
      (first
        | (go_at_call 62; refine (HS2.out).mono ?_; rintro e wJ ⟨rfl, bJ⟩; have BJ := B0.trans (bJ.mono (Nat.le_refl _)); obtain ⟨j0, j1, j2, j3⟩ := KC.out wJ BJ)
        | (go_at_call 56; refine (HF2.out _ BJ).mono ?_; rintro e wV ⟨A', c', rfl, _, bV⟩; have BV := BJ.trans (bV.mono BJ.size); obtain ⟨l0, l1, l2, l3⟩ := KC.out wV BV))
    all_goals
      go_wp2
      go_ret
      exact ⟨ret_bool (by rw [Bool.true_and, Bool.eq_iff_iff]; simp; omega), hB0.trans (BV.mono hB0.size)⟩
theorem burn_rargs {n q : Nat} {es : List E3} {cs : List Int} (hlen : es.length ≤ 10000) (hz : burnErr n es q cs = 0) : RArgs n es cs ∧ q < n ∧ cs.length = n := by
  have hc := (burn_zero hz).1
  obtain ⟨_, _, _, hqn, hl, hb, _⟩ := conf_zero hc
  have hck : checkG n es = 0 := by
    rcases conf_cases n es q cs with ⟨h1, hE⟩ | ⟨h1, h2, hE⟩ | ⟨h1, h2, hE⟩
    · exact absurd (hE ▸ hc) h1
    · exact absurd (hE ▸ hc) h2
    · rcases root_cases n es q with ⟨k1, kE⟩ | ⟨k1, k2, kE⟩ | ⟨k1, k2, k3, kE⟩ | ⟨k1, k2, k3, kE⟩
      · exact absurd (kE ▸ h1) k1
      · exact k1
      · exact k1
      · exact k1
  exact ⟨⟨hlen, hck, by omega, fun x hx => by have := hb x hx; omega⟩, by omega, by omega⟩
/-- What Recurrent returns. -/
def recE (n : Int) (es : List E3) (q : Int) (cs : List Int) : Bool × List Int × Int := if burnErr n es q cs = 0 then (if recB n.toNat es cs q.toNat then (true, natI (recL n.toNat es cs q.toNat), 0) else (false, [], 0)) else (false, [], burnErr n es q cs)

set_option maxRecDepth 100000 in
set_option maxHeartbeats 8000000 in
theorem recurrent_ok (n : Nat) (A : Option Addr) (c : Nat) (es : List E3) (hlen : es.length ≤ 10000) (q : Nat) (B : Option Addr) (d : Nat) (cs : List Int) (hz : burnErr n es q cs = 0) (w : World)
    (h : Reads w w.heap.size 3 A es.length (edgeCells es)) (h' : Reads w w.heap.size 1 B cs.length (ints cs)) :
    Calls Tryz.prog 16 #[.agg #[.int .i64 n, .slice A es.length c], .int .i64 q, .slice B cs.length d] w fun e w' => ∃ A' c', e = .returned (.tuple #[.bool (recE n es q cs).1, .slice A' (recE n es q cs).2.1.length c', .int .i64 (recE n es q cs).2.2]) ∧ OwnI w' w.heap.size A' c' (recE n es q cs).2.1 ∧ Below w.heap.size w w' := by
  obtain ⟨hR, hq, hcl⟩ := burn_rargs hlen hz
  have hn12 : n ≤ 12 := by have := (right_of hR.hz).hi; omega
  have BC := Lib.hid (reccheck_any n A c es (by omega) q B d cs (by omega))
  rw [hz] at BC
  rw [hcl] at h' BC ⊢
  have HS := Lib.hid (fun (W : World) (hB : Below w.heap.size w W) => recurs_any n A c es q hq B d cs hR W ((h.below hB).more hB.size) ((h'.below hB).more hB.size))
  have HF := Lib.hid (fun (W : World) (hB : Below w.heap.size w W) => rfire_any n A c es q hq B d cs hR W ((h.below hB).more hB.size) ((h'.below hB).more hB.size))
  have hE : recE n es q cs = if recB n es cs q then (true, natI (recL n es cs q), 0) else (false, [], 0) := by unfold recE; rw [if_pos hz]; simp
  rw [hE]
  have hnl : (natI (recL n es cs q)).length = (recL n es cs q).length := natI_length _
  have g0 := Blk.new w 24 #[.int .i64 n, .slice A es.length c]
  obtain ⟨S, hS⟩ : ∃ S, recB n es cs q = S := ⟨_, rfl⟩
  obtain ⟨R, hRL⟩ : ∃ R, recL n es cs q = R := ⟨_, rfl⟩
  rw [hS] at HS ⊢
  rw [hRL] at HF hnl ⊢
  have HNL := Lib.hid hnl
  simp only [pileV] at HS HF
  clear hS hRL hR hz hE hnl hcl
  go_enter Tryz.func16, Tryz.ntmps16
  go_wp2_with fail
  refine (BC.out _ ((h.alloc (Nat.le_refl _) _).more (by simp)) ((h'.alloc (Nat.le_refl _) _).more (by simp))).mono ?_
  rintro e w1 ⟨rfl, hb1⟩
  have hB1 : Below w.heap.size w w1 := ((Below.refl _ _).alloc (Nat.le_refl _) _).trans (hb1.mono (by simp))
  have g1 := g0.next hb1
  have c0 := g1.cell 0
  have c1 := g1.cell 1
  clear g0 hb1
  have P2 := Blk.new w1 86 #[.int .i64 n, .slice A es.length c, .int .i64 q, .slice B n d]
  have p0 := P2.cell 0
  have p1 := P2.cell 1
  have p2 := P2.cell 2
  have p3 := P2.cell 3
  have B2 := hB1.alloc hB1.size (.cells #[.int .i64 n, .slice A es.length c, .int .i64 q, .slice B n d] 86)
  go_wp2_with fail
  refine (HS.out _ B2).mono ?_
  rintro e w3 ⟨rfl, hb3⟩
  have P3 := P2.next hb3
  have B3 := B2.trans (hb3.mono B2.size)
  have r0 := P3.cell 0
  have r1 := P3.cell 1
  have r2 := P3.cell 2
  have r3 := P3.cell 3
  clear p0 p1 p2 p3 c0 c1 hb3
  cases S
  · go_wp2
    go_ret3
    exact ⟨none, 0, rfl, OwnI.nil_ _ _, B3⟩
  · go_wp2_with fail
    refine (HF.out _ B3).mono ?_
    rintro e w4 ⟨A', c', rfl, ho, hb4⟩
    go_wp2
    go_ret3
    exact ⟨A', c', by simp [HNL.out], ho.mono B3.size, B3.trans (hb4.mono B3.size)⟩

set_option maxHeartbeats 2000000 in
theorem recurrent_any (n : Int) (A : Option Addr) (c : Nat) (es : List E3) (hlen : es.length ≤ 10000) (q : Int) (B : Option Addr) (d : Nat) (cs : List Int) (hm : cs.length ≤ 1048000) (w : World)
    (h : Reads w w.heap.size 3 A es.length (edgeCells es)) (h' : Reads w w.heap.size 1 B cs.length (ints cs)) :
    Calls Tryz.prog 16 #[.agg #[.int .i64 n, .slice A es.length c], .int .i64 q, .slice B cs.length d] w fun e w' => ∃ A' c', e = .returned (.tuple #[.bool (recE n es q cs).1, .slice A' (recE n es q cs).2.1.length c', .int .i64 (recE n es q cs).2.2]) ∧ OwnI w' w.heap.size A' c' (recE n es q cs).2.1 ∧ Below w.heap.size w w' := by
  by_cases hz : burnErr n es q cs = 0
  · obtain ⟨hG, _, hq0, hqn, _⟩ := conf_zero (burn_zero hz).1
    have hlo := hG.lo
    obtain ⟨m, rfl⟩ := Int.eq_ofNat_of_zero_le (show 0 ≤ n by omega)
    obtain ⟨p, rfl⟩ := Int.eq_ofNat_of_zero_le hq0
    exact recurrent_ok m A c es hlen p B d cs hz w h h'
  · have hE : recE n es q cs = (false, [], burnErr n es q cs) := by unfold recE; rw [if_neg hz]
    rw [hE]
    have hbc := reccheck_any n A c es (by omega) q B d cs (by omega)
    obtain ⟨z, hzz⟩ : ∃ z, burnErr n es q cs = z := ⟨_, rfl⟩
    rw [hzz] at hbc hz ⊢
    have hb : (z == 0) = false := by simpa using hz
    have hb2 : (z != 0) = true := by simpa using hz
    have BC := Lib.hid hbc
    clear hz hE hbc hzz
    go_enter Tryz.func16, Tryz.ntmps16
    go_wp2_with fail
    refine (BC.out _ ((h.alloc (Nat.le_refl _) _).more (by simp)) ((h'.alloc (Nat.le_refl _) _).more (by simp))).mono ?_
    rintro e w1 ⟨rfl, hb1⟩
    have hB1 : Below w.heap.size w w1 := ((Below.refl _ _).alloc (Nat.le_refl _) _).trans (hb1.mono (by simp))
    go_wp2
    go_ret3
    exact ⟨none, 0, rfl, OwnI.nil_ _ _, hB1⟩
end Go.Proofs.YtdnoeaoelgehcaaGreat

/-! Plain: the greatest forbidden set is what the fire leaves; what is above a recurrent configuration is recurrent. -/
namespace Go.Proofs.YtdnoeaoelgehcaaGreat
open Go.RowKit

/-- What the fire leaves. -/
def worstL (n : Nat) (es : List E3) (cs : List Int) (q : Nat) : List Nat := restL n (recL n es cs q)
theorem flm_rest {es : List E3} {n v : Nat} {l : List Nat} : ∀ k, k ≤ n → flmTo es l v k + flmTo es (restL n l) v k = flmTo es (List.range n) v k
  | 0, _ => rfl
  | k + 1, hk => by
    simp only [flmTo]
    have ih := flm_rest (es := es) (n := n) (v := v) (l := l) k (by omega)
    rw [if_pos (show k ∈ List.range n from List.mem_range.2 (by omega))]
    by_cases h : k ∈ l
    · rw [if_pos h, if_neg (fun hc => (mem_rest.1 hc).2 h)]; omega
    · rw [if_neg h, if_pos (mem_rest.2 ⟨by omega, h⟩)]; omega
theorem jn_rest {n : Nat} {es : List E3} (hG : RightG n es) (l : List Nat) (v : Nat) : jnE es l v + jnE es (restL n l) v = valE es v := by
  rw [valE_jn (n := n) hG.ok, jnE_flm hG, jnE_flm hG, jnE_flm hG, flm_rest n (Nat.le_refl _)]
/-- Who has enough chips in the rest burns. -/
theorem rest_catch {n : Nat} {es : List E3} (hG : RightG n es) (cs : List Int) (l : List Nat) (v : Nat) : decide (jnE es (restL n l) v ≤ cs.getD v 0) = catchB es cs l v := by
  unfold catchB
  rw [decide_eq_decide]
  have := jn_rest hG l v
  omega
theorem catL_mono {es : List E3} (he : ∀ a b, 0 ≤ btw es a b) {c : List Int} {n : Nat} {l l' : List Nat} {v : Nat} (hl : LOk n l) (hl' : LOk n l') (hs : ∀ u ∈ l, u ∈ l') (hv : v ∉ l') (h : catL es c l v = true) : catL es c l' v = true := by
  rw [catL_true] at h ⊢
  have := joins_mono he hl hl' hs v
  exact ⟨hv, by omega⟩
/-- The marks of the rest. -/
theorem marks_rest_set {n v : Nat} (hv : v < n) (l : List Nat) : (marks n (restL n l)).set v false = marks n (restL n (l ++ [v])) := by
  apply List.ext_getElem?
  intro i
  by_cases hi : i < n
  · rw [marks_get hi]
    by_cases e : i = v
    · subst e
      rw [List.getElem?_set_self (by rw [marks_length]; exact hi), decide_eq_false (fun hc => (mem_rest.1 hc).2 (by simp))]
    · rw [List.getElem?_set_ne (fun e' => e e'.symm), marks_get hi]
      congr 1
      rw [decide_eq_decide, mem_rest, mem_rest]
      simp [e]
  · rw [List.getElem?_eq_none (by simp [marks_length]; omega), List.getElem?_eq_none (by simp [marks_length]; omega)]
theorem marks_all (n : Nat) : List.replicate n true = marks n (restL n []) := by
  apply List.ext_getElem?
  intro i
  by_cases hi : i < n
  · rw [marks_get hi, List.getElem?_replicate, if_pos hi, decide_eq_true (mem_rest.2 ⟨hi, by simp⟩)]
  · rw [List.getElem?_eq_none (by simp; omega), List.getElem?_eq_none (by simp [marks_length]; omega)]
theorem restL_congr {n : Nat} {l l' : List Nat} (h : ∀ u, u ∈ l ↔ u ∈ l') : restL n l = restL n l' := by
  unfold restL
  apply List.filter_congr
  intro u _
  rw [decide_eq_decide.2 (h u)]
/-- However it goes, the fire leaves the same. -/
theorem forb_end {n q : Nat} {es : List E3} {cs : List Int} (hG : RightG n es) (hq : q < n) {l : List Nat} (hl : LOk n l) (hql : q ∈ l) (hs : ∀ u ∈ l, u ∈ recL n es cs q) (hc : ∀ v, v < n → catL es (dualL n es cs) l v = false) : restL n l = worstL n es cs q := by
  refine restL_congr fun u => ⟨hs u, fun hu => ?_⟩
  exact burns_same (l := [q]) (by simpa using hql) hc hl (fun a b => (btw_bd hG.ok a b).1) n (lok_one hq) u hu
/-- One more that burns. -/
theorem forb_step {n q : Nat} {es : List E3} {cs : List Int} (hG : RightG n es) (hq : q < n) {l : List Nat} (hl : LOk n l) (hs : ∀ u ∈ l, u ∈ recL n es cs q) {v : Nat} (hv : v < n) (h : catL es (dualL n es cs) l v = true) : ∀ u ∈ l ++ [v], u ∈ recL n es cs q := by
  intro u hu
  rcases List.mem_append.1 hu with hu | hu
  · exact hs u hu
  · rw [List.mem_singleton.1 hu]
    by_cases hm : v ∈ recL n es cs q
    · exact hm
    · exfalso
      have h1 := catL_mono (fun a b => (btw_bd hG.ok a b).1) hl (recL_ok hq) hs hm h
      have h2 := burnL_done (es := es) (c := dualL n es cs) (k := n) (lok_one hq) (by simp) v hv
      unfold recL burntL at h1
      rw [h1] at h2
      cases h2
theorem recL_sink {n q : Nat} {es : List E3} {cs : List Int} : q ∈ recL n es cs q := by
  have := burnL_pre (es := es) (c := dualL n es cs) (n := n) n [q]
  obtain ⟨z, hz⟩ := this
  unfold recL burntL
  rw [← hz]
  simp
theorem full_iff {n q : Nat} {es : List E3} {cs : List Int} (hq : q < n) : (recL n es cs q).length = n ↔ worstL n es cs q = [] := by
  have := rest_len (recL n es cs q) (recL_ok hq)
  unfold worstL
  rw [← List.length_eq_zero_iff]
  omega
/-- What is above a recurrent configuration, and stable, is recurrent. -/
theorem recB_mono {n q : Nat} {es : List E3} (hG : RightG n es) (hq : q < n) {x y : List Int} (h : ∀ i, i < n → x.getD i 0 ≤ y.getD i 0) (hy : stabTo es y q n = true) (hx : recB n es x q = true) : recB n es y q = true := by
  unfold recB at hx ⊢
  rw [Bool.and_eq_true] at hx ⊢
  refine ⟨hy, ?_⟩
  have h1 := of_decide_eq_true hx.2
  refine decide_eq_true ?_
  rw [full_iff hq] at h1 ⊢
  unfold worstL at h1 ⊢
  have hf := fewer_burn (n := n) (q := q) (es := es) (fun a b => (btw_bd hG.ok a b).1) hq (cs := dualL n es x) (ds := dualL n es y) (fun v hv => by rw [dualL_get es x hv, dualL_get es y hv]; have := h v hv; omega)
  apply List.eq_nil_iff_forall_not_mem.2
  intro u hu
  obtain ⟨h2, h3⟩ := mem_rest.1 hu
  apply h3
  refine hf u ?_
  apply Classical.byContradiction
  intro hn
  have := mem_rest.2 ⟨h2, hn⟩
  unfold recL at h1
  rw [h1] at this
  cases this
theorem stabTo_iff {n q : Nat} {es : List E3} {cs : List Int} : stabTo es cs q n = true ↔ ∀ v, v < n → v ≠ q → cs.getD v 0 < valE es v := by
  unfold stabTo
  rw [List.all_eq_true]
  constructor
  · intro h v hv hq
    have := h v (List.mem_range.2 hv)
    rw [decide_eq_false hq, Bool.false_or] at this
    exact of_decide_eq_true this
  · intro h v hv
    by_cases hq : v = q
    · simp [hq]
    · rw [decide_eq_true (h v (List.mem_range.1 hv) hq), Bool.or_true]
end Go.Proofs.YtdnoeaoelgehcaaGreat

/-! Plain: lists below a list, in lexicographic order; those with a property that what is more has too. No program is in sight. -/
namespace Go.Proofs.YtdnoeaoelgehcaaGreat

/-- The lists that are found from a list on: fuel f, so the place is n - f. -/
def enumR (rec : List Int → Bool) (top : List Int) (n : Nat) : Nat → List Int → List (List Int)
  | 0, c => if rec c then [c] else []
  | f + 1, c => if rec c then (List.range ((top.getD (n - (f + 1)) 0) + 1).toNat).flatMap fun k : Nat => enumR rec top n f (c.set (n - (f + 1)) (k : Int)) else []
/-- .. from the k-th number on. -/
def remR (rec : List Int → Bool) (top : List Int) (n f : Nat) (c : List Int) (k : Nat) : List (List Int) := ((List.range ((top.getD (n - (f + 1)) 0) + 1).toNat).drop k).flatMap fun k : Nat => enumR rec top n f (c.set (n - (f + 1)) (k : Int))
/-- All lists that go on like this. -/
def extL (top : List Int) (n : Nat) : Nat → List Int → List (List Int)
  | 0, c => [c]
  | f + 1, c => (List.range ((top.getD (n - (f + 1)) 0) + 1).toNat).flatMap fun k : Nat => extL top n f (c.set (n - (f + 1)) (k : Int))
/-- The lists of v numbers below. -/
def belL (top : List Int) : Nat → List (List Int)
  | 0 => [[]]
  | v + 1 => (belL top v).flatMap fun p => (List.range ((top.getD v 0) + 1).toNat).map fun k : Nat => p ++ [(k : Int)]
theorem flat_congr {α β : Type} {f g : α → List β} : ∀ {l : List α}, (∀ a ∈ l, f a = g a) → l.flatMap f = l.flatMap g
  | [], _ => rfl
  | a :: l, h => by rw [List.flatMap_cons, List.flatMap_cons, h a (by simp), flat_congr fun b hb => h b (by simp [hb])]
section
variable {rec : List Int → Bool} {top : List Int} {n f v k : Nat} {c : List Int}
theorem enumR_no (h : rec c = false) : enumR rec top n f c = [] := by
  cases f <;> simp [enumR, h]
theorem enumR_zero (h : rec c = true) : enumR rec top n 0 c = [c] := by simp [enumR, h]
theorem enumR_succ (h : rec c = true) : enumR rec top n (f + 1) c = remR rec top n f c 0 := by simp [enumR, remR, h]
theorem remR_step (hv : v + (f + 1) = n) (hk : (k : Int) ≤ top.getD v 0) : remR rec top n f c k = enumR rec top n f (c.set v (k : Int)) ++ remR rec top n f c (k + 1) := by
  unfold remR
  obtain rfl : n - (f + 1) = v := by omega
  rw [List.drop_eq_getElem_cons (by rw [List.length_range]; omega), List.flatMap_cons]
  simp
theorem remR_end (hv : v + (f + 1) = n) (hk : top.getD v 0 < (k : Int)) : remR rec top n f c k = [] := by
  unfold remR
  obtain rfl : n - (f + 1) = v := by omega
  rw [List.drop_eq_nil_of_le (by rw [List.length_range]; omega)]
  rfl
theorem extL_some (hv : v + (f + 1) = n) : extL top n (f + 1) c = (List.range ((top.getD v 0) + 1).toNat).flatMap fun k : Nat => extL top n f (c.set v (k : Int)) := by
  obtain rfl : n - (f + 1) = v := by omega
  rfl
theorem set_drop {p : List Int} (hv : v < top.length) (hp : p.length = v) (x : Int) : (p ++ top.drop v).set v x = (p ++ [x]) ++ top.drop (v + 1) := by
  rw [List.set_append_right _ _ (by omega), hp, Nat.sub_self, List.drop_eq_getElem_cons hv, List.set_cons_zero, List.append_assoc]
  rfl
theorem belL_length : ∀ v, ∀ p ∈ belL top v, p.length = v
  | 0, p, h => by simp [belL] at h; simp [h]
  | v + 1, p, h => by
    rw [belL, List.mem_flatMap] at h
    obtain ⟨x, hx, h⟩ := h
    rw [List.mem_map] at h
    obtain ⟨k, _, rfl⟩ := h
    simp [belL_length v x hx]
theorem ext_bel (hn : top.length = n) : ∀ f v, v + f = n → ((belL top v).flatMap fun p => extL top n f (p ++ top.drop v)) = belL top n
  | 0, v, h => by
    obtain rfl : v = n := by omega
    have h1 : ∀ p, p ++ top.drop v = p := fun p => by rw [List.drop_eq_nil_of_le (by omega), List.append_nil]
    simp only [h1, extL]
    simp
  | f + 1, v, h => by
    rw [← ext_bel hn f (v + 1) (by omega), belL, List.flatMap_assoc]
    apply flat_congr
    intro p hp
    rw [extL_some h, List.flatMap_map]
    apply flat_congr
    intro k hk
    rw [set_drop (by omega) (belL_length v p hp)]
theorem bel_ext (hn : top.length = n) : belL top n = extL top n n top := by
  have := ext_bel hn n 0 (by omega)
  simpa [belL] using this.symm
/-- What is found goes on like the list, and is less. -/
theorem ext_le : ∀ f, f ≤ n → ∀ c : List Int, c.length = n → (∀ i, n - f ≤ i → i < n → c.getD i 0 = top.getD i 0) → ∀ x ∈ extL top n f c, x.length = n ∧ ∀ i, i < n → x.getD i 0 ≤ c.getD i 0
  | 0, _, c, hc, _, x, hx => by
    simp [extL] at hx; subst hx; exact ⟨hc, fun i _ => Int.le_refl _⟩
  | f + 1, hf, c, hc, ht, x, hx => by
    rw [extL_some (v := n - (f + 1)) (by omega), List.mem_flatMap] at hx
    obtain ⟨k, hk, hx⟩ := hx
    have hk := List.mem_range.1 hk
    have hset : ∀ i, (c.set (n - (f + 1)) (k : Int)).getD i 0 = if i = n - (f + 1) then (k : Int) else c.getD i 0 := by
      intro i
      rw [List.getD_eq_getElem?_getD, List.getElem?_set]
      by_cases h : n - (f + 1) = i
      · rw [if_pos h, if_pos (by omega), if_pos h.symm]; rfl
      · rw [if_neg h, if_neg (fun e => h e.symm), ← List.getD_eq_getElem?_getD]
    obtain ⟨h1, h2⟩ := ext_le f (by omega) (c.set (n - (f + 1)) (k : Int)) (by simpa using hc) (fun i h1 h2 => by rw [hset, if_neg (by omega)]; exact ht i (by omega) h2) x hx
    refine ⟨h1, fun i hi => ?_⟩
    have h3 := h2 i hi
    rw [hset] at h3
    by_cases h : i = n - (f + 1)
    · rw [if_pos h] at h3
      have := ht i (by omega) hi
      rw [← h] at hk
      omega
    · rw [if_neg h] at h3; exact h3
/-- What is cut off has no element with the property. -/
theorem enum_filter (hm : ∀ x y : List Int, x.length = n → (∀ i, i < n → x.getD i 0 ≤ y.getD i 0) → (∀ i, i < n → y.getD i 0 ≤ top.getD i 0) → rec x = true → rec y = true) :
    ∀ f, f ≤ n → ∀ c : List Int, c.length = n → (∀ i, n - f ≤ i → i < n → c.getD i 0 = top.getD i 0) → (∀ i, i < n → c.getD i 0 ≤ top.getD i 0) → enumR rec top n f c = (extL top n f c).filter rec
  | 0, _, c, _, _, _ => by
    simp only [enumR, extL, List.filter_cons, List.filter_nil]
  | f + 1, hf, c, hc, ht, hl => by
    cases h : rec c
    · rw [enumR_no h]
      symm
      rw [List.filter_eq_nil_iff]
      intro x hx hr
      obtain ⟨h1, h2⟩ := ext_le (f + 1) hf c hc ht x hx
      rw [hm x c h1 h2 hl hr] at h
      cases h
    · rw [enumR, if_pos h, extL, List.filter_flatMap]
      apply flat_congr
      intro k hk
      have hk := List.mem_range.1 hk
      have hset : ∀ i, (c.set (n - (f + 1)) (k : Int)).getD i 0 = if i = n - (f + 1) then (k : Int) else c.getD i 0 := by
        intro i
        rw [List.getD_eq_getElem?_getD, List.getElem?_set]
        by_cases h : n - (f + 1) = i
        · rw [if_pos h, if_pos (by omega), if_pos h.symm]; rfl
        · rw [if_neg h, if_neg (fun e => h e.symm), ← List.getD_eq_getElem?_getD]
      refine enum_filter hm f (by omega) _ (by simpa using hc) (fun i h1 h2 => by rw [hset, if_neg (by omega)]; exact ht i (by omega) h2) (fun i hi => ?_)
      rw [hset]
      split
      · rename_i e; subst e; omega
      · exact hl i hi
theorem enum_bel (hm : ∀ x y : List Int, x.length = n → (∀ i, i < n → x.getD i 0 ≤ y.getD i 0) → (∀ i, i < n → y.getD i 0 ≤ top.getD i 0) → rec x = true → rec y = true) (hn : top.length = n) : enumR rec top n n top = (belL top n).filter rec := by
  rw [bel_ext hn]
  exact enum_filter hm n (Nat.le_refl _) top hn (fun _ _ _ => rfl) (fun _ _ => Int.le_refl _)
end
end Go.Proofs.YtdnoeaoelgehcaaGreat

/-! Slices of divisors, of the call's own. -/
namespace Go.Proofs.YtdnoeaoelgehcaaGreat
open Go.RowKit

theorem info_divs : (Tryz.prog.info? 26).map (fun i => (i.zero, i.size, i.bytes)) = some (some (.slice none 0 0), 1, 24) := by kernel_rfl
/-- The slice value is the call's own, and so is each of its rows; they read as the lists. -/
def OwnDivs (w : World) (base : Nat) (A : Option Addr) (c : Nat) (vs : List Value) (xss : List (List Int)) : Prop :=
  w.ownsRow base 26 1 (.slice A xss.length c) xss.length vs ∧ (∀ u ∈ vs, u.oneCell' = true) ∧
  ∀ (i : Nat) (xs : List Int), xss[i]? = some xs → ∃ A' c', vs[i]? = some (.slice A' xs.length c') ∧ OwnI w base A' c' xs
section
variable {w w' : World} {base : Nat} {A : Option Addr} {c : Nat} {vs : List Value} {xss : List (List Int)}
theorem OwnDivs.nil_ (w : World) (base : Nat) : OwnDivs w base none 0 [] [] := ⟨World.ownsRow_nil _ _ _ _, by simp, by simp⟩
theorem OwnDivs.len (h : OwnDivs w base A c vs xss) : vs.length = xss.length := by have := h.1.1; omega
theorem OwnDivs.kept (h : OwnDivs w base A c vs xss) (hk : ∀ k, rowBlock A vs k → w'.heap[k]? = w.heap[k]?) : OwnDivs w' base A c vs xss := by
  refine ⟨own_kept h.1 fun k hb => hk k (.inl hb), h.2.1, fun i xs hi => ?_⟩
  obtain ⟨A', c', hv, ho⟩ := h.2.2 i xs hi
  exact ⟨A', c', hv, own_kept ho fun k hb => hk k (.inr ⟨_, List.mem_of_getElem? hv, blockOf_own.2 hb⟩)⟩
theorem OwnDivs.lt (h : OwnDivs w base A c vs xss) {k : Nat} (hk : rowBlock A vs k) : base ≤ k ∧ k < w.heap.size := by
  rcases hk with hk | ⟨v, hv, hk⟩
  · exact own_lt h.1 hk
  · obtain ⟨i, hi⟩ := List.getElem?_of_mem hv
    have hil : i < xss.length := by
      have := (List.getElem?_eq_some_iff.1 hi).1
      rw [h.len] at this; exact this
    obtain ⟨xs, hxs⟩ := get_of_lt hil
    obtain ⟨A', c', hv', ho⟩ := h.2.2 i xs hxs
    rw [hi] at hv'
    injection hv' with hv'
    subst hv'
    exact own_lt ho (blockOf_own.1 hk)
theorem OwnDivs.next (h : OwnDivs w base A c vs xss) (hb : Below w.heap.size w w') : OwnDivs w' base A c vs xss := h.kept fun k hk => hb.block k (h.lt hk).2
theorem OwnDivs.mono {base' : Nat} (h : OwnDivs w base A c vs xss) (hb : base' ≤ base) : OwnDivs w base' A c vs xss := by
  refine ⟨own_rebase h.1 fun k hk => Nat.le_trans hb (own_lt h.1 hk).1, h.2.1, fun i xs hi => ?_⟩
  obtain ⟨A', c', hv, ho⟩ := h.2.2 i xs hi
  exact ⟨A', c', hv, ho.mono hb⟩
end

theorem OwnDivs.ne_blk {w : World} {base : Nat} {A : Option Addr} {c : Nat} {vs : List Value} {xss : List (List Int)} (h : OwnDivs w base A c vs xss) {g : Nat} {t : TypeId} {cs : Array Value} (hg : Blk w g t cs) (h1 : 26 ≠ t) (h2 : 3 ≠ t) {k : Nat} (hk : rowBlock A vs k) : k ≠ g := by
  rcases hk with hk | ⟨v, hv, hk⟩
  · exact own_blk h.1 hg h1 hk
  · obtain ⟨i, hi⟩ := List.getElem?_of_mem hv
    have hil : i < xss.length := by
      have := (List.getElem?_eq_some_iff.1 hi).1
      rw [h.len] at this; exact this
    obtain ⟨xs, hxs⟩ := get_of_lt hil
    obtain ⟨A', c', hv', ho⟩ := h.2.2 i xs hxs
    rw [hi] at hv'
    injection hv' with hv'
    subst hv'
    exact own_blk ho hg h2 (blockOf_own.1 hk)
theorem OwnDivs.set_blk {w : World} {base : Nat} {A : Option Addr} {c : Nat} {vs : List Value} {xss : List (List Int)} (h : OwnDivs w base A c vs xss) {g : Nat} {t : TypeId} {cs : Array Value} (hg : Blk w g t cs) (h1 : 26 ≠ t) (h2 : 3 ≠ t) (o : Nat) (u : Value) : OwnDivs (w.setCell ⟨g, o, none⟩ u) base A c vs xss :=
  h.kept fun _ hk => Below.heap_setCell w ⟨g, o, none⟩ u _ (h.ne_blk hg h1 h2 hk)
/-- One row more. -/
theorem OwnDivs.push {w w' : World} {base : Nat} {A A' A8 : Option Addr} {c c' c8 : Nat} {vs : List Value} {xss : List (List Int)} {x : List Int} (h : OwnDivs w base A c vs xss) (h8 : OwnI w base A8 c8 x)
    (hown : w'.ownsRow base 26 1 (.slice A' (xss.length + 1) c') (xss.length + 1) (vs ++ [.slice A8 x.length c8])) (hg : w.grownBy w' (Value.slice A xss.length c).ownBlock) : OwnDivs w' base A' c' (vs ++ [.slice A8 x.length c8]) (xss ++ [x]) := by
  have keep : ∀ {A1 : Option Addr} {c1 : Nat} {y : List Int}, OwnI w base A1 c1 y → OwnI w' base A1 c1 y := fun {A1 c1 y} ho => own_kept ho fun k hk => hg.block k (own_lt ho hk).2 fun e => by
    exact own_ne ho h.1 (by decide) hk (blockOf_own.1 e.symm) rfl
  refine ⟨by rw [List.length_append]; exact hown, ?_, fun i xs hi => ?_⟩
  · intro u hu
    rcases List.mem_append.1 hu with hu | hu
    · exact h.2.1 u hu
    · rw [List.mem_singleton.1 hu]; rfl
  · have hl := h.len
    rcases Nat.lt_trichotomy i xss.length with hlt | rfl | hgt
    · rw [List.getElem?_append_left hlt] at hi
      obtain ⟨A1, c1, hv, ho⟩ := h.2.2 i xs hi
      exact ⟨A1, c1, by rw [List.getElem?_append_left (by omega)]; exact hv, keep ho⟩
    · have : xs = x := by simpa using hi.symm
      subst this
      exact ⟨A8, c8, by rw [← hl]; simp, keep h8⟩
    · rw [List.getElem?_eq_none (by simp; omega)] at hi; cases hi

theorem OwnDivs.reads {w : World} {base : Nat} {A : Option Addr} {c : Nat} {vs : List Value} {xss : List (List Int)} (h : OwnDivs w base A c vs xss) : RowsR w w.heap.size A xss :=
  ⟨vs, Reads.of_own h.1, fun i xs hi => by
    obtain ⟨A', c', hv, ho⟩ := h.2.2 i xs hi
    exact ⟨A', c', hv, ho.reads⟩⟩
/-- The argument of a round is a slice of its own. -/
def ArgD (xs : List Int) (args : Array Value) (O : Nat → Prop) (W : World) : Prop := ∃ A c, args = #[.slice A xs.length c] ∧ OwnI W 0 A c xs ∧ ∀ k, blockOf A k → O k
end Go.Proofs.YtdnoeaoelgehcaaGreat

