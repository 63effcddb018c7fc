/-
  Texts of this claim, put together: RRecur, DualT, AgreesP, RCalm, WorstP, TCount, LitF, RSettled, SupP.
-/
import Derived.Test.YtplgbapbgcipdaaGreatK30
import Derived.Test.YtplgbapbgcipdaaGreatK23
import Derived.Test.YtplgbapbgcipdaaGreatK29
import Derived.Test.YtplgbapbgcipdaaGreatK24
import Derived.Test.YtplgbapbgcipdaaGreatK25
import Derived.Test.YtplgbapbgcipdaaGreatK18
import Derived.Deep.RegionHeld3
import Derived.Test.YtplgbapbgcipdaaGreatK31
import Derived.Test.YtplgbapbgcipdaaGreatK11
import Derived.Test.YtplgbapbgcipdaaGreatK19
import Derived.Deep.CutBlock
import Derived.Deep.RegionLaw
import Derived.Test.YtplgbapbgcipdaaGreatK26
/-! Package recurrent: check, recurs, Recurrent. -/
namespace Go.Proofs.YtplgbapbgcipdaaGreat
open Go.RowKit


set_option maxRecDepth 100000 in
set_option maxHeartbeats 2000000 in
theorem reccheck_any (n : Int) (A : Option Addr) (c : Nat) (es : List E3) (hn : es.length ≤ 1048576) (q : Int) (B : Option Addr) (d : Nat) (cs : List Int) (hm : cs.length ≤ 1048576) (w : World) (h : Reads w w.heap.size 3 A es.length (edgeCells es)) (h' : Reads w w.heap.size 1 B cs.length (ints cs)) :
    Calls Tryz.prog 36 #[.agg #[.int .i64 n, .slice A es.length c], .int .i64 q, .slice B cs.length d] w fun e w' => e = .returned (.int .i64 (burnErr n es q cs)) ∧ Below w.heap.size w w' := by
  have GC := Lib.hid (scheck_any n A c es hn q B d cs hm)
  rcases burn_cases n es q cs with ⟨h1, hE⟩ | ⟨h1, h2, hE⟩ | ⟨h1, h2, hE⟩
  · rw [hE]
    obtain ⟨r, hr⟩ : ∃ r, confErr n es q cs = r := ⟨_, rfl⟩
    rw [hr] at GC h1 ⊢
    have hb : (r != 0) = true := by simpa using h1
    clear hr h1 hE
    go_enter Tryz.func36, Tryz.ntmps36
    go_wp2_with fail
    refine (GC.out _ ((h.alloc (Nat.le_refl _) _).more (by simp)) ((h'.alloc (Nat.le_refl _) _).more (by simp))).mono ?_
    rintro e w1 ⟨rfl, hb1⟩
    have hbel1 : Below w.heap.size w w1 := ((Below.refl _ _).alloc (Nat.le_refl _) _).trans (hb1.mono (by simp))
    go_wp2
    go_ret
    exact ⟨rfl, hbel1⟩
  all_goals
    rw [hE]
    obtain ⟨_, _, hq0, hqn, hlen, _, _⟩ := conf_zero h1
    obtain ⟨v, rfl⟩ := Int.eq_ofNat_of_zero_le hq0
    rw [Int.toNat_natCast] at h2
    obtain ⟨x, hx⟩ := get_of_lt (xs := cs) (k := v) (by omega)
    rw [getD_at hx] at h2
    rw [h1] at GC
    have hi : (v : Int) < (cs.length : Int) := by omega
    have HX := Lib.hid hx
    clear h1 hE hx hlen
    go_enter Tryz.func36, Tryz.ntmps36
    go_wp2_with fail
    refine (GC.out _ ((h.alloc (Nat.le_refl _) _).more (by simp)) ((h'.alloc (Nat.le_refl _) _).more (by simp))).mono ?_
    rintro e w1 ⟨rfl, hb1⟩
    have hbel1 : Below w.heap.size w w1 := ((Below.refl _ _).alloc (Nat.le_refl _) _).trans (hb1.mono (by simp))
    obtain ⟨b, off, rfl, hb', hcell⟩ := (h'.below hbel1).at_ (ints_at HX.out)
    first
      | (have hb0 : (x != 0) = true := by simpa using h2
         clear h2
         go_wp2
         go_ret
         exact ⟨rfl, hbel1⟩)
      | (subst h2
         go_wp2
         go_ret
         exact ⟨rfl, hbel1⟩)

set_option maxRecDepth 100000 in
set_option maxHeartbeats 8000000 in
theorem recurs_any (n : Nat) (A : Option Addr) (c : Nat) (es : List E3) (q : Nat) (hq : q < n) (B : Option Addr) (d : Nat) (cs : List Int) (hR : RArgs n es cs) (w : World)
    (h : Reads w w.heap.size 3 A es.length (edgeCells es)) (h' : Reads w w.heap.size 1 B n (ints cs)) :
    Calls Tryz.prog 56 #[pileV n A es.length c q B n d] w fun e w' => e = .returned (.bool (recB n es cs q)) ∧ Below w.heap.size w w' := by
  have hn12 : n ≤ 12 := by have := (right_of hR.hz).hi; omega
  have HS := Lib.hid (fun (W : World) (hB : Below w.heap.size w W) => stable_any n hn12 A c es hR.hn hR.hz q B d cs hR.hcl W ((h.below hB).more hB.size) ((h'.below hB).more hB.size))
  have HF := Lib.hid (fun (W : World) (hB : Below w.heap.size w W) => rfire_any n A c es q hq B d cs hR W ((h.below hB).more hB.size) ((h'.below hB).more hB.size))
  have g0 := Blk.new w 80 (pileC n A es.length c q B n d)
  have hB0 : Below w.heap.size w (w.alloc (.cells (pileC n A es.length c q B n d) 80)) := (Below.refl _ _).alloc (Nat.le_refl _) _
  unfold recB
  obtain ⟨S, hS⟩ : ∃ S, stabTo es cs q n = S := ⟨_, rfl⟩
  obtain ⟨R, hRL⟩ : ∃ R, recL n es cs q = R := ⟨_, rfl⟩
  rw [hS] at HS ⊢
  rw [hRL] at HF ⊢
  clear hS hRL
  simp only [pileV, pileC] at g0 hB0 HS HF ⊢
  have hgw : w.heap.size < (w.alloc (.cells #[.int .i64 n, .slice A es.length c, .int .i64 q, .slice B n d] 80)).heap.size := by simp
  have c0 := g0.cell 0
  have c1 := g0.cell 1
  have c2 := g0.cell 2
  have c3 := g0.cell 3
  obtain ⟨W0, hW0⟩ : ∃ W0, w.alloc (.cells #[.int .i64 n, .slice A es.length c, .int .i64 q, .slice B n d] 80) = W0 := ⟨_, rfl⟩
  have HW0 := Lib.hid hW0
  rw [hW0] at g0 hB0 c0 c1 c2 c3 hgw
  clear hW0
  have HS2 := Lib.hid (HS.out W0.drew hB0.drew)
  have HF2 := Lib.hid (fun (W : World) (hB : Below W0.heap.size W0 W) => HF.out W (hB0.trans (hB.mono hB0.size)))
  have KC := Lib.hid (fun (W : World) (hB : Below W0.heap.size W0 W) => (⟨(hB.cell (p := ⟨w.heap.size, 0, none⟩) hgw).trans c0, (hB.cell (p := ⟨w.heap.size, 1, none⟩) hgw).trans c1, (hB.cell (p := ⟨w.heap.size, 2, none⟩) hgw).trans c2, (hB.cell (p := ⟨w.heap.size, 3, none⟩) hgw).trans c3⟩ :
    W.cell? ⟨w.heap.size, 0, none⟩ = some (.int .i64 n) ∧ W.cell? ⟨w.heap.size, 1, none⟩ = some (.slice A es.length c) ∧ W.cell? ⟨w.heap.size, 2, none⟩ = some (.int .i64 q) ∧ W.cell? ⟨w.heap.size, 3, none⟩ = some (.slice B n d)))
  have B0 : Below W0.heap.size W0 W0.drew := (Below.refl _ _).drew
  clear g0 HS HF hR
  cases S
  · go_enter Tryz.func56, Tryz.ntmps56
    go_wp2_with fail
    rw [HW0.out]
    first
      | go_region_with ((go_at_call 92; refine (HS2.out).mono ?_; rintro e wJ ⟨rfl, bJ⟩; have BJ := B0.trans (bJ.mono (Nat.le_refl _)); obtain ⟨j0, j1, j2, j3⟩ := KC.out wJ BJ))
      | fail
    all_goals
      go_wp2
      go_ret
      exact ⟨rfl, hB0.trans (BJ.mono hB0.size)⟩
  · go_enter Tryz.func56, Tryz.ntmps56
    go_wp2_with fail
    rw [HW0.out]
    go_region_held3 (fun W => W.cell? ⟨w.heap.size, 0, none⟩ = some (.int .i64 n) ∧ W.cell? ⟨w.heap.size, 1, none⟩ = some (.slice A es.length c) ∧ W.cell? ⟨w.heap.size, 2, none⟩ = some (.int .i64 q) ∧ W.cell? ⟨w.heap.size, 3, none⟩ = some (.slice B n d)) (go_keep)
      (first
        | (go_at_call 92; refine (HS2.out).mono ?_; rintro e wJ ⟨rfl, bJ⟩; have BJ := B0.trans (bJ.mono (Nat.le_refl _)); obtain ⟨j0, j1, j2, j3⟩ := KC.out wJ BJ)
        | (go_at_call 65; refine (HF2.out _ BJ).mono ?_; rintro e wV ⟨A', c', rfl, _, bV⟩; have BV := BJ.trans (bV.mono BJ.size); obtain ⟨l0, l1, l2, l3⟩ := KC.out wV BV))
    all_goals
      go_wp2
      go_ret
      exact ⟨ret_bool (by rw [Bool.true_and, Bool.eq_iff_iff]; simp; omega), hB0.trans (BV.mono hB0.size)⟩
theorem burn_rargs {n q : Nat} {es : List E3} {cs : List Int} (hlen : es.length ≤ 10000) (hz : burnErr n es q cs = 0) : RArgs n es cs ∧ q < n ∧ cs.length = n := by
  have hc := (burn_zero hz).1
  obtain ⟨_, _, _, hqn, hl, hb, _⟩ := conf_zero hc
  have hck : checkG n es = 0 := by
    rcases conf_cases n es q cs with ⟨h1, hE⟩ | ⟨h1, h2, hE⟩ | ⟨h1, h2, hE⟩
    · exact absurd (hE ▸ hc) h1
    · exact absurd (hE ▸ hc) h2
    · rcases root_cases n es q with ⟨k1, kE⟩ | ⟨k1, k2, kE⟩ | ⟨k1, k2, k3, kE⟩ | ⟨k1, k2, k3, kE⟩
      · exact absurd (kE ▸ h1) k1
      · exact k1
      · exact k1
      · exact k1
  exact ⟨⟨hlen, hck, by omega, fun x hx => by have := hb x hx; omega⟩, by omega, by omega⟩
/-- What Recurrent returns. -/
def recE (n : Int) (es : List E3) (q : Int) (cs : List Int) : Bool × List Int × Int := if burnErr n es q cs = 0 then (if recB n.toNat es cs q.toNat then (true, natI (recL n.toNat es cs q.toNat), 0) else (false, [], 0)) else (false, [], burnErr n es q cs)

set_option maxRecDepth 100000 in
set_option maxHeartbeats 8000000 in
theorem recurrent_ok (n : Nat) (A : Option Addr) (c : Nat) (es : List E3) (hlen : es.length ≤ 10000) (q : Nat) (B : Option Addr) (d : Nat) (cs : List Int) (hz : burnErr n es q cs = 0) (w : World)
    (h : Reads w w.heap.size 3 A es.length (edgeCells es)) (h' : Reads w w.heap.size 1 B cs.length (ints cs)) :
    Calls Tryz.prog 32 #[.agg #[.int .i64 n, .slice A es.length c], .int .i64 q, .slice B cs.length d] w fun e w' => ∃ A' c', e = .returned (.tuple #[.bool (recE n es q cs).1, .slice A' (recE n es q cs).2.1.length c', .int .i64 (recE n es q cs).2.2]) ∧ OwnI w' w.heap.size A' c' (recE n es q cs).2.1 ∧ Below w.heap.size w w' := by
  obtain ⟨hR, hq, hcl⟩ := burn_rargs hlen hz
  have hn12 : n ≤ 12 := by have := (right_of hR.hz).hi; omega
  have BC := Lib.hid (reccheck_any n A c es (by omega) q B d cs (by omega))
  rw [hz] at BC
  rw [hcl] at h' BC ⊢
  have HS := Lib.hid (fun (W : World) (hB : Below w.heap.size w W) => recurs_any n A c es q hq B d cs hR W ((h.below hB).more hB.size) ((h'.below hB).more hB.size))
  have HF := Lib.hid (fun (W : World) (hB : Below w.heap.size w W) => rfire_any n A c es q hq B d cs hR W ((h.below hB).more hB.size) ((h'.below hB).more hB.size))
  have hE : recE n es q cs = if recB n es cs q then (true, natI (recL n es cs q), 0) else (false, [], 0) := by unfold recE; rw [if_pos hz]; simp
  rw [hE]
  have hnl : (natI (recL n es cs q)).length = (recL n es cs q).length := natI_length _
  have g0 := Blk.new w 24 #[.int .i64 n, .slice A es.length c]
  obtain ⟨S, hS⟩ : ∃ S, recB n es cs q = S := ⟨_, rfl⟩
  obtain ⟨R, hRL⟩ : ∃ R, recL n es cs q = R := ⟨_, rfl⟩
  rw [hS] at HS ⊢
  rw [hRL] at HF hnl ⊢
  have HNL := Lib.hid hnl
  simp only [pileV] at HS HF
  clear hS hRL hR hz hE hnl hcl
  go_enter Tryz.func32, Tryz.ntmps32
  go_wp2_with fail
  refine (BC.out _ ((h.alloc (Nat.le_refl _) _).more (by simp)) ((h'.alloc (Nat.le_refl _) _).more (by simp))).mono ?_
  rintro e w1 ⟨rfl, hb1⟩
  have hB1 : Below w.heap.size w w1 := ((Below.refl _ _).alloc (Nat.le_refl _) _).trans (hb1.mono (by simp))
  have g1 := g0.next hb1
  have c0 := g1.cell 0
  have c1 := g1.cell 1
  clear g0 hb1
  have P2 := Blk.new w1 80 #[.int .i64 n, .slice A es.length c, .int .i64 q, .slice B n d]
  have p0 := P2.cell 0
  have p1 := P2.cell 1
  have p2 := P2.cell 2
  have p3 := P2.cell 3
  have B2 := hB1.alloc hB1.size (.cells #[.int .i64 n, .slice A es.length c, .int .i64 q, .slice B n d] 80)
  go_wp2_with fail
  refine (HS.out _ B2).mono ?_
  rintro e w3 ⟨rfl, hb3⟩
  have P3 := P2.next hb3
  have B3 := B2.trans (hb3.mono B2.size)
  have r0 := P3.cell 0
  have r1 := P3.cell 1
  have r2 := P3.cell 2
  have r3 := P3.cell 3
  clear p0 p1 p2 p3 c0 c1 hb3
  cases S
  · go_wp2
    go_ret3
    exact ⟨none, 0, rfl, OwnI.nil_ _ _, B3⟩
  · go_wp2_with fail
    refine (HF.out _ B3).mono ?_
    rintro e w4 ⟨A', c', rfl, ho, hb4⟩
    go_wp2
    go_ret3
    exact ⟨A', c', by simp [HNL.out], ho.mono B3.size, B3.trans (hb4.mono B3.size)⟩

set_option maxHeartbeats 2000000 in
theorem recurrent_any (n : Int) (A : Option Addr) (c : Nat) (es : List E3) (hlen : es.length ≤ 10000) (q : Int) (B : Option Addr) (d : Nat) (cs : List Int) (hm : cs.length ≤ 1048000) (w : World)
    (h : Reads w w.heap.size 3 A es.length (edgeCells es)) (h' : Reads w w.heap.size 1 B cs.length (ints cs)) :
    Calls Tryz.prog 32 #[.agg #[.int .i64 n, .slice A es.length c], .int .i64 q, .slice B cs.length d] w fun e w' => ∃ A' c', e = .returned (.tuple #[.bool (recE n es q cs).1, .slice A' (recE n es q cs).2.1.length c', .int .i64 (recE n es q cs).2.2]) ∧ OwnI w' w.heap.size A' c' (recE n es q cs).2.1 ∧ Below w.heap.size w w' := by
  by_cases hz : burnErr n es q cs = 0
  · obtain ⟨hG, _, hq0, hqn, _⟩ := conf_zero (burn_zero hz).1
    have hlo := hG.lo
    obtain ⟨m, rfl⟩ := Int.eq_ofNat_of_zero_le (show 0 ≤ n by omega)
    obtain ⟨p, rfl⟩ := Int.eq_ofNat_of_zero_le hq0
    exact recurrent_ok m A c es hlen p B d cs hz w h h'
  · have hE : recE n es q cs = (false, [], burnErr n es q cs) := by unfold recE; rw [if_neg hz]
    rw [hE]
    have hbc := reccheck_any n A c es (by omega) q B d cs (by omega)
    obtain ⟨z, hzz⟩ : ∃ z, burnErr n es q cs = z := ⟨_, rfl⟩
    rw [hzz] at hbc hz ⊢
    have hb : (z == 0) = false := by simpa using hz
    have hb2 : (z != 0) = true := by simpa using hz
    have BC := Lib.hid hbc
    clear hz hE hbc hzz
    go_enter Tryz.func32, Tryz.ntmps32
    go_wp2_with fail
    refine (BC.out _ ((h.alloc (Nat.le_refl _) _).more (by simp)) ((h'.alloc (Nat.le_refl _) _).more (by simp))).mono ?_
    rintro e w1 ⟨rfl, hb1⟩
    have hB1 : Below w.heap.size w w1 := ((Below.refl _ _).alloc (Nat.le_refl _) _).trans (hb1.mono (by simp))
    go_wp2
    go_ret3
    exact ⟨none, 0, rfl, OwnI.nil_ _ _, hB1⟩
end Go.Proofs.YtplgbapbgcipdaaGreat

/-! Plain laws of cycles, cutsets and swaps in a spanning tree, as the program returns them. -/
namespace Go.Proofs.YtplgbapbgcipdaaGreat
open Go.RowKit

theorem edgFrom_ok {m : Nat} : ∀ {t : List Nat} {p : Option Int}, t.Pairwise (· < ·) → (∀ e ∈ t, e < m) → (∀ y, p = some y → ∀ e ∈ t, y < (e : Int)) → edgFrom m p (nI t) = 0
  | [], _, _, _, _ => rfl
  | e :: t, p, h1, h2, h3 => by
    have he := h2 e (by simp)
    show (if (e : Int) < 0 ∨ (m : Int) ≤ (e : Int) then 2 else if leP p (e : Int) = true then 9 else edgFrom m (some (e : Int)) (nI t)) = 0
    rw [if_neg (by omega), if_neg]
    · rw [List.pairwise_cons] at h1
      refine edgFrom_ok h1.2 (fun x hx => h2 x (by simp [hx])) ?_
      rintro y hy x hx
      injection hy with hy
      have := h1.1 x hx
      omega
    · unfold leP
      cases p with
      | none => simp
      | some y =>
        have := h3 y rfl e (by simp)
        simp; omega
theorem edg_ok {m : Nat} {t : List Nat} (h : SetN m t) : edgErr m (nI t) = 0 := edgFrom_ok h.1 h.2 (fun y hy => by cases hy)
theorem tree_ok {m : Nat} {es : List E3} {t : List Nat} (hj : joinErr m es = 0) (h : IsTr m (endsL es) t) : treeErr m es (nI t) = 0 := by
  have hl := h.len
  have e2 : (nI t).map Int.toNat = t := toN_nI t
  unfold treeErr
  rw [if_neg (fun hc => hc hj), if_neg (fun hc => hc (edg_ok h.set)), if_neg (by rw [nI_length]; omega), e2, if_pos (foB_iff.2 h.fo)]
end Go.Proofs.YtplgbapbgcipdaaGreat

/-! Plain laws for BurningAgrees: the waves have the same vertices as the order of burning; both orders prove that all burns; otherwise the unburnt vertices block. No program is in sight. -/
namespace Go.Proofs.YtplgbapbgcipdaaGreat

section
variable {es : List E3} {cs : List Int} {n : Nat}
theorem burn_proves (he : LOk n []) : ∀ (k : Nat) (l : List Nat), ∃ r, burnL es cs n k l = l ++ r ∧ provFrom es cs l r = true
  | 0, l => ⟨[], by simp [burnL], rfl⟩
  | k + 1, l => by
    cases hv : (readyL es cs n l).head? with
    | none => exact ⟨[], by rw [burnL_stop hv]; simp, rfl⟩
    | some v =>
      obtain ⟨r, h1, h2⟩ := burn_proves he k (l ++ [v])
      refine ⟨v :: r, by rw [burnL_step hv, h1]; simp, ?_⟩
      rw [provFrom, h2, decide_eq_true (head_ready hv).2.2]; rfl
end

theorem ren_zero {n : Nat} {l : List Nat} (h : LOk n l) (hl : l.length = n) : renErr n (natsI l) = 0 := by
  have key : ∀ (r s : List Nat), (s ++ r).Nodup → (∀ v ∈ r, v < n) → renFrom n (natsI s) (natsI r) = 0 := by
    intro r
    induction r with
    | nil => intro s _ _; simp [natsI, renFrom]
    | cons v r ih =>
      intro s hn hv
      have h1 := hv v (by simp)
      have h2 : v ∉ s := fun hc => by
        rw [List.nodup_append] at hn
        exact hn.2.2 v hc v (by simp) rfl
      have e : natsI (v :: r) = (v : Int) :: natsI r := rfl
      rw [e, renFrom, if_neg (by omega), if_neg (fun hc => h2 (natsI_mem.1 hc)), ← natsI_snoc]
      exact ih (s ++ [v]) (by simpa using hn) fun u hu => hv u (by simp [hu])
  unfold renErr
  rw [if_neg (by rw [natsI_length]; omega)]
  exact key l [] (by simpa using h.1) h.2
theorem ver_true {n q : Nat} {es : List E3} {cs : List Int} {r : List Nat} (hz : burnErr n es q cs = 0) (h : LOk n ([q] ++ r)) (hl : ([q] ++ r).length = n) (hp : provFrom es cs [q] r = true) : verErr n es q cs (natsI ([q] ++ r)) = 0 ∧ verB n es q cs (natsI ([q] ++ r)) = true := by
  have h1 : verErr n es q cs (natsI ([q] ++ r)) = 0 := by unfold verErr; rw [if_neg (by omega)]; exact ren_zero h hl
  refine ⟨h1, ?_⟩
  unfold verB
  rw [if_pos h1, nats_toNat, natsI_getD]
  unfold provL
  simp [hp]
end Go.Proofs.YtplgbapbgcipdaaGreat

/-! ref08.Valence, ref19.Waiting, ref19.Calm. -/
namespace Go.Proofs.YtplgbapbgcipdaaGreat
open Go.RowKit

end Go.Proofs.YtplgbapbgcipdaaGreat

/-! Plain: the greatest forbidden set, found among all sets, is what the fire leaves. -/
namespace Go.Proofs.YtplgbapbgcipdaaGreat
open Go.RowKit

end Go.Proofs.YtplgbapbgcipdaaGreat

/-! Package tree: All for all graphs; Count. -/
namespace Go.Proofs.YtplgbapbgcipdaaGreat
open Go.RowKit

theorem tall_any (n : Int) (A : Option Addr) (c : Nat) (es : List E3) (hn : es.length ≤ 10000) (hl : (tallE n es).1.length ≤ 16384) (w : World) (h : Reads w w.heap.size 3 A es.length (edgeCells es)) :
    Calls Tryz.prog 57 #[.agg #[.int .i64 n, .slice A es.length c]] w fun e w' => ∃ Ar cr vs, e = .returned (.tuple #[.slice Ar (tallE n es).1.length cr, .int .i64 (tallE n es).2]) ∧ OwnRows w' w.heap.size Ar cr vs (tallE n es).1 ∧ Below w.heap.size w w' := by
  by_cases hj : joinErr n es = 0
  · obtain ⟨_, hG, _⟩ := join_zero hj
    obtain ⟨m, rfl⟩ := Int.eq_ofNat_of_zero_le (show 0 ≤ n by have := hG.lo; omega)
    have hE : tallE m es = ((treesT m (endsL es)).map nI, 0) := by unfold tallE; rw [if_neg (fun hc => hc hj), Int.toNat_natCast]
    rw [hE] at hl ⊢
    dsimp only at hl ⊢
    rw [List.length_map] at hl ⊢
    exact tall_ok m A c es hn hj _ rfl hl w h
  · exact tall_err n A c es hn w h hj

set_option maxHeartbeats 1000000 in
theorem tcount_any (n : Int) (A : Option Addr) (c : Nat) (es : List E3) (hn : es.length ≤ 10000) (hl : (tallE n es).1.length ≤ 16384) (w : World) (h : Reads w w.heap.size 3 A es.length (edgeCells es)) :
    Calls Tryz.prog 27 #[.agg #[.int .i64 n, .slice A es.length c]] w fun e w' => e = .returned (.tuple #[.int .i64 ((tallE n es).1.length : Nat), .int .i64 (tallE n es).2]) ∧ Below w.heap.size w w' := by
  have AC := Lib.hid (fun (W : World) (hB : Below w.heap.size w W) => tall_any n A c es hn hl W ((h.below hB).more hB.size))
  have g0 := Blk.new w 24 #[.int .i64 n, .slice A es.length c]
  have hb0 : Below w.heap.size w (w.alloc (.cells #[.int .i64 n, .slice A es.length c] 24)) := (Below.refl _ _).alloc (Nat.le_refl _) _
  have c0 := g0.cell 0
  have c1 := g0.cell 1
  obtain ⟨X, hX⟩ : ∃ X, tallE n es = X := ⟨_, rfl⟩
  rw [hX] at AC ⊢
  clear hX hl
  go_enter Tryz.func27, Tryz.ntmps27
  go_wp2_with fail
  refine (AC.out _ hb0).mono ?_
  rintro e w1 ⟨Ar, cr, vs, rfl, _, hb1⟩
  go_wp2
  go_ret2
  exact ⟨rfl, hb0.trans (hb1.mono hb0.size)⟩
end Go.Proofs.YtplgbapbgcipdaaGreat

/-! treebijection.lit: the fire of a right graph, made and burnt. -/
namespace Go.Proofs.YtplgbapbgcipdaaGreat
open Go.RowKit

end Go.Proofs.YtplgbapbgcipdaaGreat

/-! Package recurrent: settled. -/
namespace Go.Proofs.YtplgbapbgcipdaaGreat
open Go.RowKit

set_option maxHeartbeats 1000000 in
theorem dmax_any (A : Option Addr) (c : Nat) (xs : List Int) (hn : xs.length ≤ 1048576) (h0 : 0 < xs.length) (w : World) (h : Reads w w.heap.size 1 A xs.length (ints xs)) :
    Calls Tryz.prog 69 #[.slice A xs.length c] w fun e w' => ∃ x, x ∈ xs ∧ (∀ y ∈ xs, y ≤ x) ∧ e = .returned (.int .i64 x) ∧ w = w' := by
  obtain ⟨x0, hx0⟩ := get_of_lt h0
  obtain ⟨b, off, rfl, hb, hc0⟩ := h.at_ (ints_at hx0)
  rw [Nat.add_zero] at hc0
  have h00 : (0 : Int) < (xs.length : Int) := by omega
  have hne : ¬ (xs.length : Int) < 1 := by omega
  have hm0 : Hid (x0 ∈ xs) := List.mem_of_getElem? hx0
  have hm1 : Hid (∀ j y, j < 1 → xs[j]? = some y → y ≤ x0) := fun j y hj hy => by
    obtain rfl : j = 0 := by omega
    rw [hx0] at hy; injection hy with hy; omega
  clear hx0
  go_enter Tryz.func69, Tryz.ntmps69
  go_wp2
  go_loopw [3, 4] (fun m i wr => ∃ (k : Nat) (x : Int), 1 ≤ k ∧ k ≤ xs.length ∧ i = .int .i64 k ∧ m = .int .i64 x ∧ Hid (x ∈ xs) ∧ Hid (∀ j y, j < k → xs[j]? = some y → y ≤ x) ∧ w = wr) (fun _ i _ => xs.length - (intOf i).toNat)
  case atStart => exact ⟨1, x0, by omega, by omega, rfl, rfl, hm0.out, hm1, rfl⟩
  case round =>
    obtain ⟨k, x, hk1, hk, rfl, rfl, HM, HA, rfl⟩ := hrel
    by_cases hlt : k < xs.length
    · obtain ⟨y, hy⟩ := get_of_lt hlt
      obtain ⟨b', off', hA, _, hcy⟩ := h.at_ (ints_at hy)
      injection hA with hA; injection hA with q1 q2; subst q1 q2
      have hi : (k : Int) < (xs.length : Int) := by omega
      have HY : Hid (y ∈ xs) := List.mem_of_getElem? hy
      have HMM : Hid ((if x < y then y else x) ∈ xs) := by
        rw [Hid]
        split
        · exact HY.out
        · exact HM.out
      have HAA : Hid (∀ j z, j < k + 1 → xs[j]? = some z → z ≤ if x < y then y else x) := fun j z hj hz => by
        by_cases e : j = k
        · subst e
          rw [hy] at hz; injection hz with hz
          split <;> omega
        · have := HA.out j z (by omega) hz
          split <;> omega
      clear hy h
      go_wp2
      go_roundw
      case rel => exact ⟨k + 1, (if x < y then y else x), by omega, by omega, by go_num, rfl, HMM.out, HAA, trivial⟩
      case measure => simp [intOf]; omega
    · obtain rfl : k = xs.length := by omega
      go_wp2
      go_ret
      exact ⟨x, HM.out, fun y hy => by
        obtain ⟨j, hj⟩ := List.getElem?_of_mem hy
        exact HA.out j y (List.getElem?_eq_some_iff.1 hj).1 hj, rfl, rfl⟩

/-- What settled returns. -/
def setOut (q : Nat) (r : Option (List Int × List Int)) : List Int × List Int × Int := ((stabOut q r).1.set q 0, (stabOut q r).2.1, (stabOut q r).2.2)
def SetE (n : Nat) (es : List E3) (q : Nat) (d ds ss : List Int) (e : Int) : Prop := if ∀ x ∈ d, x ≤ 1048576 then ∃ r, StabR es n q d r ∧ (ds, ss, e) = setOut q r else ds = [] ∧ ss = [] ∧ e = 11
theorem SetE.unique {n q : Nat} {es : List E3} {d ds ss ds' ss' : List Int} {e e' : Int} (hok : ∀ x ∈ es, okE n x) (hd : d.length = n) (h : SetE n es q d ds ss e) (h' : SetE n es q d ds' ss' e') : ds = ds' ∧ ss = ss' ∧ e = e' := by
  unfold SetE at h h'
  split at h
  · rename_i hx
    rw [if_pos hx] at h'
    obtain ⟨r, h1, h2⟩ := h
    obtain ⟨r', h3, h4⟩ := h'
    obtain rfl := StabR.unique (fun a b => (tt_bd hok a b).1) hd h1 h3
    rw [← h4] at h2
    injection h2 with e1 e2
    injection e2 with e2 e3
    exact ⟨e1, e2, e3⟩
  · rename_i hx
    rw [if_neg hx] at h'
    exact ⟨h.1.trans h'.1.symm, h.2.1.trans h'.2.1.symm, h.2.2.trans h'.2.2.symm⟩
theorem stabOut_len {n q : Nat} {es : List E3} {d : List Int} (hd : d.length = n) {r : Option (List Int × List Int)} (h : StabR es n q d r) : ((stabOut q r).2.2 = 0 ∧ (stabOut q r).1.length = n ∧ (stabOut q r).2.1.length = n) ∨ ((stabOut q r).2.2 ≠ 0 ∧ stabOut q r = ([], [], (stabOut q r).2.2)) := by
  rcases r with _ | ⟨x, s⟩
  · exact .inr ⟨by simp [stabOut], rfl⟩
  · obtain ⟨l, h1, h2, h3, h4, h5⟩ := h
    unfold stabOut
    dsimp only
    split
    · exact .inr ⟨by simp, rfl⟩
    · exact .inl ⟨rfl, by rw [h4]; exact runD_length hd, by rw [h5]; exact cntD_length⟩
theorem conf_of {n q : Nat} {es : List E3} {d : List Int} (hx : rootErr n es q = 0) (hd : d.length = n) (hlo : ∀ x ∈ d, -1048576 ≤ x) (hhi : ∀ x ∈ d, x ≤ 1048576) (h0 : ∀ v, v < n → v ≠ q → 0 ≤ d.getD v 0) : confErr n es q d = 0 := by
  obtain ⟨_, hG, _, hq⟩ := root_zero hx
  have h1 := hG.lo
  have h2 := hG.hi
  unfold confErr
  rw [if_neg (by omega)]
  have hdv : divErr d n = 0 := by
    unfold divErr
    rw [if_neg (by omega), if_neg (by omega), if_pos]
    rw [List.all_eq_true]
    intro x hx
    exact chipB_true.2 ⟨hlo x hx, hhi x hx⟩
  rw [if_neg (by omega)]
  have hdb : debtTo d q d.length = false := by
    unfold debtTo
    rw [List.any_eq_false]
    intro v hv
    have hv := List.mem_range.1 hv
    by_cases hq : v = q
    · subst hq; simp
    · have := h0 v (by omega) hq
      rw [Bool.and_eq_true]
      rintro ⟨_, h⟩
      have := of_decide_eq_true h
      omega
  rw [hdb]
  rfl

set_option maxRecDepth 100000 in
set_option maxHeartbeats 8000000 in
theorem rsettled_any (n : Nat) (A : Option Addr) (c : Nat) (es : List E3) (hlen : es.length ≤ 10000) (q : Nat) (hx : rootErr n es q = 0) (B : Option Addr) (cB : Nat) (d : List Int) (hd : d.length = n) (hlo : ∀ x ∈ d, -1048576 ≤ x) (h0 : ∀ v, v < n → v ≠ q → 0 ≤ d.getD v 0) (w : World)
    (h : Reads w w.heap.size 3 A es.length (edgeCells es)) (h' : Reads w w.heap.size 1 B n (ints d)) :
    Calls Tryz.prog 37 #[.agg #[.int .i64 n, .slice A es.length c], .int .i64 q, .slice B n cB] w fun e w' => ∃ ds ss er A1 c1 A2 c2, SetE n es q d ds ss er ∧ e = .returned (.tuple #[.slice A1 ds.length c1, .slice A2 ss.length c2, .int .i64 er]) ∧
      OwnI w' w.heap.size A1 c1 ds ∧ Reads w' w'.heap.size 1 A2 ss.length (ints ss) ∧ Below w.heap.size w w' := by
  obtain ⟨_, hG, _, hq⟩ := root_zero hx
  have hn12 : n ≤ 12 := by have := hG.hi; omega
  have MX := Lib.hid (fun (W : World) (hr : Reads W W.heap.size 1 B n (ints d)) => by have := dmax_any B cB d (by omega) (by omega) W (by rw [hd]; exact hr); rw [hd] at this; exact this)
  have ST := Lib.hid (fun (hhi : ∀ x ∈ d, x ≤ 1048576) (W : World) (hB : Below w.heap.size w W) => by have := stab_ok n A c es hlen q B cB d (conf_of hx hd hlo hhi h0) W ((h.below hB).more hB.size) (by rw [hd]; exact (h'.below hB).more hB.size); rw [hd] at this; exact this)
  have DC := Lib.hid (fun (A' : Option Addr) (c' : Nat) (ys : List Int) (hl : ys.length ≤ 12) (W : World) (hr : Reads W W.heap.size 1 A' ys.length (ints ys)) => dclone_any A' c' ys (by omega) W hr)
  have HD := Lib.hid hd
  have g0 := Blk.new w 24 #[.int .i64 n, .slice A es.length c]
  have B0 : Below w.heap.size w (w.alloc (.cells #[.int .i64 n, .slice A es.length c] 24)) := (Below.refl _ _).alloc (Nat.le_refl _) _
  have c0 := g0.cell 0
  have c1 := g0.cell 1
  have hqi : (q : Int) < (n : Int) := by omega
  clear hx hG hd hlo h0
  go_enter Tryz.func37, Tryz.ntmps37
  go_wp2_with fail
  refine (MX.out _ ((h'.below B0).more B0.size)).mono ?_
  rintro e w1 ⟨x, hxm, hxa, rfl, rfl⟩
  have HXA := Lib.hid hxa
  have HXM := Lib.hid hxm
  clear hxa hxm
  by_cases hbig : 1048576 < x
  · have HS : Hid (SetE n es q d [] [] 11) := by
      unfold Hid SetE
      rw [if_neg (fun hh => by have := hh x HXM.out; omega)]
      exact ⟨rfl, rfl, rfl⟩
    go_wp2
    go_ret3
    exact ⟨[], [], 11, none, 0, none, 0, HS.out, rfl, OwnI.nil_ _ _, Reads.nil_, B0⟩
  · have hall : ∀ y ∈ d, y ≤ 1048576 := fun y hy => by have := HXA.out y hy; omega
    have ST2 := Lib.hid (ST.out hall _ B0)
    have HALL := Lib.hid hall
    clear hall
    go_wp2_with fail
    refine (ST2.out).mono ?_
    rintro e w2 ⟨r, A1, c1, A2, c2, hr, rfl, r1, r2, hb2⟩
    have hB2 := B0.trans (hb2.mono B0.size)
    have HS : Hid (SetE n es q d (setOut q r).1 (setOut q r).2.1 (setOut q r).2.2) := by
      unfold Hid SetE
      rw [if_pos HALL.out]
      exact ⟨r, hr, rfl⟩
    rcases stabOut_len HD.out hr with ⟨e1, e2, e3⟩ | ⟨e1, e2⟩
    · obtain ⟨o1, ho1⟩ : ∃ o1, (stabOut q r).1 = o1 := ⟨_, rfl⟩
      obtain ⟨o2, ho2⟩ : ∃ o2, (stabOut q r).2.1 = o2 := ⟨_, rfl⟩
      have HSO : Hid (setOut q r = (o1.set q 0, o2, 0)) := by unfold Hid setOut; rw [ho1, ho2, e1]
      rw [HSO.out] at HS
      rw [ho1] at r1 e2 ⊢
      rw [ho2] at r2 e3 ⊢
      rw [e1]
      have DC2 := Lib.hid (DC.out A1 c1 o1 (by omega) w2 r1)
      have HE2 := Lib.hid e2
      clear e1 e2 e3 ho1 ho2 hr
      go_wp2_with fail
      refine (DC2.out).mono ?_
      rintro e w3 ⟨A3, c3, rfl, o3, hb3⟩
      obtain ⟨g3, hA3, hg3, hf3, hc3⟩ := o3.block (by rw [HE2.out]; omega)
      subst hA3
      obtain ⟨z, hz⟩ := get_of_lt (xs := o1) (k := q) (by rw [HE2.out]; omega)
      have k0 := hc3 q z hz
      have f0 := hf3 q
      have O4 := o3.put q 0
      have b24 := hb3.setCell (p := ⟨g3, q, none⟩) hg3 (.int .i64 0)
      have R4 := (r2.below b24).more b24.size
      have B4 := ((hB2.trans (hb3.mono hB2.size)).setCell (p := ⟨g3, q, none⟩) (by show w.heap.size ≤ g3; have := hB2.size; omega) (.int .i64 0))
      have hq2 : (q : Int) < (o1.length : Int) := by have := HE2.out; omega
      have HO4 := Lib.hid O4
      have HR4 := Lib.hid R4
      clear hz hf3 hc3 O4 R4
      go_wp2
      go_ret3
      exact ⟨_, _, _, some ⟨g3, 0, none⟩, c3, A2, c2, HS.out, by rw [List.length_set]; rfl, HO4.out.mono hB2.size, HR4.out, B4⟩
    · obtain ⟨ev, hev⟩ : ∃ ev, (stabOut q r).2.2 = ev := ⟨_, rfl⟩
      rw [hev] at e1 e2
      have HSO : Hid (setOut q r = ([], [], ev)) := by unfold Hid setOut; rw [e2]; rfl
      rw [HSO.out] at HS
      rw [e2]
      have hne : (ev != 0) = true := by simpa using e1
      clear e1 e2 hev r1 r2 hr
      go_wp2
      go_ret3
      exact ⟨[], [], ev, none, 0, none, 0, HS.out, rfl, OwnI.nil_ _ _, Reads.nil_, hB2⟩
end Go.Proofs.YtplgbapbgcipdaaGreat

/-! The superstable configurations, listed: what comes of the iterator; no vertex with 600 chips burns. -/
namespace Go.Proofs.YtplgbapbgcipdaaGreat
open Go.RowKit

def calmB (n : Nat) (es : List E3) (q : Nat) (c : List Int) : Bool := (superE n es q c).1 && decide ((superE n es q c).2 = 0)
/-- What comes: c begun, m vertices still to come. -/
def enumF (n q : Nat) (P : List Int → Bool) : Nat → List Int → List (List Int)
  | 0, c => [c]
  | m + 1, c => if n - (m + 1) = q then enumF n q P m c else ((List.range' 0 601).takeWhile fun j : Nat => P (c.set (n - (m + 1)) (j : Int))).flatMap fun j : Nat => enumF n q P m (c.set (n - (m + 1)) (j : Int))
theorem enumF_sink {n q : Nat} {P : List Int → Bool} {m v : Nat} {c : List Int} (hv : v + (m + 1) = n) (hq : v = q) : enumF n q P (m + 1) c = enumF n q P m c := by
  rw [enumF, if_pos (by omega)]
end Go.Proofs.YtplgbapbgcipdaaGreat

