/-
  Texts of this claim, put together: RIsCyc, DualT.
-/
import Derived.Test.YtepmfbgmkfkmkaaK32
import Derived.Test.YtepmfbgmkfkmkaaK27
import Derived.Test.YtepmfbgmkfkmkaaK25
import Derived.Deep.RegionHeld3
import Derived.Test.YtepmfbgmkfkmkaaK17
import Derived.Test.YtepmfbgmkfkmkaaK18
import Derived.Test.YtepmfbgmkfkmkaaK14
/-! ref08.Valence, ref08.Degree; ref10.IsCycle at a cycle. -/
namespace Go.Proofs.Ytepmfbgmkfkmkaa
open Go.RowKit

set_option maxRecDepth 100000 in
set_option maxHeartbeats 4000000 in
theorem rval13_any (n : Nat) (A : Option Addr) (c : Nat) (es : List E3) (hlen : es.length ≤ 10000) (hG : RightG n es) (v : Nat) (w : World) (h : Reads w w.heap.size 3 A es.length (edgeCells es)) :
    Calls Try.prog 87 #[.agg #[.int .i64 n, .slice A es.length c], .int .i64 v] w fun e w' => e = .returned (.int .i64 (sumW (fun w => tt es v w) n)) ∧ Below w.heap.size w w' := by
  have HSB := Lib.hid (fun k => sumT_bd hG.ok v k)
  have hn12 : n ≤ 12 := by have := hG.hi; omega
  have HOK := Lib.hid hG.ok
  have g0 := Blk.new w 24 #[.int .i64 n, .slice A es.length c]
  have B0 : Below w.heap.size w (w.alloc (.cells #[.int .i64 n, .slice A es.length c] 24)) := (Below.refl _ _).alloc (Nat.le_refl _) _
  clear hG
  go_enter Try.func87, Try.ntmps87
  go_wp2_with fail
  go_loopw [5, 6] (fun s i wl => ∃ (k : Nat), i = .int .i64 k ∧ k ≤ n ∧ s = .int .i64 (sumW (fun w => tt es v w) k) ∧ Hid (Below w.heap.size w wl) ∧ Hid (Blk wl w.heap.size 24 #[.int .i64 n, .slice A es.length c])) (fun _ i _ => n - (intOf i).toNat)
  case atStart => exact ⟨0, rfl, by omega, rfl, B0, g0⟩
  case round =>
    obtain ⟨k, rfl, hk, rfl, HB, HGr⟩ := hrel
    clear g0 B0
    have c0 := HGr.out.cell 0
    have c1 := HGr.out.cell 1
    have hs := HSB.out k
    obtain ⟨x, hx⟩ : ∃ x, sumW (fun w => tt es v w) k = x := ⟨_, rfl⟩
    have hxs : sumW (fun w => tt es v w) (k + 1) = x + tt es v k := by rw [sumW, hx]
    rw [hx] at hs ⊢
    by_cases hlt : k < n
    · clear hx
      have hi : (k : Int) < (n : Int) := by omega
      by_cases hkv : k = v
      · have hne : ((k : Int) != (v : Int)) = false := by simp [hkv]
        have ht : tt es v k = 0 := by unfold tt; rw [if_pos hkv.symm]
        rw [ht, Int.add_zero] at hxs
        have HX := Lib.hid hxs
        clear hxs ht
        go_wp2
        go_roundw
        case rel => exact ⟨k + 1, by go_num, by omega, by rw [HX.out], HB, HGr⟩
        case measure => simp [intOf]; omega
      · have hne : ((k : Int) != (v : Int)) = true := by rw [bne_iff_ne]; omega
        have ht : tt es v k = btw es k v := by rw [tt_comm]; unfold tt; rw [if_neg hkv]
        have hbd := btw_bd HOK.out (k : Int) (v : Int)
        have BC := Lib.hid (between_any n A c es (by omega) k v wr ((h.below HB.out).more HB.out.size))
        rw [ht] at hxs
        obtain ⟨y, hy⟩ : ∃ y, btw es k v = y := ⟨_, rfl⟩
        rw [hy] at hxs hbd BC
        have hw1 : IntKind.i64.wrap (x + y) = x + y := IntWalk.i64_in _ (by omega)
        have HX := Lib.hid hxs
        clear hxs ht hy
        go_wp2_with fail
        refine (BC.out).mono ?_
        rintro e w5 ⟨rfl, b5⟩
        have B5 := Lib.hid (HB.out.trans (b5.mono HB.out.size))
        have G5 := Lib.hid (HGr.out.next b5)
        go_wp2
        go_roundw
        case rel => exact ⟨k + 1, by go_num, by omega, by rw [HX.out], B5, G5⟩
        case measure => simp [intOf]; omega
    · obtain rfl : k = n := by omega
      have hB := HB.out
      have HVX := Lib.hid hx
      clear hx hxs
      go_wp2
      go_ret
      exact ⟨by rw [HVX.out]; rfl, hB⟩

set_option maxRecDepth 100000 in
set_option maxHeartbeats 4000000 in
theorem rdeg_any (n : Nat) (A : Option Addr) (c : Nat) (es : List E3) (hlen : es.length ≤ 10000) (hG : RightG n es) (v : Nat) (w : World) (h : Reads w w.heap.size 3 A es.length (edgeCells es)) :
    Calls Try.prog 68 #[.agg #[.int .i64 n, .slice A es.length c], .int .i64 v] w fun e w' => e = .returned (.int .i64 (sumW (fun w => tt es v w) n + 2 * btw es v v)) ∧ Below w.heap.size w w' := by
  have hhi := hG.hi
  have hs := sumT_bd hG.ok v n
  have hb := btw_bd hG.ok (v : Int) (v : Int)
  have VC := Lib.hid (fun (W : World) (hB : Below w.heap.size w W) => rval13_any n A c es hlen hG v W ((h.below hB).more hB.size))
  have BC := Lib.hid (fun (W : World) (hB : Below w.heap.size w W) => between_any n A c es (by omega) v v W ((h.below hB).more hB.size))
  obtain ⟨x, hx⟩ : ∃ x, sumW (fun w => tt es v w) n = x := ⟨_, rfl⟩
  obtain ⟨y, hy⟩ : ∃ y, btw es v v = y := ⟨_, rfl⟩
  rw [hx] at VC hs ⊢
  rw [hy] at BC hb ⊢
  have hw1 : IntKind.i64.wrap (2 * y) = 2 * y := IntWalk.i64_in _ (by omega)
  have hw2 : IntKind.i64.wrap (x + 2 * y) = x + 2 * y := IntWalk.i64_in _ (by omega)
  have g := (Blk.new w 24 #[.int .i64 n, .slice A es.length c]).drew
  have hB := ((Below.refl w.heap.size w).alloc (Nat.le_refl _) (.cells #[.int .i64 n, .slice A es.length c] 24)).drew
  have k0 := g.cell 0
  have k1 := g.cell 1
  clear hG hx hy
  go_enter Try.func68, Try.ntmps68
  go_wp2_with fail
  go_region_held3 (fun W => W.cell? ⟨w.heap.size, 0, none⟩ = some (.int .i64 n) ∧ W.cell? ⟨w.heap.size, 1, none⟩ = some (.slice A es.length c)) (go_keep) (first
    | (go_at_call 87; refine (VC.out _ (by exact hB)).mono ?_; rintro e wn ⟨rfl, hb⟩; have g := g.next hb; have hB := hB.trans (hb.mono hB.size); have k0 := g.cell 0; have k1 := g.cell 1)
    | (go_at_call 88; refine (BC.out _ (by exact hB)).mono ?_; rintro e wn ⟨rfl, hb⟩; have g := g.next hb; have hB := hB.trans (hb.mono hB.size); have k0 := g.cell 0; have k1 := g.cell 1))
  all_goals (
    go_wp2
    go_ret
    exact ⟨rfl, hB⟩)

/-- The vertices below k at which two of the single edges end. -/
def twoL (E : List (Nat × Nat)) (C : List Nat) (k : Nat) : List Nat := (List.range k).filter fun v => decide (dgL E C v = 2)
theorem twoL_succ {E : List (Nat × Nat)} {C : List Nat} {k : Nat} : (twoL E C (k + 1)).length = (twoL E C k).length + if dgL E C k = 2 then 1 else 0 := by
  unfold twoL
  rw [List.range_succ, List.filter_append, List.length_append]
  by_cases h : dgL E C k = 2
  · rw [if_pos h, List.filter_cons, if_pos (by simpa using h)]; simp
  · rw [if_neg h, List.filter_cons, if_neg (by simpa using h)]; simp
theorem twoL_len {E : List (Nat × Nat)} {C : List Nat} {k : Nat} : (twoL E C k).length ≤ k := Nat.le_trans (List.length_filter_le _ _) (by simp)

set_option maxRecDepth 100000 in
set_option maxHeartbeats 8000000 in
theorem riscyc_any (m : Nat) (A : Option Addr) (c : Nat) (es : List E3) (hn : es.length ≤ 40) (hG : RightG m es) (B : Option Addr) (d : Nat) (C : List Nat) (hC : ∀ e ∈ C, e < (endsL es).length) (hCl : C.length ≤ 50) (hC0 : 0 < C.length)
    (hdg : ∀ v, v < m → dgL (endsL es) C v = 0 ∨ dgL (endsL es) C v = 2) (hpt : partsP m (pk (endsL es) C) + (twoL (endsL es) C m).length = m + 1) (w : World) (h : Reads w w.heap.size 3 A es.length (edgeCells es)) (h' : Reads w w.heap.size 1 B C.length (ints (nI C))) :
    Calls Try.prog 35 #[.agg #[.int .i64 m, .slice A es.length c], .slice B C.length d] w fun e w' => e = .returned (.bool true) ∧ Below w.heap.size w w' := by
  have hm12 := hG.hi
  have hm1 := hG.lo
  have hbd := bd_pk (bd_ends hG) hC
  have hl : (pk (endsL es) C).length ≤ 50 := by rw [pk_length]; exact hCl
  have hmr := made_right (n := m) (ps := pk (endsL es) C) (by omega) (by omega) hl
  have hml : (madeS m (pk (endsL es) C)).length ≤ 144 := by
    have h1 : (madeS m (pk (endsL es) C)).length ≤ m * m := joinTo_length _ _ _
    have h2 : m * m ≤ 12 * 12 := Nat.mul_le_mul (by omega) (by omega)
    omega
  have hpn := made_partsN (n := m) (ps := pk (endsL es) C) (by omega) (by omega) hl hbd
  have hdeg : ∀ v, v < m → sumW (fun w => tt (madeS m (pk (endsL es) C)) v w) m + 2 * btw (madeS m (pk (endsL es) C)) v v = (dgL (endsL es) C v : Int) := fun v hv => by
    rw [made_deg (by omega) (by omega) hl hbd hv, dgL_degP]
  have WC : Hid (∀ (W : World) (hB : Below w.heap.size w W), Calls Try.prog 45 #[.agg #[.int .i64 m, .slice A es.length c], .slice B C.length d] W fun e w' => ∃ A1 c1, e = .returned (.agg #[.int .i64 m, .slice A1 (madeS m (pk (endsL es) C)).length c1]) ∧ Reads w' w'.heap.size 3 A1 (madeS m (pk (endsL es) C)).length (edgeCells (madeS m (pk (endsL es) C))) ∧ Below W.heap.size W w') := by
    intro W hB
    refine (rwith_any m A c es hn hG B d C hC hCl W ((h.below hB).more hB.size) ((h'.below hB).more hB.size)).mono ?_
    rintro e w' ⟨A1, c1, rfl, o, hb⟩
    exact ⟨A1, c1, rfl, Reads.of_own o, hb⟩
  obtain ⟨M, hM⟩ : ∃ M, madeS m (pk (endsL es) C) = M := ⟨_, rfl⟩
  rw [hM] at WC hml hmr hdeg hpn
  have DC : Hid (∀ (v : Nat) (hv : v < m) (A1 : Option Addr) (c1 : Nat) (W : World) (hr : Reads W W.heap.size 3 A1 M.length (edgeCells M)), Calls Try.prog 68 #[.agg #[.int .i64 m, .slice A1 M.length c1], .int .i64 v] W fun e w' => e = .returned (.int .i64 (dgL (endsL es) C v)) ∧ Below W.heap.size W w') := by
    intro v hv A1 c1 W hr
    have := rdeg_any m A1 c1 M (by omega) hmr v W hr
    rw [hdeg v hv] at this
    exact this
  have PC : Hid (∀ (A1 : Option Addr) (c1 : Nat) (W : World) (hr : Reads W W.heap.size 3 A1 M.length (edgeCells M)), Calls Try.prog 69 #[.agg #[.int .i64 m, .slice A1 M.length c1]] W fun e w' => e = .returned (.int .i64 (partsP m (pk (endsL es) C))) ∧ Below W.heap.size W w') := by
    intro A1 c1 W hr
    have := rparts_any m (by omega) A1 c1 M (by omega) W hr
    rw [hpn] at this
    exact this
  obtain ⟨p, hp⟩ : ∃ p, partsP m (pk (endsL es) C) = p := ⟨_, rfl⟩
  rw [hp] at PC hpt
  obtain ⟨E, hE⟩ : ∃ E, endsL es = E := ⟨_, rfl⟩
  rw [hE] at DC hpt hdg
  have HDG := Lib.hid hdg
  have HPT := Lib.hid hpt
  have HM1 := Lib.hid hml
  have HM := Lib.hid hm12
  have g := Blk.new w 24 #[.int .i64 m, .slice A es.length c]
  have hB := (Below.refl w.heap.size w).alloc (Nat.le_refl _) (.cells #[.int .i64 m, .slice A es.length c] 24)
  have k0 := g.cell 0
  have k1 := g.cell 1
  have hl0 : (0 : Int) < (C.length : Int) := by omega
  have hl1 : decide (0 < C.length) = true := decide_eq_true hC0
  clear hE hM hmr hdeg hpn hp hpt hdg hbd hl hml hm12 hC hCl hG
  go_enter Try.func35, Try.ntmps35
  go_wp2_with fail
  refine (WC.out _ hB).mono ?_
  rintro e w1 ⟨A1, c1, rfl, rM, hb⟩
  have g := (g.next hb).alloc (.cells #[.int .i64 m, .slice A1 M.length c1] 24)
  have hB := hB.trans (hb.mono hB.size)
  have gh := Blk.new w1 24 #[.int .i64 m, .slice A1 M.length c1]
  have hz1 := hB.size
  have hB := hB.alloc hB.size (.cells #[.int .i64 m, .slice A1 M.length c1] 24)
  have rM := rM.next ((Below.refl w1.heap.size w1).alloc (Nat.le_refl _) (.cells #[.int .i64 m, .slice A1 M.length c1] 24))
  obtain ⟨W1, hW1⟩ : ∃ W1, w1.alloc (.cells #[.int .i64 m, .slice A1 M.length c1] 24) = W1 := ⟨_, rfl⟩
  have HW1 := Lib.hid hW1
  rw [hW1] at g gh hB rM
  have HBW := Lib.hid hB
  have k0 := g.cell 0
  have k1 := g.cell 1
  have j0 := gh.cell 0
  have j1 := gh.cell 1
  clear hb hW1
  go_wp2_with fail
  try rw [HW1.out]
  go_loopw [6, 7, 8] (fun o i _ wr => ∃ (k : Nat), k ≤ m ∧ i = .int .i64 k ∧ o = .int .i64 ((twoL E C k).length : Nat) ∧ Hid (Below W1.heap.size W1 wr)) (fun _ i _ _ => m - (intOf i).toNat)
  case atStart => exact ⟨0, by omega, rfl, rfl, Below.refl _ _⟩
  case round =>
    obtain ⟨k, hk, rfl, rfl, HW⟩ := hrel
    have hwz := HW.out.size
    have g2 := g.next HW.out
    have gh2 := gh.next HW.out
    have k0 := g2.cell 0
    have k1 := g2.cell 1
    have j0 := gh2.cell 0
    have j1 := gh2.cell 1
    have rM2 := rM.next HW.out
    have hmm := HM.out
    have htl := twoL_len (E := E) (C := C) (k := k)
    have hts := twoL_succ (E := E) (C := C) (k := k)
    obtain ⟨q, hq⟩ : ∃ q, (twoL E C k).length = q := ⟨_, rfl⟩
    rw [hq] at htl hts ⊢
    by_cases hlt : k < m
    · have hi : (k : Int) < (m : Int) := by omega
      have DK := Lib.hid (DC.out k hlt)
      rcases HDG.out k hlt with hd | hd
      · rw [hd] at DK hts
        have HTS := Lib.hid hts
        clear hd hts hq
        go_wp2_with fail
        refine (DK.out _ _ _ (by exact rM2)).mono ?_
        rintro e w5 ⟨rfl, b5⟩
        have HW5 := Lib.hid (HW.out.trans (b5.mono hwz))
        go_wp2
        go_roundw
        case rel => exact ⟨k + 1, by omega, by go_num, by rw [HTS.out]; rfl, HW5⟩
        case measure => simp [intOf]; omega
      · rw [hd] at DK hts
        have HTS := Lib.hid hts
        clear hd hts hq
        go_wp2_with fail
        refine (DK.out _ _ _ (by exact rM2)).mono ?_
        rintro e w5 ⟨rfl, b5⟩
        have HW5 := Lib.hid (HW.out.trans (b5.mono hwz))
        go_wp2
        go_roundw
        case rel => exact ⟨k + 1, by omega, by go_num, by rw [HTS.out]; go_num, HW5⟩
        case measure => simp [intOf]; omega
    · obtain rfl : k = m := by omega
      have hpt := HPT.out
      rw [hq] at hpt
      have hqq : ((p : Int) == (k : Int) - (q : Int) + 1) = true := by simp; omega
      have hw1 : IntKind.i64.wrap ((k : Int) - (q : Int)) = (k : Int) - (q : Int) := IntWalk.i64_in _ (by omega)
      have hw2 : IntKind.i64.wrap ((k : Int) - (q : Int) + 1) = (k : Int) - (q : Int) + 1 := IntWalk.i64_in _ (by omega)
      have HPTT := Lib.hid hpt
      have g2 := g2.drew
      have gh2 := gh2.drew
      have rM2 : Reads wr.drew wr.drew.heap.size 3 A1 M.length (edgeCells M) := rM2
      have HW2 : Below W1.heap.size W1 wr.drew := ⟨HW.out.os, HW.out.tape, HW.out.output, HW.out.size, HW.out.block⟩
      have k0 := g2.cell 0
      have j0 := gh2.cell 0
      have j1 := gh2.cell 1
      clear hts hq hpt
      go_wp2_with fail
      go_region_held3 (fun W => W.cell? ⟨w.heap.size, 0, none⟩ = some (.int .i64 k) ∧ W.cell? ⟨w1.heap.size, 0, none⟩ = some (.int .i64 k) ∧ W.cell? ⟨w1.heap.size, 1, none⟩ = some (.slice A1 M.length c1)) (go_keep) (first
        | (go_at_call 69; refine (PC.out _ _ _ (by exact rM2)).mono ?_; rintro e wn ⟨rfl, hb⟩; have g2 := g2.next hb; have gh2 := gh2.next hb; have HW2 := HW2.trans (hb.mono HW2.size); have k0 := g2.cell 0; have j0 := gh2.cell 0; have j1 := gh2.cell 1))
      all_goals (
        go_wp2
        go_ret
        exact ⟨rfl, HBW.out.trans (HW2.mono (by exact HBW.out.size))⟩)
end Go.Proofs.Ytepmfbgmkfkmkaa

/-! Plain laws of cycles, cutsets and swaps in a spanning tree, as the program returns them. -/
namespace Go.Proofs.Ytepmfbgmkfkmkaa
open Go.RowKit

theorem mem_nI9 {v : Nat} {S : List Nat} : (v : Int) ∈ nI S ↔ v ∈ S := by
  unfold nI
  rw [List.mem_map]
  constructor
  · rintro ⟨u, hu, e⟩; have : u = v := by omega
    exact this ▸ hu
  · intro h; exact ⟨v, h, rfl⟩
/-- Different numbers, sorted. -/
theorem sort_nat {u : List Nat} (hn : u.Nodup) : ∃ s : List Nat, sortG ltI (nI u) = nI s ∧ s.Perm u ∧ s.Pairwise (· < ·) := by
  have hp := sortG_perm (lt := ltI) (nI u)
  have h0 : ∀ x ∈ sortG ltI (nI u), 0 ≤ x := by
    intro x hx
    obtain ⟨y, _, rfl⟩ := List.mem_map.1 (hp.mem_iff.1 hx)
    omega
  have he := nI_toN h0
  have hps : (toN (sortG ltI (nI u))).Perm u := by
    have := hp.map Int.toNat
    have e2 : (nI u).map Int.toNat = u := toN_nI u
    rw [e2] at this
    exact this
  refine ⟨toN (sortG ltI (nI u)), he.symm, hps, ?_⟩
  have hs := sortG_sorted ltI_tr ltI_as (nI u)
  have hnd : (toN (sortG ltI (nI u))).Nodup := hps.nodup_iff.2 hn
  unfold toN at hnd ⊢
  rw [List.pairwise_map]
  have hnd2 := List.pairwise_map.1 hnd
  refine List.Pairwise.imp_of_mem ?_ (hs.and hnd2)
  intro a b ha hb hab
  have h1 := h0 a ha
  have h2 := h0 b hb
  obtain ⟨h3, h4⟩ := hab
  unfold ltI at h3
  rw [decide_eq_false_iff_not] at h3
  omega
theorem edgFrom_ok {m : Nat} : ∀ {t : List Nat} {p : Option Int}, t.Pairwise (· < ·) → (∀ e ∈ t, e < m) → (∀ y, p = some y → ∀ e ∈ t, y < (e : Int)) → edgFrom m p (nI t) = 0
  | [], _, _, _, _ => rfl
  | e :: t, p, h1, h2, h3 => by
    have he := h2 e (by simp)
    show (if (e : Int) < 0 ∨ (m : Int) ≤ (e : Int) then 2 else if leP p (e : Int) = true then 9 else edgFrom m (some (e : Int)) (nI t)) = 0
    rw [if_neg (by omega), if_neg]
    · rw [List.pairwise_cons] at h1
      refine edgFrom_ok h1.2 (fun x hx => h2 x (by simp [hx])) ?_
      rintro y hy x hx
      injection hy with hy
      have := h1.1 x hx
      omega
    · unfold leP
      cases p with
      | none => simp
      | some y =>
        have := h3 y rfl e (by simp)
        simp; omega
theorem edg_ok {m : Nat} {t : List Nat} (h : SetN m t) : edgErr m (nI t) = 0 := edgFrom_ok h.1 h.2 (fun y hy => by cases hy)
theorem tree_ok {m : Nat} {es : List E3} {t : List Nat} (hj : joinErr m es = 0) (h : IsTr m (endsL es) t) : treeErr m es (nI t) = 0 := by
  have hl := h.len
  have e2 : (nI t).map Int.toNat = t := toN_nI t
  unfold treeErr
  rw [if_neg (fun hc => hc hj), if_neg (fun hc => hc (edg_ok h.set)), if_neg (by rw [nI_length]; omega), e2, if_pos (foB_iff.2 h.fo)]
/-- What swapping returns: f of the tree against e. -/
theorem swap_dual {m : Nat} {es : List E3} {t : List Nat} (hR : TreeR m es t) (hj : treeErr m es (nI t) = 0) {f e : Nat} (hf : f ∈ t) (he : e ∉ t) (hel : e < (endsL es).length) :
    ∃ s : List Nat, swapE m es (nI t) f e = (if Sep (endsL es) t ((endsL es).getD e (0, 0)).1 ((endsL es).getD e (0, 0)).2 f then (nI s, 0) else ([], 15)) ∧ s.length ≤ 12 ∧
      (Sep (endsL es) t ((endsL es).getD e (0, 0)).1 ((endsL es).getD e (0, 0)).2 f → IsTr m (endsL es) s) := by
  have hnl := less_nodup (e := f) hR.hT.nodup
  have hen : e ∉ lessL t f := fun h => he (mem_less.1 h).1
  have hfil : ((nI t).filter fun x => !decide (x = (f : Int))) = nI (lessL t f) := nI_less t f
  have hnd : (lessL t f ++ [e]).Nodup := by
    rw [List.nodup_append]
    exact ⟨hnl, by simp, fun a ha b hb => by rw [List.mem_singleton] at hb; subst hb; exact fun h => hen (h ▸ ha)⟩
  obtain ⟨s, hs1, hs2, hs3⟩ := sort_nat hnd
  have hts : tswapL (nI t) f e = nI s := by
    unfold tswapL
    rw [hfil, ← hs1]
    congr 1
    simp [nI]
  have hlen : s.length + 1 = m := by
    rw [hs2.length_eq, List.length_append, List.length_singleton, less_length hR.hT.nodup hf]
    have := hR.tr.len
    exact this
  have hps : s.Perm (e :: lessL t f) := hs2.trans List.perm_append_comm
  have hset : SetN (endsL es).length s := ⟨hs3, fun x hx => by
    rcases List.mem_cons.1 (hps.mem_iff.1 hx) with rfl | h
    · exact hel
    · exact hR.hT.lt x (mem_less.1 h).1⟩
  have hbd : BdP m (pk (endsL es) (e :: lessL t f)) := bd_pk hR.hT.bd fun x hx => hset.2 x (hps.mem_iff.2 hx)
  have hfo : Fo (pk (endsL es) s) ↔ Sep (endsL es) t ((endsL es).getD e (0, 0)).1 ((endsL es).getD e (0, 0)).2 f := by
    rw [fo_perm (bd_pk hR.hT.bd hset.2) (pk_perm hps), pk_cons]
    unfold Sep
    constructor
    · exact fun h => h.2
    · exact fun h => ⟨(hR.hT.less f).fo, h⟩
  have hi : (e : Int) ∉ nI t := fun h => he (mem_nI9.1 h)
  have hfm : (f : Int) ∈ nI t := mem_nI9.2 hf
  have hfl := hR.hT.lt f hf
  refine ⟨s, ?_, by have := hR.hi; omega, fun h => ⟨hset, hlen, hfo.2 h⟩⟩
  unfold swapE
  rw [if_neg (fun hc => hc hj), if_neg (by omega), if_neg (fun h => h hfm), if_neg hi, hts, toN_nI, Int.toNat_natCast]
  by_cases hsp : Sep (endsL es) t ((endsL es).getD e (0, 0)).1 ((endsL es).getD e (0, 0)).2 f
  · rw [if_pos hsp, if_pos]
    unfold spansB
    rw [foB_iff.2 (hfo.2 hsp), decide_eq_true hlen]; rfl
  · rw [if_neg hsp, if_neg]
    intro h
    unfold spansB at h
    rw [Bool.and_eq_true] at h
    exact hsp (hfo.1 (foB_iff.1 h.1))
/-- The cycle that is returned. -/
theorem cycle_dual {m : Nat} {es : List E3} {t : List Nat} (hR : TreeR m es t) (hj : treeErr m es (nI t) = 0) {e : Nat} (he : e ∉ t) (hel : e < (endsL es).length) :
    ∃ s : List Nat, cycleE m es (nI t) e = (nI s, 0) ∧ SetN (endsL es).length s ∧ s.Perm (e :: pathL (endsL es) t ((endsL es).getD e (0, 0)).1 ((endsL es).getD e (0, 0)).2) ∧
      (∀ f ∈ t, f ∈ s ↔ Sep (endsL es) t ((endsL es).getD e (0, 0)).1 ((endsL es).getD e (0, 0)).2 f) := by
  have hi : (e : Int) ∉ nI t := fun h => he (mem_nI9.1 h)
  have hbe := hR.hT.bd _ (List.mem_of_getElem? (getD_some hel))
  have hc := hR.cn hbe.1 hbe.2
  have hpm := path_mem hR.hT hc
  have hpn := path_nodup hR.hT hc
  obtain ⟨P, hP⟩ : ∃ P, pathL (endsL es) t ((endsL es).getD e (0, 0)).1 ((endsL es).getD e (0, 0)).2 = P := ⟨_, rfl⟩
  rw [hP] at hpm hpn ⊢
  have hnd : (P ++ [e]).Nodup := by
    rw [List.nodup_append]
    exact ⟨hpn, by simp, fun a ha b hb => by rw [List.mem_singleton] at hb; subst hb; exact fun h => he (h ▸ ((hpm a).1 ha).1)⟩
  obtain ⟨s, hs1, hs2, hs3⟩ := sort_nat hnd
  have hps : s.Perm (e :: P) := hs2.trans List.perm_append_comm
  refine ⟨s, ?_, ⟨hs3, fun x hx => ?_⟩, hps, fun f hf => ?_⟩
  · unfold cycleE
    rw [if_neg (fun hc => hc hj), if_neg (by omega), if_neg hi, Int.toNat_natCast, getD_some hel]
    dsimp only
    rw [toN_nI, hP, ← hs1]
    congr 2
    simp [nI]
  · rcases List.mem_cons.1 (hps.mem_iff.1 hx) with rfl | h
    · exact hel
    · exact hR.hT.lt x ((hpm x).1 h).1
  · rw [hps.mem_iff, List.mem_cons, hpm f]
    constructor
    · rintro (rfl | h)
      · exact absurd hf he
      · exact h.2
    · exact fun h => .inr ⟨hf, h⟩
/-- The cutset that is returned. -/
theorem cut_dual {m : Nat} {es : List E3} {t : List Nat} (hR : TreeR m es t) (hj : treeErr m es (nI t) = 0) {f : Nat} (hf : f ∈ t) :
    cutsetE m es (nI t) f = (nI (cutL (endsL es) t f), 0) ∧ ∀ e, e < (endsL es).length → (e ∈ cutL (endsL es) t f ↔ Sep (endsL es) t ((endsL es).getD e (0, 0)).1 ((endsL es).getD e (0, 0)).2 f) := by
  have hfm : (f : Int) ∈ nI t := mem_nI9.2 hf
  have hfl := hR.hT.lt f hf
  refine ⟨?_, fun e he => ?_⟩
  · unfold cutsetE
    rw [if_neg (fun hc => hc hj), if_neg (by omega), if_neg (fun h => h hfm), toN_nI, Int.toNat_natCast]
  · unfold cutL
    rw [List.mem_filter, List.mem_range, decide_eq_true_eq]
    exact ⟨fun h => h.2, fun h => ⟨he, h⟩⟩
end Go.Proofs.Ytepmfbgmkfkmkaa

