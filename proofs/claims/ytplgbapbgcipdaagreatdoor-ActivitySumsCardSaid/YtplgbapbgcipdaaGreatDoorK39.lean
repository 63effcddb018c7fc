/-
  Texts of this claim, put together: RAct31, Memb31, ROut31.
-/
import Derived.Test.YtplgbapbgcipdaaGreatDoorK34
import Derived.Test.YtplgbapbgcipdaaGreatDoorK36
import Derived.Test.YtplgbapbgcipdaaGreatDoorK32
import Derived.Test.YtplgbapbgcipdaaGreatDoorK37
import Derived.Deep.RegionHeld3
import Derived.Test.YtplgbapbgcipdaaGreatDoorK24
import Derived.Test.YtplgbapbgcipdaaGreatDoorK35
/-! The reference's active single edges: Least, Inside, Outside, Internal, External. -/
namespace Go.Proofs.YtplgbapbgcipdaaGreatDoor
open Go.RowKit

/-- Whether nothing in a list is less. -/
def leastB (l : List Int) (e : Int) : Bool := l.all fun y => decide (e ≤ y)
theorem leastB_iff {l : List Int} {e : Int} : leastB l e = true ↔ ∀ y ∈ l, e ≤ y := by
  unfold leastB; rw [List.all_eq_true]; simp
set_option maxHeartbeats 1000000 in
theorem rleast31_any (A : Option Addr) (c : Nat) (l : List Int) (e : Int) (hn : l.length ≤ 1048576) (w : World) (h : Reads w w.heap.size 1 A l.length (ints l)) :
    Calls Tryz.prog 88 #[.slice A l.length c, .int .i64 e] w fun r w' => r = .returned (.bool (leastB l e)) ∧ w = w' := by
  obtain ⟨N, hN⟩ : ∃ N, l.length = N := ⟨_, rfl⟩
  have HN := Lib.hid hN
  rw [hN] at h hn ⊢
  obtain ⟨q, hq⟩ : ∃ q, leastB l e = q := ⟨_, rfl⟩
  have HQ := Lib.hid hq
  rw [hq]
  clear hN hq
  go_enter Tryz.func88, Tryz.ntmps88
  go_wp2
  go_loop [5] (fun i => ∃ k : Nat, k ≤ N ∧ i = .int .i64 k ∧ Hid (∀ y ∈ l.take k, e ≤ y)) (fun i => N - (intOf i).toNat)
  case atStart => exact ⟨0, by omega, rfl, by simp [Hid]⟩
  case round =>
    obtain ⟨k, hk, rfl, HS⟩ := hrel
    by_cases hlt : k < N
    · obtain ⟨x, hx⟩ := get_of_lt (xs := l) (k := k) (by rw [HN.out]; exact hlt)
      have HX := Lib.hid hx
      obtain ⟨b, off, rfl, hb, hcell⟩ := h.at_ (ints_at hx)
      have hi : (k : Int) < (N : Int) := by omega
      have htk := Lib.hid (take_snoc hx)
      clear hx h
      by_cases hxe : x < e
      · have HE : Hid (q = false) := by
          rw [Hid, ← HQ.out, Bool.eq_false_iff]
          intro hc
          have := leastB_iff.1 hc x (List.mem_of_getElem? HX.out)
          omega
        go_wp2
        go_ret
        exact ⟨by rw [HE.out]; rfl, rfl⟩
      · have hxe2 : decide (x < e) = false := decide_eq_false hxe
        have HN1 : Hid (∀ y ∈ l.take (k + 1), e ≤ y) := by
          rw [htk.out]
          intro z hz
          rcases List.mem_append.1 hz with hz | hz
          · exact HS.out z hz
          · rw [List.mem_singleton.1 hz]; omega
        go_wp2
        go_round
        case rel => exact ⟨k + 1, by omega, by go_num, HN1⟩
        case measure => simp [intOf]; omega
    · obtain rfl : k = N := by omega
      have hf : ¬ (k : Int) < (k : Int) := by omega
      have HE : Hid (q = true) := by
        rw [Hid, ← HQ.out, leastB_iff]
        intro y hy
        exact HS.out y (by rw [List.take_of_length_le (by rw [HN.out]; exact Nat.le_refl _)]; exact hy)
      go_wp2
      go_ret
      exact ⟨by rw [HE.out]; rfl, rfl⟩
theorem filt_snocN {q : Nat → Bool} {L : List Nat} {k x : Nat} (hx : L[k]? = some x) : (L.take (k + 1)).filter q = if q x = true then (L.take k).filter q ++ [x] else (L.take k).filter q := by
  rw [take_snoc hx, List.filter_append]
  by_cases h : q x = true <;> simp [h]
theorem nI_snoc9 (S : List Nat) (x : Nat) : nI (S ++ [x]) = nI S ++ [(x : Int)] := by simp [nI]
set_option maxRecDepth 100000 in
set_option maxHeartbeats 4000000 in
theorem rinside_any (m : Nat) (A : Option Addr) (c : Nat) (es : List E3) (hn : es.length ≤ 40) (B : Option Addr) (d : Nat) (t : List Nat) (hR : TreeR m es t) (w : World) (h : Reads w w.heap.size 3 A es.length (edgeCells es)) (h' : Reads w w.heap.size 1 B t.length (ints (nI t))) :
    Calls Tryz.prog 46 #[.agg #[.int .i64 m, .slice A es.length c], .slice B t.length d] w fun e w' => ∃ A' c', e = .returned (.slice A' (insA (endsL es) t).length c') ∧ OwnI w' w.heap.size A' c' (nI (insA (endsL es) t)) ∧ Below w.heap.size w w' := by
  have g0 := Blk.new w 24 #[.int .i64 m, .slice A es.length c]
  have hB0 : Below w.heap.size w (w.alloc (.cells #[.int .i64 m, .slice A es.length c] 24)) := (Below.refl _ _).alloc (Nat.le_refl _) _
  obtain ⟨w0, hw0⟩ : ∃ w0, w.alloc (.cells #[.int .i64 m, .slice A es.length c] 24) = w0 := ⟨_, rfl⟩
  have hs0 : w0.heap.size = w.heap.size + 1 := by rw [← hw0]; simp
  rw [hw0] at g0 hB0
  have SEP : Hid (∀ x ∈ t, ∀ W, Below w.heap.size w W → Calls Tryz.prog 40 #[.agg #[.int .i64 m, .slice A es.length c], .slice B t.length d, .int .i64 x] W fun e w' => ∃ A' c', e = .returned (.slice A' (cutL (endsL es) t x).length c') ∧ Reads w' w'.heap.size 1 A' (cutL (endsL es) t x).length (ints (nI (cutL (endsL es) t x))) ∧ Below W.heap.size W w') := by
    intro x hx W hB
    have hlt := hR.tr.set.2 x hx
    obtain ⟨⟨p, q⟩, hpq⟩ : ∃ pq, (endsL es)[x]? = some pq := ⟨_, List.getElem?_eq_getElem hlt⟩
    refine (rsep_any m A c es hn B d t hR x p q hx hpq W ((h.below hB).more hB.size) ((h'.below hB).more hB.size)).mono ?_
    rintro e w' ⟨A', c', he, o, hb⟩
    have hr := o.reads
    rw [nI_length] at hr
    exact ⟨A', c', he, hr, hb⟩
  have hLs : ∀ x ∈ t, leastB (nI (cutL (endsL es) t x)) (x : Int) = decide (IAct (endsL es) t x) := fun x _ => by
    rw [Bool.eq_iff_iff, leastB_iff, decide_eq_true_eq]
    exact cut_least
  have hcl : ∀ x, (cutL (endsL es) t x).length ≤ 1048576 := fun x => by
    have h1 := List.length_filter_le (fun i => decide (Sep (endsL es) t ((endsL es).getD i (0, 0)).1 ((endsL es).getD i (0, 0)).2 x)) (List.range (endsL es).length)
    rw [List.length_range] at h1
    have h2 := endsL_length hR.hG.ok
    unfold cutL
    omega
  have LC : Hid (∀ x ∈ t, ∀ (A' : Option Addr) (c' : Nat) (W : World), Reads W W.heap.size 1 A' (cutL (endsL es) t x).length (ints (nI (cutL (endsL es) t x))) → Calls Tryz.prog 88 #[.slice A' (cutL (endsL es) t x).length c', .int .i64 x] W fun r w' => r = .returned (.bool (decide (IAct (endsL es) t x))) ∧ W = w') := by
    intro x hx A' c' W hr
    have := rleast31_any A' c' (nI (cutL (endsL es) t x)) x (by rw [nI_length]; exact hcl x) W (by rw [nI_length]; exact hr)
    rw [nI_length, hLs x hx] at this
    exact this
  have ht12 : t.length ≤ 12 := by have := hR.tr.len; have := hR.hi; omega
  unfold insA
  obtain ⟨q, hq⟩ : ∃ q : Nat → Bool, (fun f => decide (IAct (endsL es) t f)) = q := ⟨_, rfl⟩
  have hqx : ∀ x, decide (IAct (endsL es) t x) = q x := fun x => by rw [← hq]
  rw [hq]
  have LC : Hid (∀ x ∈ t, ∀ (A' : Option Addr) (c' : Nat) (W : World), Reads W W.heap.size 1 A' (cutL (endsL es) t x).length (ints (nI (cutL (endsL es) t x))) → Calls Tryz.prog 88 #[.slice A' (cutL (endsL es) t x).length c', .int .i64 x] W fun r w' => r = .returned (.bool (q x)) ∧ W = w') := fun x hx A' c' W hr => by
    have := LC.out x hx A' c' W hr
    rwa [hqx] at this
  obtain ⟨N, hN⟩ : ∃ N, t.length = N := ⟨_, rfl⟩
  have HN := Lib.hid hN
  have HT := Lib.hid h'
  rw [hN] at SEP ht12 ⊢
  clear hqx hq hLs hcl hR h h' hN
  go_enter Tryz.func46, Tryz.ntmps46
  go_wp2
  try rw [hw0]
  go_loopw [5, 6] (fun o i wr => ∃ (k : Nat) (A' : Option Addr) (c' : Nat), k ≤ N ∧ i = .int .i64 k ∧ o = .slice A' ((t.take k).filter q).length c' ∧ Hid (OwnI wr w0.heap.size A' c' (nI ((t.take k).filter q))) ∧ Hid (Below w0.heap.size w0 wr)) (fun _ i _ => N - (intOf i).toNat)
  case atStart => exact ⟨0, none, 0, by omega, rfl, rfl, OwnI.nil_ _ _, Below.refl _ _⟩
  case round =>
    obtain ⟨k, A', c', hk, rfl, rfl, HO, HB⟩ := hrel
    obtain ⟨wo, hwo⟩ : ∃ wo : World, wo = wr := ⟨wr, rfl⟩
    subst hwo
    have hsz := HB.out.size
    have HBw := Lib.hid (hB0.trans (HB.out.mono hB0.size))
    have hszw := HBw.out.size
    have gk := g0.next HB.out
    have k0 := gk.cell 0
    have k1 := gk.cell 1
    by_cases hlt : k < N
    · have hi : (k : Int) < (N : Int) := by omega
      obtain ⟨x, hx⟩ : ∃ x, t[k]? = some x := ⟨_, List.getElem?_eq_getElem (by rw [HN.out]; exact hlt)⟩
      have hmem := List.mem_of_getElem? hx
      have SC := Lib.hid (SEP.out x hmem)
      have LX := Lib.hid (LC.out x hmem)
      have hRt := HT.out
      rw [HN.out] at hRt
      obtain ⟨b, off, hC, hbl, cx⟩ := (hRt.below HBw.out).at_ (ints_at (show (nI t)[k]? = some (x : Int) by simp [nI, hx]))
      subst hC
      have hl : ((t.take k).filter q).length ≤ k := Nat.le_trans (List.length_filter_le _ _) (by simp; omega)
      have hsc := filt_snocN (q := q) hx
      obtain ⟨S, hS⟩ : ∃ S, (t.take k).filter q = S := ⟨_, rfl⟩
      rw [hS] at HO hl hsc ⊢
      obtain ⟨sl, hsl⟩ : ∃ sl, S.length = sl := ⟨_, rfl⟩
      have HSL := Lib.hid hsl
      rw [hsl] at hl ⊢
      have OX : wo.ownsRow w0.heap.size 3 1 (.slice A' sl c') sl (ints (nI S)) := by have := HO.out; unfold OwnI at this; rw [nI_length, hsl] at this; exact this
      have HSC := Lib.hid hsc
      obtain ⟨CL, hCL⟩ : ∃ CL, (cutL (endsL es) t x).length = CL := ⟨_, rfl⟩
      rw [hCL] at SC LX
      clear hsc hS hx hsl hRt hmem hCL
      go_wp2
      go_region_held3 (fun W => W.cell? ⟨w.heap.size, 0, none⟩ = some (.int .i64 m) ∧ W.cell? ⟨w.heap.size, 1, none⟩ = some (.slice A es.length c) ∧ W.cell? ⟨b, off + k, none⟩ = some (.int .i64 x)) (go_keep) (first
        | (go_at_call 40; refine (SC.out _ (HBw.out.drew)).mono ?_; rintro e w5 ⟨A5, c5, rfl, o5, hb5⟩; have k0' := ((gk.drew).next hb5).cell 0; have k1' := ((gk.drew).next hb5).cell 1; have cx' := (hb5.cell (p := ⟨b, off + k, none⟩) (by show b < _; exact Nat.lt_of_lt_of_le hbl hszw)).trans cx)
        | (go_at_call 88; refine (LX.out _ _ _ o5).mono ?_; rintro e w6 ⟨rfl, rfl⟩)
        | fail)
      have HB5 := HB.out.trans ((Below.refl _ _).drew.trans (hb5.mono hsz))
      have hsz5 := HB5.size
      have OX5 : w5.ownsRow w0.heap.size 3 1 (.slice A' sl c') sl (ints (nI S)) := own_kept OX fun j hj => (hb5.block j (own_lt OX hj).2)
      have cx5 := (hb5.cell (p := ⟨b, off + k, none⟩) (by show b < _; exact Nat.lt_of_lt_of_le hbl hszw)).trans cx
      by_cases hqx : q x = true
      · have HSC' : Hid ((t.take (k + 1)).filter q = S ++ [x]) := by have := HSC.out; rw [if_pos hqx] at this; exact this
        rw [hqx]
        clear k0 k1 cx o5
        have cx6 := cx5
        go_wp2_with (first | (at_builtin; refine append_go rfl (.tmp 25) (.tmp 30) _ rfl w0.heap.size 3 Tryz.underlying25 info_int rfl (by omega) A' c' sl (ints (nI S)) rfl (World.ownsRow.alloc OX5 _) _ [.int .i64 x] rfl (Reads.box _ _ _) (by simp [Value.oneCell']) (by omega) (by simp; omega) ?_; intro A6 c6 w6 hown6 hg6 hb6 hw6) | fail)
        have B6 : Below w0.heap.size w0 w6 := (HB5.alloc hsz5 _).trans hb6
        have O6 : OwnI w6 w0.heap.size A6 c6 (nI (S ++ [x])) := by unfold OwnI; rw [nI_length, List.length_append, nI_snoc9, ints_snoc, HSL.out]; exact hown6
        go_roundw
        case rel => exact ⟨k + 1, A6, c6, by omega, by go_num, by rw [HSC'.out, List.length_append, HSL.out]; rfl, by rw [HSC'.out]; exact O6, B6⟩
        case measure => simp [intOf]; omega
      · have hqf := Bool.eq_false_iff.2 hqx
        have HSC' : Hid ((t.take (k + 1)).filter q = S) := by have := HSC.out; rw [if_neg hqx] at this; exact this
        rw [hqf]
        clear k0 k1 cx o5 hqx
        go_wp2
        go_roundw
        case rel => exact ⟨k + 1, A', c', by omega, by go_num, by rw [HSC'.out, HSL.out], by rw [HSC'.out]; unfold Hid OwnI; rw [nI_length, HSL.out]; exact OX5, HB5⟩
        case measure => simp [intOf]; omega
    · obtain rfl : k = N := by omega
      have hf : ¬ (k : Int) < (k : Int) := by omega
      have hfin : Hid ((t.take k).filter q = t.filter q) := by rw [Hid, List.take_of_length_le (by rw [HN.out]; exact Nat.le_refl _)]
      have O2 := Lib.hid (HO.out.mono (base' := w.heap.size) hB0.size)
      rw [hfin.out] at O2 ⊢
      clear HO
      go_wp2
      go_ret
      exact ⟨A', c', rfl, O2.out, HBw.out⟩
end Go.Proofs.YtplgbapbgcipdaaGreatDoor

/-! activity.Members: two to the number of the active single edges. -/
namespace Go.Proofs.YtplgbapbgcipdaaGreatDoor
open Go.RowKit
end Go.Proofs.YtplgbapbgcipdaaGreatDoor

/-! The reference's active single edges: Outside, Internal, External. -/
namespace Go.Proofs.YtplgbapbgcipdaaGreatDoor
open Go.RowKit
set_option maxRecDepth 100000 in
set_option maxHeartbeats 4000000 in
theorem routside_any (m : Nat) (A : Option Addr) (c : Nat) (es : List E3) (hn : es.length ≤ 40) (B : Option Addr) (d : Nat) (t : List Nat) (hR : TreeR m es t) (w : World) (h : Reads w w.heap.size 3 A es.length (edgeCells es)) (h' : Reads w w.heap.size 1 B t.length (ints (nI t))) :
    Calls Tryz.prog 49 #[.agg #[.int .i64 m, .slice A es.length c], .slice B t.length d] w fun e w' => ∃ A' c', e = .returned (.slice A' (outA (endsL es) t).length c') ∧ OwnI w' w.heap.size A' c' (nI (outA (endsL es) t)) ∧ Below w.heap.size w w' := by
  have g0 := Blk.new w 24 #[.int .i64 m, .slice A es.length c]
  have hB0 : Below w.heap.size w (w.alloc (.cells #[.int .i64 m, .slice A es.length c] 24)) := (Below.refl _ _).alloc (Nat.le_refl _) _
  obtain ⟨w0, hw0⟩ : ∃ w0, w.alloc (.cells #[.int .i64 m, .slice A es.length c] 24) = w0 := ⟨_, rfl⟩
  have hs0 : w0.heap.size = w.heap.size + 1 := by rw [← hw0]; simp
  rw [hw0] at g0 hB0
  obtain ⟨MM, hMM⟩ : ∃ M, (endsL es).length = M := ⟨_, rfl⟩
  have hbd := bd_ends hR.hG
  have hm2 := endsL_length hR.hG.ok
  have SZ : Hid (∀ W, Below w.heap.size w W → Calls Tryz.prog 28 #[.agg #[.int .i64 m, .slice A es.length c]] W fun e w' => e = .returned (.int .i64 (MM : Nat)) ∧ Below W.heap.size W w') := fun W hB => by
    have := rsize_any m A c es hn m hR.hG.ok W ((h.below hB).more hB.size)
    rw [size_ends, hMM] at this
    exact this
  have HOL : Hid (∀ (x : Nat) (W : World), Below w.heap.size w W → Calls Tryz.prog 68 #[.slice B t.length d, .int .i64 x] W fun e w' => e = .returned (.bool (decide (x ∈ t))) ∧ W = w') := fun x W hB => by
    have := holds_any B d (nI t) (by rw [nI_length]; have := hR.tr.len; have := hR.hi; omega) x W (by rw [nI_length]; exact (h'.below hB).more hB.size)
    rw [nI_length] at this
    rw [show decide (x ∈ t) = decide ((x : Int) ∈ nI t) from decide_eq_decide.2 mem_nI9.symm]
    exact this
  have SEP : Hid (∀ x, x < MM → x ∉ t → ∃ CL : Nat, ∀ W, Below w.heap.size w W → Calls Tryz.prog 92 #[.agg #[.int .i64 m, .slice A es.length c], .slice B t.length d, .int .i64 x] W fun e w' => ∃ A' c', e = .returned (.slice A' CL c') ∧ (∀ W2, Below w'.heap.size w' W2 → Calls Tryz.prog 88 #[.slice A' CL c', .int .i64 x] W2 fun r w2 => r = .returned (.bool (decide (EAct (endsL es) t x))) ∧ W2 = w2) ∧ Below W.heap.size W w') := by
    intro x hx hxt
    have hlt : x < (endsL es).length := by omega
    obtain ⟨⟨p, q⟩, hpq⟩ : ∃ pq, (endsL es)[x]? = some pq := ⟨_, List.getElem?_eq_getElem hlt⟩
    refine ⟨(sortG ltI (nI (pathL (endsL es) t p q) ++ [(x : Int)])).length, fun W hB => ?_⟩
    refine (rclosed_any m A c es hn B d t hR x p q hpq W ((h.below hB).more hB.size) ((h'.below hB).more hB.size)).mono ?_
    rintro e w' ⟨A', c', he, o, hb⟩
    refine ⟨A', c', he, fun W2 hB2 => ?_, hb⟩
    have hgd : (endsL es).getD x (0, 0) = (p, q) := by rw [List.getD_eq_getElem?_getD, hpq]; rfl
    obtain ⟨ha, hb3⟩ := getD_bd hbd hlt
    have hle : (sortG ltI (nI (pathL (endsL es) t p q) ++ [(x : Int)])).length ≤ 1048576 := by
      rw [sortG_length, List.length_append, nI_length]
      have h1 : (pathL (endsL es) t p q).length ≤ t.length := (by
        have := path_len (hR.tr.foe hbd) (hR.tr.cn hbd ha hb3)
        rw [hgd] at this
        exact this)
      have := hR.tr.len; have := hR.hi
      simp
      omega
    have h2 := rleast31_any A' c' (sortG ltI (nI (pathL (endsL es) t p q) ++ [(x : Int)])) x hle W2 (o.reads.next hB2)
    have h3 : leastB (sortG ltI (nI (pathL (endsL es) t p q) ++ [(x : Int)])) (x : Int) = decide (EAct (endsL es) t x) := by
      rw [Bool.eq_iff_iff, leastB_iff, decide_eq_true_eq]
      refine cyc_least (hR.tr.foe hbd) (hR.tr.cn hbd ha hb3) fun y => ?_
      rw [hgd, (sortG_perm _).mem_iff, List.mem_append, List.mem_singleton, or_comm]
    rw [h3] at h2
    exact h2
  have ht12 : MM ≤ 100000 := by omega
  unfold outA
  rw [hMM]
  obtain ⟨q, hq⟩ : ∃ q : Nat → Bool, (fun e => !decide (e ∈ t) && decide (EAct (endsL es) t e)) = q := ⟨_, rfl⟩
  have HQ : Hid (∀ x, (!decide (x ∈ t) && decide (EAct (endsL es) t x)) = q x) := fun x => by rw [← hq]
  rw [hq]
  obtain ⟨N, hN⟩ : ∃ N, t.length = N := ⟨_, rfl⟩
  have HN := Lib.hid hN
  have HT := Lib.hid h'
  rw [hN] at SEP HOL ⊢
  clear hq hR h h' hN hbd hm2 hMM
  go_enter Tryz.func49, Tryz.ntmps49
  go_wp2
  try rw [hw0]
  go_loopw [5, 6] (fun o i wr => ∃ (k : Nat) (A' : Option Addr) (c' : Nat), k ≤ MM ∧ i = .int .i64 k ∧ o = .slice A' (((List.range MM).take k).filter q).length c' ∧ Hid (OwnI wr w0.heap.size A' c' (nI (((List.range MM).take k).filter q))) ∧ Hid (Below w0.heap.size w0 wr)) (fun _ i _ => MM - (intOf i).toNat)
  case atStart => exact ⟨0, none, 0, by omega, rfl, rfl, OwnI.nil_ _ _, Below.refl _ _⟩
  case round =>
    obtain ⟨k, A', c', hk, rfl, rfl, HO, HB⟩ := hrel
    obtain ⟨wo, hwo⟩ : ∃ wo : World, wo = wr := ⟨wr, rfl⟩
    subst hwo
    have hsz := HB.out.size
    have HBw := Lib.hid (hB0.trans (HB.out.mono hB0.size))
    have hszw := HBw.out.size
    have gk := g0.next HB.out
    have k0 := gk.cell 0
    have k1 := gk.cell 1
    have SW := Lib.hid (SZ.out wo HBw.out)
    go_wp2_with fail
    refine (SW.out).mono ?_
    rintro e w5 ⟨rfl, hb5⟩
    have HB5 := HB.out.trans (hb5.mono hsz)
    have HBw5 := Lib.hid (HBw.out.trans (hb5.mono hszw))
    have gk := gk.next hb5
    have k0 := gk.cell 0
    have k1 := gk.cell 1
    have hsz5 := HB5.size
    by_cases hlt : k < MM
    · have hi : (k : Int) < (MM : Int) := by omega
      have hx : (List.range MM)[k]? = some k := by rw [List.getElem?_range hlt]
      have hl : (((List.range MM).take k).filter q).length ≤ k := Nat.le_trans (List.length_filter_le _ _) (by simp; omega)
      have hsc := filt_snocN (q := q) hx
      obtain ⟨S, hS⟩ : ∃ S, ((List.range MM).take k).filter q = S := ⟨_, rfl⟩
      rw [hS] at HO hl hsc ⊢
      obtain ⟨sl, hsl⟩ : ∃ sl, S.length = sl := ⟨_, rfl⟩
      have HSL := Lib.hid hsl
      rw [hsl] at hl ⊢
      have OX : wo.ownsRow w0.heap.size 3 1 (.slice A' sl c') sl (ints (nI S)) := by have := HO.out; unfold OwnI at this; rw [nI_length, hsl] at this; exact this
      have OX5 : w5.ownsRow w0.heap.size 3 1 (.slice A' sl c') sl (ints (nI S)) := own_kept OX fun j hj => (hb5.block j (own_lt OX hj).2)
      have HSC := Lib.hid hsc
      have HW := Lib.hid (HOL.out k w5 HBw5.out)
      have HQK := Lib.hid (HQ.out k)
      clear hsc hS hx hsl
      by_cases hkt : k ∈ t
      · have hqf : q k = false := by rw [← HQK.out, decide_eq_true hkt]; rfl
        have HSC' : Hid (((List.range MM).take (k + 1)).filter q = S) := by have := HSC.out; rw [if_neg (by rw [hqf]; decide)] at this; exact this
        rw [decide_eq_true hkt] at HW
        clear hkt hqf
        go_wp2_with fail
        refine (HW.out).mono ?_
        rintro e wh ⟨rfl, rfl⟩
        go_wp2
        go_roundw
        case rel => exact ⟨k + 1, A', c', by omega, by go_num, by rw [HSC'.out, HSL.out], by rw [HSC'.out]; unfold Hid OwnI; rw [nI_length, HSL.out]; exact OX5, HB5⟩
        case measure => simp [intOf]; omega
      · obtain ⟨CL, hCC⟩ := SEP.out k hlt hkt
        have CC := Lib.hid (hCC w5 HBw5.out)
        rw [decide_eq_false hkt] at HW HQK
        obtain ⟨qv, hqv⟩ : ∃ qv, decide (EAct (endsL es) t k) = qv := ⟨_, rfl⟩
        rw [hqv] at CC HQK
        clear hkt hCC hqv
        go_wp2_with fail
        refine (HW.out).mono ?_
        rintro e wh ⟨rfl, rfl⟩
        go_wp2_with fail
        refine (CC.out).mono ?_
        rintro e w7 ⟨A7, c7, rfl, hlc, hb7⟩
        have LW := Lib.hid (hlc w7 (Below.refl _ _))
        have HB7 := HB5.trans (hb7.mono hsz5)
        have hsz7 := HB7.size
        have OX7 : w7.ownsRow w0.heap.size 3 1 (.slice A' sl c') sl (ints (nI S)) := own_kept OX5 fun j hj => (hb7.block j (own_lt OX5 hj).2)
        clear hlc
        go_wp2_with fail
        refine (LW.out).mono ?_
        rintro e w8 ⟨rfl, rfl⟩
        cases qv
        · have hqf : Hid (q k = false) := by rw [Hid, ← HQK.out]; rfl
          have HSC' : Hid (((List.range MM).take (k + 1)).filter q = S) := by have := HSC.out; rw [if_neg (by rw [hqf.out]; decide)] at this; exact this
          go_wp2
          go_roundw
          case rel => exact ⟨k + 1, A', c', by omega, by go_num, by rw [HSC'.out, HSL.out], by rw [HSC'.out]; unfold Hid OwnI; rw [nI_length, HSL.out]; exact OX7, HB7⟩
          case measure => simp [intOf]; omega
        · have hqf : Hid (q k = true) := by rw [Hid, ← HQK.out]; rfl
          have HSC' : Hid (((List.range MM).take (k + 1)).filter q = S ++ [k]) := by have := HSC.out; rw [if_pos hqf.out] at this; exact this
          go_wp2_with (first | (at_builtin; refine append_go rfl (.tmp 25) (.tmp 27) _ rfl w0.heap.size 3 Tryz.underlying25 info_int rfl (by omega) A' c' sl (ints (nI S)) rfl (World.ownsRow.alloc OX7 _) _ [.int .i64 k] rfl (Reads.box _ _ _) (by simp [Value.oneCell']) (by omega) (by simp; omega) ?_; intro A6 c6 w6 hown6 hg6 hb6 hw6) | fail)
          have B6 : Below w0.heap.size w0 w6 := (HB7.alloc hsz7 _).trans hb6
          have O6 : OwnI w6 w0.heap.size A6 c6 (nI (S ++ [k])) := by unfold OwnI; rw [nI_length, List.length_append, nI_snoc9, ints_snoc, HSL.out]; exact hown6
          go_roundw
          case rel => exact ⟨k + 1, A6, c6, by omega, by go_num, by rw [HSC'.out, List.length_append, HSL.out]; rfl, by rw [HSC'.out]; exact O6, B6⟩
          case measure => simp [intOf]; omega
    · obtain rfl : k = MM := by omega
      have hf : ¬ (k : Int) < (k : Int) := by omega
      have hfin : Hid (((List.range k).take k).filter q = (List.range k).filter q) := by rw [Hid, List.take_of_length_le (by simp)]
      have O2 := Lib.hid ((HO.out.next hb5).mono (base' := w.heap.size) hB0.size)
      rw [hfin.out] at O2 ⊢
      clear HO
      go_wp2
      go_ret
      exact ⟨A', c', rfl, O2.out, HBw5.out⟩
end Go.Proofs.YtplgbapbgcipdaaGreatDoor

