/-
  Texts of this claim, put together: RPath.
-/
import Derived.Test.YtepmfbgmkfkmkaaK27
import Derived.Test.YtepmfbgmkfkmkaaK17
import Derived.Deep.RegionHeld3
/-! ref13.other, ref13.Path. -/
namespace Go.Proofs.Ytepmfbgmkfkmkaa
open Go.RowKit

set_option maxHeartbeats 1000000 in
theorem rother_any (a b v : Nat) (w : World) :
    Calls Try.prog 54 #[.agg #[.int .i64 a, .int .i64 b], .int .i64 v] w fun e w' => e = .returned (.int .i64 ((oth (a, b) v : Nat) : Int)) ∧ Below w.heap.size w w' := by
  have g0 := Blk.new w 31 #[.int .i64 a, .int .i64 b]
  have hb0 : Below w.heap.size w (w.alloc (.cells #[.int .i64 a, .int .i64 b] 31)) := (Below.refl _ _).alloc (Nat.le_refl _) _
  have c0 := g0.cell 0
  have c1 := g0.cell 1
  unfold oth
  by_cases hv : a = v
  · have hq : ((a : Int) == (v : Int)) = true := by simp [hv]
    rw [if_pos hv]
    clear hv
    go_enter Try.func54, Try.ntmps54
    go_wp2
    go_ret
    exact ⟨rfl, hb0⟩
  · have hq : ((a : Int) == (v : Int)) = false := by simp; omega
    rw [if_neg hv]
    clear hv
    go_enter Try.func54, Try.ntmps54
    go_wp2
    go_ret
    exact ⟨rfl, hb0⟩

set_option maxRecDepth 100000 in
set_option maxHeartbeats 4000000 in
theorem rpath_any (m : Nat) (A : Option Addr) (c : Nat) (es : List E3) (hn : es.length ≤ 40) (B : Option Addr) (d : Nat) (t : List Nat) (hR : TreeR m es t) (a b : Nat) (ha : a < m) (hb : b < m) (w : World) (h : Reads w w.heap.size 3 A es.length (edgeCells es)) (h' : Reads w w.heap.size 1 B t.length (ints (nI t))) :
    Calls Try.prog 20 #[.agg #[.int .i64 m, .slice A es.length c], .slice B t.length d, .int .i64 a, .int .i64 b] w fun e w' => ∃ A' c', e = .returned (.slice A' (pathL (endsL es) t a b).length c') ∧ OwnI w' w.heap.size A' c' (nI (pathL (endsL es) t a b)) ∧ Below w.heap.size w w' := by
  have hm12 := hR.hi
  have PC := Lib.hid (fun (W : World) (hB : Below w.heap.size w W) => rparents_any m A c es hn B d t hR b hb W ((h.below hB).more hB.size) ((h'.below hB).more hB.size))
  have EC := Lib.hid (fun (W : World) (hB : Below w.heap.size w W) => rendsC_any m A c es hn m hR.hG.ok W ((h.below hB).more hB.size))
  have HST : Hid (∀ v, v < m → v ≠ b → ∃ e : Nat, e < (endsL es).length ∧ (parentsL m (endsL es) t b)[v]? = some (e : Int) ∧ oth ((endsL es).getD e (0, 0)) v < m ∧ pathL (endsL es) t v b = e :: pathL (endsL es) t (oth ((endsL es).getD e (0, 0)) v) b) := by
    intro v hv hne
    obtain ⟨e, k1, k2, k3, k4⟩ := parE_some hR.hT (hR.cn hv hb) hne
    refine ⟨e, hR.hT.lt e k2, ?_, (inc_cn k2 k3).lt (bd_pk hR.hT.bd hR.hT.lt) hv, pathL_step hR.hT (hR.cn hv hb) k2 k3 k4⟩
    unfold parentsL
    rw [List.getElem?_map, List.getElem?_range hv]
    simp only [Option.map_some, if_neg hne, k1]
  have HSF : Hid (pathL (endsL es) t b b = []) := pathL_self b
  have HPL : Hid ((pathL (endsL es) t a b).length < m) := by
    have := path_len hR.hT (hR.cn ha hb); have := hR.tr.len; unfold Hid; omega
  have g0 : Blk (w.alloc (.cells #[.int .i64 m, .slice A es.length c] 24)).drew w.heap.size 24 #[.int .i64 m, .slice A es.length c] := (Blk.new w 24 #[.int .i64 m, .slice A es.length c]).drew
  have hB0 : Below w.heap.size w (w.alloc (.cells #[.int .i64 m, .slice A es.length c] 24)).drew := ((Below.refl _ _).alloc (Nat.le_refl _) _).drew
  have k0 := g0.cell 0
  have k1 := g0.cell 1
  obtain ⟨E, hE⟩ : ∃ E, endsL es = E := ⟨_, rfl⟩
  rw [hE] at PC EC HST HSF HPL ⊢
  have HPS := Lib.hid (parentsL_length (n := m) (E := E) (t := t) (r := b))
  clear hE hR
  go_enter Try.func20, Try.ntmps20
  go_wp2_with fail
  go_region_held3 (fun W => W.cell? ⟨w.heap.size, 0, none⟩ = some (.int .i64 m) ∧ W.cell? ⟨w.heap.size, 1, none⟩ = some (.slice A es.length c)) (go_keep) (first
    | (go_at_call 21; refine (PC.out _ hB0).mono ?_; rintro e w1 ⟨AP, cP, rfl, oP, hbP⟩; have g1 := g0.next hbP; have hB1 := hB0.trans (hbP.mono hB0.size); have k0 := g1.cell 0; have k1 := g1.cell 1)
    | (go_at_call 28; refine (EC.out _ hB1).mono ?_; rintro e w2 ⟨AE, cE, rfl, oE, hbE⟩; have g2 := g1.next hbE; have hB2 := hB1.trans (hbE.mono hB1.size); have k0 := g2.cell 0; have k1 := g2.cell 1))
  have RP : Hid (Reads w2 w2.heap.size 1 AP m (ints (parentsL m E t b))) := by
    have := (OwnI.next oP hbE).reads
    rw [HPS.out] at this
    exact this
  have RE : Hid (Reads w2 w2.heap.size 2 AE E.length (pair2 E)) := OwnQ.reads oE
  have HB2 := Lib.hid hB2
  clear hB0 hB1 hB2 hbP hbE oP oE g0 g1 k0 k1 PC EC
  go_wp2_with fail
  go_loopw [2, 11, 12, 13] (fun v o i _ wr => ∃ (k x : Nat) (L : List Nat) (Ao : Option Addr) (co : Nat), v = .int .i64 x ∧ i = .int .i64 k ∧ o = .slice Ao (nI L).length co ∧ x < m ∧ L.length = k ∧ Hid (pathL E t a b = L ++ pathL E t x b) ∧ Hid (OwnI wr w2.heap.size Ao co (nI L)) ∧ Hid (Below w2.heap.size w2 wr)) (fun _ _ i _ _ => m - (intOf i).toNat)
  case atStart => exact ⟨0, a, [], none, 0, rfl, rfl, rfl, ha, rfl, rfl, OwnI.nil_ _ _, Below.refl _ _⟩
  case round =>
    obtain ⟨k, x, L, Ao, co, rfl, rfl, rfl, hx, hL, HP, HO, HW⟩ := hrel
    have hwz := HW.out.size
    have g3 := g2.next HW.out
    have k0 := g3.cell 0
    have hkm : k < m := by
      have h1 := HPL.out
      rw [HP.out, List.length_append] at h1
      omega
    have hi : (k : Int) < (m : Int) := by omega
    by_cases hxb : x = b
    · have hq : ((x : Int) != (b : Int)) = false := by simp [hxb]
      have hfin : Hid (pathL E t a b = L) := by rw [Hid, HP.out, hxb, HSF.out, List.append_nil]
      have BW := Lib.hid (HB2.out.trans (HW.out.mono HB2.out.size))
      have OW := Lib.hid (HO.out.mono HB2.out.size)
      clear hxb
      go_wp2
      go_ret
      exact ⟨Ao, co, by rw [hfin.out]; simp [nI_length, hL], by rw [hfin.out]; exact OW.out, BW.out⟩
    · have hq : ((x : Int) != (b : Int)) = true := bne_iff_ne.2 (by omega)
      obtain ⟨e, he, hpe, hom, hps⟩ := HST.out x hx hxb
      obtain ⟨bP, oP, hAP, hbP, hcP⟩ := (RP.out.below HW.out).at_ (ints_at hpe)
      subst hAP
      obtain ⟨bE, oE, hAE, hbE, q0, q1⟩ := (RE.out.below HW.out).pairAt (getD_some he)
      subst hAE
      have HPS2 : Hid (pathL E t a b = (L ++ [e]) ++ pathL E t (oth (E.getD e (0, 0)) x) b) := by rw [Hid, HP.out, hps, List.append_assoc]; rfl
      obtain ⟨⟨p, q⟩, hpq⟩ : ∃ z, E.getD e (0, 0) = z := ⟨_, rfl⟩
      rw [hpq] at q0 q1 hom HPS2
      dsimp only at q0 q1
      have hxi : (x : Int) < (m : Int) := by omega
      have hei : (e : Int) < (E.length : Int) := by omega
      have hnl := nI_length L
      have OC := Lib.hid (fun W => rother_any p q x W)
      obtain ⟨y, hy⟩ : ∃ y, oth (p, q) x = y := ⟨_, rfl⟩
      rw [hy] at OC HPS2 hom
      clear hpe hps hpq hy hxb
      go_wp2_with (first | (at_builtin; refine push_int rfl (.tmp 35) (.tmp 37) _ rfl Try.underlying25 w2.heap.size Ao co (nI L) (e : Int) rfl HO.out rfl rfl (by omega) hwz ?_; intro A5 c5 w5 hown5 _ hb5; have hB5 := HW.out.trans hb5; have r0 := (hb5.cell (p := ⟨bE, oE + e * 2, none⟩) (by show bE < w2.heap.size; exact hbE)).trans q0; have r1 := (hb5.cell (p := ⟨bE, oE + e * 2 + 1, none⟩) (by show bE < w2.heap.size; exact hbE)).trans q1) | fail)
      refine (OC.out _).mono ?_
      rintro en w6 ⟨rfl, hb6⟩
      have hB6 := Lib.hid (hB5.trans (hb6.mono hB5.size))
      have O6 := Lib.hid (hown5.next hb6)
      clear hown5 hb5 hb6 hB5 r0 r1
      go_wp2
      go_roundw
      case rel => exact ⟨k + 1, y, L ++ [e], A5, c5, rfl, by go_num, by rw [nI_snoc, List.length_append, hnl, hL]; rfl, hom, by simp [hL], HPS2, by rw [Hid, nI_snoc]; exact O6.out, hB6⟩
      case measure => simp [intOf]; omega
end Go.Proofs.Ytepmfbgmkfkmkaa

