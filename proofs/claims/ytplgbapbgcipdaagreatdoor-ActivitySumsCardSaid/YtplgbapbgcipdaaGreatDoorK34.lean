/-
  Texts of this claim, put together: RPath, RSubset13, DualT, TCount, RClosed.
-/
import Derived.Test.YtplgbapbgcipdaaGreatDoorK32
import Derived.Test.YtplgbapbgcipdaaGreatDoorK31
import Derived.Deep.RegionHeld3
import Derived.Test.YtplgbapbgcipdaaGreatDoorK04
import Derived.Test.YtplgbapbgcipdaaGreatDoorK09
import Derived.Test.YtplgbapbgcipdaaGreatDoorK33
import Derived.Test.YtplgbapbgcipdaaGreatDoorK14
import Derived.Test.YtplgbapbgcipdaaGreatDoorK24
/-! ref13.other, ref13.Path. -/
namespace Go.Proofs.YtplgbapbgcipdaaGreatDoor
open Go.RowKit

set_option maxHeartbeats 1000000 in
theorem rother_any (a b v : Nat) (w : World) :
    Calls Tryz.prog 172 #[.agg #[.int .i64 a, .int .i64 b], .int .i64 v] w fun e w' => e = .returned (.int .i64 ((oth (a, b) v : Nat) : Int)) ∧ Below w.heap.size w w' := by
  have g0 := Blk.new w 67 #[.int .i64 a, .int .i64 b]
  have hb0 : Below w.heap.size w (w.alloc (.cells #[.int .i64 a, .int .i64 b] 67)) := (Below.refl _ _).alloc (Nat.le_refl _) _
  have c0 := g0.cell 0
  have c1 := g0.cell 1
  unfold oth
  by_cases hv : a = v
  · have hq : ((a : Int) == (v : Int)) = true := by simp [hv]
    rw [if_pos hv]
    clear hv
    go_enter Tryz.func172, Tryz.ntmps172
    go_wp2
    go_ret
    exact ⟨rfl, hb0⟩
  · have hq : ((a : Int) == (v : Int)) = false := by simp; omega
    rw [if_neg hv]
    clear hv
    go_enter Tryz.func172, Tryz.ntmps172
    go_wp2
    go_ret
    exact ⟨rfl, hb0⟩

set_option maxRecDepth 100000 in
set_option maxHeartbeats 4000000 in
theorem rpath_any (m : Nat) (A : Option Addr) (c : Nat) (es : List E3) (hn : es.length ≤ 40) (B : Option Addr) (d : Nat) (t : List Nat) (hR : TreeR m es t) (a b : Nat) (ha : a < m) (hb : b < m) (w : World) (h : Reads w w.heap.size 3 A es.length (edgeCells es)) (h' : Reads w w.heap.size 1 B t.length (ints (nI t))) :
    Calls Tryz.prog 130 #[.agg #[.int .i64 m, .slice A es.length c], .slice B t.length d, .int .i64 a, .int .i64 b] w fun e w' => ∃ A' c', e = .returned (.slice A' (pathL (endsL es) t a b).length c') ∧ OwnI w' w.heap.size A' c' (nI (pathL (endsL es) t a b)) ∧ Below w.heap.size w w' := by
  have hm12 := hR.hi
  have PC := Lib.hid (fun (W : World) (hB : Below w.heap.size w W) => rparents_any m A c es hn B d t hR b hb W ((h.below hB).more hB.size) ((h'.below hB).more hB.size))
  have EC := Lib.hid (fun (W : World) (hB : Below w.heap.size w W) => rendsC_any m A c es hn m hR.hG.ok W ((h.below hB).more hB.size))
  have HST : Hid (∀ v, v < m → v ≠ b → ∃ e : Nat, e < (endsL es).length ∧ (parentsL m (endsL es) t b)[v]? = some (e : Int) ∧ oth ((endsL es).getD e (0, 0)) v < m ∧ pathL (endsL es) t v b = e :: pathL (endsL es) t (oth ((endsL es).getD e (0, 0)) v) b) := by
    intro v hv hne
    obtain ⟨e, k1, k2, k3, k4⟩ := parE_some hR.hT (hR.cn hv hb) hne
    refine ⟨e, hR.hT.lt e k2, ?_, (inc_cn k2 k3).lt (bd_pk hR.hT.bd hR.hT.lt) hv, pathL_step hR.hT (hR.cn hv hb) k2 k3 k4⟩
    unfold parentsL
    rw [List.getElem?_map, List.getElem?_range hv]
    simp only [Option.map_some, if_neg hne, k1]
  have HSF : Hid (pathL (endsL es) t b b = []) := pathL_self b
  have HPL : Hid ((pathL (endsL es) t a b).length < m) := by
    have := path_len hR.hT (hR.cn ha hb); have := hR.tr.len; unfold Hid; omega
  have g0 : Blk (w.alloc (.cells #[.int .i64 m, .slice A es.length c] 24)).drew w.heap.size 24 #[.int .i64 m, .slice A es.length c] := (Blk.new w 24 #[.int .i64 m, .slice A es.length c]).drew
  have hB0 : Below w.heap.size w (w.alloc (.cells #[.int .i64 m, .slice A es.length c] 24)).drew := ((Below.refl _ _).alloc (Nat.le_refl _) _).drew
  have k0 := g0.cell 0
  have k1 := g0.cell 1
  obtain ⟨E, hE⟩ : ∃ E, endsL es = E := ⟨_, rfl⟩
  rw [hE] at PC EC HST HSF HPL ⊢
  have HPS := Lib.hid (parentsL_length (n := m) (E := E) (t := t) (r := b))
  clear hE hR
  go_enter Tryz.func130, Tryz.ntmps130
  go_wp2_with fail
  go_region_held3 (fun W => W.cell? ⟨w.heap.size, 0, none⟩ = some (.int .i64 m) ∧ W.cell? ⟨w.heap.size, 1, none⟩ = some (.slice A es.length c)) (go_keep) (first
    | (go_at_call 171; refine (PC.out _ hB0).mono ?_; rintro e w1 ⟨AP, cP, rfl, oP, hbP⟩; have g1 := g0.next hbP; have hB1 := hB0.trans (hbP.mono hB0.size); have k0 := g1.cell 0; have k1 := g1.cell 1)
    | (go_at_call 39; refine (EC.out _ hB1).mono ?_; rintro e w2 ⟨AE, cE, rfl, oE, hbE⟩; have g2 := g1.next hbE; have hB2 := hB1.trans (hbE.mono hB1.size); have k0 := g2.cell 0; have k1 := g2.cell 1))
  have RP : Hid (Reads w2 w2.heap.size 1 AP m (ints (parentsL m E t b))) := by
    have := (OwnI.next oP hbE).reads
    rw [HPS.out] at this
    exact this
  have RE : Hid (Reads w2 w2.heap.size 2 AE E.length (pair2 E)) := OwnQ.reads oE
  have HB2 := Lib.hid hB2
  clear hB0 hB1 hB2 hbP hbE oP oE g0 g1 k0 k1 PC EC
  go_wp2_with fail
  go_loopw [2, 11, 12, 13] (fun v o i _ wr => ∃ (k x : Nat) (L : List Nat) (Ao : Option Addr) (co : Nat), v = .int .i64 x ∧ i = .int .i64 k ∧ o = .slice Ao (nI L).length co ∧ x < m ∧ L.length = k ∧ Hid (pathL E t a b = L ++ pathL E t x b) ∧ Hid (OwnI wr w2.heap.size Ao co (nI L)) ∧ Hid (Below w2.heap.size w2 wr)) (fun _ _ i _ _ => m - (intOf i).toNat)
  case atStart => exact ⟨0, a, [], none, 0, rfl, rfl, rfl, ha, rfl, rfl, OwnI.nil_ _ _, Below.refl _ _⟩
  case round =>
    obtain ⟨k, x, L, Ao, co, rfl, rfl, rfl, hx, hL, HP, HO, HW⟩ := hrel
    have hwz := HW.out.size
    have g3 := g2.next HW.out
    have k0 := g3.cell 0
    have hkm : k < m := by
      have h1 := HPL.out
      rw [HP.out, List.length_append] at h1
      omega
    have hi : (k : Int) < (m : Int) := by omega
    by_cases hxb : x = b
    · have hq : ((x : Int) != (b : Int)) = false := by simp [hxb]
      have hfin : Hid (pathL E t a b = L) := by rw [Hid, HP.out, hxb, HSF.out, List.append_nil]
      have BW := Lib.hid (HB2.out.trans (HW.out.mono HB2.out.size))
      have OW := Lib.hid (HO.out.mono HB2.out.size)
      clear hxb
      go_wp2
      go_ret
      exact ⟨Ao, co, by rw [hfin.out]; simp [nI_length, hL], by rw [hfin.out]; exact OW.out, BW.out⟩
    · have hq : ((x : Int) != (b : Int)) = true := bne_iff_ne.2 (by omega)
      obtain ⟨e, he, hpe, hom, hps⟩ := HST.out x hx hxb
      obtain ⟨bP, oP, hAP, hbP, hcP⟩ := (RP.out.below HW.out).at_ (ints_at hpe)
      subst hAP
      obtain ⟨bE, oE, hAE, hbE, q0, q1⟩ := (RE.out.below HW.out).pairAt (getD_some he)
      subst hAE
      have HPS2 : Hid (pathL E t a b = (L ++ [e]) ++ pathL E t (oth (E.getD e (0, 0)) x) b) := by rw [Hid, HP.out, hps, List.append_assoc]; rfl
      obtain ⟨⟨p, q⟩, hpq⟩ : ∃ z, E.getD e (0, 0) = z := ⟨_, rfl⟩
      rw [hpq] at q0 q1 hom HPS2
      dsimp only at q0 q1
      have hxi : (x : Int) < (m : Int) := by omega
      have hei : (e : Int) < (E.length : Int) := by omega
      have hnl := nI_length L
      have OC := Lib.hid (fun W => rother_any p q x W)
      obtain ⟨y, hy⟩ : ∃ y, oth (p, q) x = y := ⟨_, rfl⟩
      rw [hy] at OC HPS2 hom
      clear hpe hps hpq hy hxb
      go_wp2_with (first | (at_builtin; refine push_int rfl (.tmp 35) (.tmp 37) _ rfl Tryz.underlying25 w2.heap.size Ao co (nI L) (e : Int) rfl HO.out rfl rfl (by omega) hwz ?_; intro A5 c5 w5 hown5 _ hb5; have hB5 := HW.out.trans hb5; have r0 := (hb5.cell (p := ⟨bE, oE + e * 2, none⟩) (by show bE < w2.heap.size; exact hbE)).trans q0; have r1 := (hb5.cell (p := ⟨bE, oE + e * 2 + 1, none⟩) (by show bE < w2.heap.size; exact hbE)).trans q1) | fail)
      refine (OC.out _).mono ?_
      rintro en w6 ⟨rfl, hb6⟩
      have hB6 := Lib.hid (hB5.trans (hb6.mono hB5.size))
      have O6 := Lib.hid (hown5.next hb6)
      clear hown5 hb5 hb6 hB5 r0 r1
      go_wp2
      go_roundw
      case rel => exact ⟨k + 1, y, L ++ [e], A5, c5, rfl, by go_num, by rw [nI_snoc, List.length_append, hnl, hL]; rfl, hom, by simp [hL], HPS2, by rw [Hid, nI_snoc]; exact O6.out, hB6⟩
      case measure => simp [intOf]; omega
end Go.Proofs.YtplgbapbgcipdaaGreatDoor

/-! ref10.Subset: the set with a number. -/
namespace Go.Proofs.YtplgbapbgcipdaaGreatDoor
open Go.RowKit

set_option maxHeartbeats 1000000 in
theorem rsubset10_any (n D : Nat) (hn : n ≤ 1000) (hD : D ≤ 1048576) (w : World) :
    Calls Tryz.prog 142 #[.int .i64 n, .int .i64 D] w fun en w' => ∃ A' c', en = .returned (.slice A' (bitsL n D).length c') ∧ OwnI w' w.heap.size A' c' (nI (bitsL n D)) ∧ Below w.heap.size w w' := by
  have hA0 : Hid (OwnI w w.heap.size none 0 (nI (bitsL 0 D))) := OwnI.nil_ _ _
  have hDD : Hid (D / 2 ^ 0 = D) := by simp [Hid]
  go_enter Tryz.func142, Tryz.ntmps142
  go_wp2_with fail
  go_loopw [1, 5, 6] (fun d o i wr => ∃ (k : Nat) (Ao : Option Addr) (co : Nat), k ≤ n ∧ i = .int .i64 k ∧ d = .int .i64 ((D / 2 ^ k : Nat) : Int) ∧ o = .slice Ao (nI (bitsL k D)).length co ∧ Hid (OwnI wr w.heap.size Ao co (nI (bitsL k D))) ∧ Hid (Below w.heap.size w wr)) (fun _ _ i _ => n - (intOf i).toNat)
  case atStart => exact ⟨0, none, 0, by omega, rfl, by rw [hDD.out], rfl, hA0, Below.refl _ _⟩
  case round =>
    obtain ⟨k, Ao, co, hk, rfl, rfl, rfl, HO, HW⟩ := hrel
    have hwz := HW.out.size
    by_cases hlt : k < n
    · have hi : (k : Int) < (n : Int) := by omega
      have hbl : (nI (bitsL k D)).length ≤ k := by rw [nI_length]; exact bitsL_length k D
      have hyes := bitsL_yes (k := k) (D := D)
      have hno := bitsL_no (k := k) (D := D)
      have hdiv : D / 2 ^ (k + 1) = D / 2 ^ k / 2 := by rw [Nat.pow_succ, Nat.div_div_eq_div_mul]
      have hle : D / 2 ^ k ≤ D := Nat.div_le_self _ _
      obtain ⟨L, hL⟩ : ∃ L, bitsL k D = L := ⟨_, rfl⟩
      obtain ⟨q, hq⟩ : ∃ q, D / 2 ^ k = q := ⟨_, rfl⟩
      rw [hL] at HO hyes hno hbl ⊢
      rw [hq] at hyes hno hdiv hle ⊢
      have HDV := Lib.hid hdiv
      have hquo : ((q : Int)).tdiv 2 = ((q / 2 : Nat) : Int) := by simp [Int.tdiv]
      have hrem : ((q : Int)).tmod 2 = ((q % 2 : Nat) : Int) := by simp [Int.tmod]
      have hwq : IntKind.i64.wrap ((q / 2 : Nat) : Int) = ((q / 2 : Nat) : Int) := IntWalk.i64_in _ (by omega)
      by_cases hb : q % 2 = 1
      · have HY := Lib.hid (hyes hb)
        have hrem2 : ((q : Int)).tmod 2 = 1 := by rw [hrem, hb]; rfl
        clear hyes hno hL hq hdiv hrem
        go_wp2_with (at_builtin; refine push_int rfl (.tmp 15) (.tmp 17) _ rfl Tryz.underlying25 w.heap.size Ao co (nI L) (k : Int) rfl HO.out rfl rfl (by omega) hwz ?_; intro A5 c5 w5 hown5 _ hb5)
        go_roundw
        case rel => exact ⟨k + 1, A5, c5, by omega, by go_num, by rw [HDV.out]; rfl, by rw [HY.out, nI_snoc, List.length_append]; rfl, by rw [Hid, HY.out, nI_snoc]; exact hown5, HW.out.trans hb5⟩
        case measure => simp [intOf]; omega
      · have HN := Lib.hid (hno hb)
        have hrem2 : ((q : Int)).tmod 2 = 0 := by rw [hrem, show q % 2 = 0 from by omega]; rfl
        clear hyes hno hL hq hdiv hrem
        go_wp2
        go_roundw
        case rel => exact ⟨k + 1, Ao, co, by omega, by go_num, by rw [HDV.out]; rfl, by rw [HN.out], by rw [Hid, HN.out]; exact HO.out, HW.out⟩
        case measure => simp [intOf]; omega
    · obtain rfl : k = n := by omega
      go_wp2
      go_ret
      exact ⟨Ao, co, by simp [nI_length], HO.out, HW.out⟩
end Go.Proofs.YtplgbapbgcipdaaGreatDoor

/-! Plain laws of cycles, cutsets and swaps in a spanning tree, as the program returns them. -/
namespace Go.Proofs.YtplgbapbgcipdaaGreatDoor
open Go.RowKit

theorem mem_nI9 {v : Nat} {S : List Nat} : (v : Int) ∈ nI S ↔ v ∈ S := by
  unfold nI
  rw [List.mem_map]
  constructor
  · rintro ⟨u, hu, e⟩; have : u = v := by omega
    exact this ▸ hu
  · intro h; exact ⟨v, h, rfl⟩
theorem edgFrom_ok {m : Nat} : ∀ {t : List Nat} {p : Option Int}, t.Pairwise (· < ·) → (∀ e ∈ t, e < m) → (∀ y, p = some y → ∀ e ∈ t, y < (e : Int)) → edgFrom m p (nI t) = 0
  | [], _, _, _, _ => rfl
  | e :: t, p, h1, h2, h3 => by
    have he := h2 e (by simp)
    show (if (e : Int) < 0 ∨ (m : Int) ≤ (e : Int) then 2 else if leP p (e : Int) = true then 9 else edgFrom m (some (e : Int)) (nI t)) = 0
    rw [if_neg (by omega), if_neg]
    · rw [List.pairwise_cons] at h1
      refine edgFrom_ok h1.2 (fun x hx => h2 x (by simp [hx])) ?_
      rintro y hy x hx
      injection hy with hy
      have := h1.1 x hx
      omega
    · unfold leP
      cases p with
      | none => simp
      | some y =>
        have := h3 y rfl e (by simp)
        simp; omega
theorem edg_ok {m : Nat} {t : List Nat} (h : SetN m t) : edgErr m (nI t) = 0 := edgFrom_ok h.1 h.2 (fun y hy => by cases hy)
theorem tree_ok {m : Nat} {es : List E3} {t : List Nat} (hj : joinErr m es = 0) (h : IsTr m (endsL es) t) : treeErr m es (nI t) = 0 := by
  have hl := h.len
  have e2 : (nI t).map Int.toNat = t := toN_nI t
  unfold treeErr
  rw [if_neg (fun hc => hc hj), if_neg (fun hc => hc (edg_ok h.set)), if_neg (by rw [nI_length]; omega), e2, if_pos (foB_iff.2 h.fo)]
end Go.Proofs.YtplgbapbgcipdaaGreatDoor

/-! Package tree: All for all graphs; Count. -/
namespace Go.Proofs.YtplgbapbgcipdaaGreatDoor
open Go.RowKit

theorem tall_any (n : Int) (A : Option Addr) (c : Nat) (es : List E3) (hn : es.length ≤ 10000) (hl : (tallE n es).1.length ≤ 16384) (w : World) (h : Reads w w.heap.size 3 A es.length (edgeCells es)) :
    Calls Tryz.prog 29 #[.agg #[.int .i64 n, .slice A es.length c]] w fun e w' => ∃ Ar cr vs, e = .returned (.tuple #[.slice Ar (tallE n es).1.length cr, .int .i64 (tallE n es).2]) ∧ OwnRows w' w.heap.size Ar cr vs (tallE n es).1 ∧ Below w.heap.size w w' := by
  by_cases hj : joinErr n es = 0
  · obtain ⟨_, hG, _⟩ := join_zero hj
    obtain ⟨m, rfl⟩ := Int.eq_ofNat_of_zero_le (show 0 ≤ n by have := hG.lo; omega)
    have hE : tallE m es = ((treesT m (endsL es)).map nI, 0) := by unfold tallE; rw [if_neg (fun hc => hc hj), Int.toNat_natCast]
    rw [hE] at hl ⊢
    dsimp only at hl ⊢
    rw [List.length_map] at hl ⊢
    exact tall_ok m A c es hn hj _ rfl hl w h
  · exact tall_err n A c es hn w h hj

end Go.Proofs.YtplgbapbgcipdaaGreatDoor

/-! ref13.Closed, Cycle. -/
namespace Go.Proofs.YtplgbapbgcipdaaGreatDoor
open Go.RowKit

set_option maxRecDepth 100000 in
set_option maxHeartbeats 4000000 in
theorem rclosed_any (m : Nat) (A : Option Addr) (c : Nat) (es : List E3) (hn : es.length ≤ 40) (B : Option Addr) (d : Nat) (t : List Nat) (hR : TreeR m es t) (x p q : Nat) (hab : (endsL es)[x]? = some (p, q)) (w : World) (h : Reads w w.heap.size 3 A es.length (edgeCells es)) (h' : Reads w w.heap.size 1 B t.length (ints (nI t))) :
    Calls Tryz.prog 92 #[.agg #[.int .i64 m, .slice A es.length c], .slice B t.length d, .int .i64 x] w fun e w' => ∃ A' c', e = .returned (.slice A' (sortG ltI (nI (pathL (endsL es) t p q) ++ [(x : Int)])).length c') ∧ OwnI w' w.heap.size A' c' (sortG ltI (nI (pathL (endsL es) t p q) ++ [(x : Int)])) ∧ Below w.heap.size w w' := by
  obtain ⟨hp, hq⟩ := bd_ends hR.hG _ (List.mem_of_getElem? hab)
  dsimp only at hp hq
  have EC := Lib.hid (fun (W : World) (hB : Below w.heap.size w W) => rendsC_any m A c es hn m hR.hG.ok W ((h.below hB).more hB.size))
  have PC := Lib.hid (fun (W : World) (hB : Below w.heap.size w W) => rpath_any m A c es hn B d t hR p q hp hq W ((h.below hB).more hB.size) ((h'.below hB).more hB.size))
  have HPL : Hid ((pathL (endsL es) t p q).length ≤ 12) := by have := path_len hR.hT (hR.cn hp hq); have := hR.len; unfold Hid; omega
  have g0 := Blk.new w 24 #[.int .i64 m, .slice A es.length c]
  have hB := (Below.refl w.heap.size w).alloc (Nat.le_refl _) (.cells #[.int .i64 m, .slice A es.length c] 24)
  have k0 := g0.cell 0
  have k1 := g0.cell 1
  obtain ⟨E, hE⟩ : ∃ E, endsL es = E := ⟨_, rfl⟩
  rw [hE] at EC PC HPL hab ⊢
  obtain ⟨P, hP⟩ : ∃ P, pathL E t p q = P := ⟨_, rfl⟩
  rw [hP] at PC HPL ⊢
  have hxl : x < E.length := (List.getElem?_eq_some_iff.1 hab).1
  have hxi : (x : Int) < (E.length : Int) := by omega
  have hx0 : (0 : Int) ≤ (x : Int) := by omega
  have HAB := Lib.hid hab
  clear hE hR hP hab
  go_enter Tryz.func92, Tryz.ntmps92
  go_wp2_with fail
  refine (EC.out _ hB).mono ?_
  rintro e w1 ⟨AE, cE, rfl, oE, hbE⟩
  have g1 := g0.next hbE
  have hB := hB.trans (hbE.mono hB.size)
  have k0 := g1.cell 0
  have k1 := g1.cell 1
  have RE := OwnQ.reads oE
  obtain ⟨bE, oE', hAE, hbE', q0, q1⟩ := RE.pairAt HAB.out
  subst hAE
  clear oE hbE RE
  have g2 := g1.alloc (.cells #[.int .i64 p, .int .i64 q] 67)
  have gp := Blk.new w1 67 #[.int .i64 p, .int .i64 q]
  have hB := hB.alloc hB.size (.cells #[.int .i64 p, .int .i64 q] 67)
  have k0 := g2.cell 0
  have k1 := g2.cell 1
  have p0 := gp.cell 0
  have p1 := gp.cell 1
  have hPl := HPL.out
  have hRl : (nI P).length = P.length := nI_length P
  have SC : Hid (∀ (A' : Option Addr) (c' : Nat) (W : World), Reads W W.heap.size 1 A' (P.length + 1) (ints (nI P ++ [(x : Int)])) → Calls Tryz.prog 129 #[.slice A' (P.length + 1) c'] W fun e w' => ∃ A2 c2, e = .returned (.slice A2 (P.length + 1) c2) ∧ OwnI w' W.heap.size A2 c2 (sortG ltI (nI P ++ [(x : Int)])) ∧ Below W.heap.size W w') := by
    intro A' c' W hO
    have h1 : (nI P ++ [(x : Int)]).length = P.length + 1 := by simp [nI_length]
    have := rsorted_any A' c' (nI P ++ [(x : Int)]) (by omega) W (by rw [h1]; exact hO)
    rw [h1] at this
    exact this
  have hSl : Hid ((sortG ltI (nI P ++ [(x : Int)])).length = P.length + 1) := by
    unfold Hid
    rw [(sortG_perm _).length_eq]; simp [nI_length]
  have HRl := Lib.hid hRl
  clear hRl hPl
  go_wp2_with fail
  have hzB := hB.size
  refine (PC.out _ hB).mono ?_
  rintro e w3 ⟨A3, c3, rfl, o3, hb3⟩
  have hB := Lib.hid (hB.trans (hb3.mono hB.size))
  have hz3 := hB.out.size
  have o3 := own_len (o3.mono hzB) HRl.out
  have hPl : P.length ≤ 12 := HPL.out
  clear hb3 hzB
  go_wp2_with (first | (at_builtin; refine append_go rfl (.tmp 19) (.tmp 21) _ rfl w.heap.size 3 Tryz.underlying25 info_int rfl (by omega) A3 c3 P.length (ints (nI P)) rfl (World.ownsRow.alloc o3 _) (w3.heap.size + 1) [.int .i64 (x : Int)] rfl (Reads.box1 w3 _ _) (by simp [Value.oneCell']) (by omega) (by simp; omega) ?_; intro A5 c5 w5 hown5 _ hb5 _) | fail)
  have hB5 := (hB.out.alloc hz3 (.cells #[.int .i64 (x : Int)] 3)).trans hb5
  have r5 : Reads w5 w5.heap.size 1 A5 (P.length + 1) (ints (nI P ++ [(x : Int)])) := by rw [ints_snoc]; exact Reads.of_own hown5
  refine (SC.out _ _ _ r5).mono ?_
  rintro e w6 ⟨A6, c6, rfl, o6, hb6⟩
  have HB6 := Lib.hid (hB5.trans (hb6.mono hB5.size))
  have O6 := Lib.hid (o6.mono hB5.size)
  clear hB5 hb5 hb6 o6 r5 hown5
  go_wp2
  go_ret
  exact ⟨A6, c6, by rw [hSl.out]; rfl, O6.out, HB6.out⟩

end Go.Proofs.YtplgbapbgcipdaaGreatDoor

