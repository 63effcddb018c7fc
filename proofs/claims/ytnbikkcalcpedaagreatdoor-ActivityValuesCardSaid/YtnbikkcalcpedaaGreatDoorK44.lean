/-
  Texts of this claim, put together: ActivityValuesW.
-/
import Derived.Test.YtnbikkcalcpedaaGreatDoorK35
import Derived.Test.YtnbikkcalcpedaaGreatDoorK32
import Derived.Test.YtnbikkcalcpedaaGreatDoorK42
import Derived.Test.YtnbikkcalcpedaaGreatDoorK43
import Derived.Test.YtnbikkcalcpedaaGreatDoorK30
import Derived.Test.YtnbikkcalcpedaaGreatDoorK29
import Derived.Test.YtnbikkcalcpedaaGreatDoorK24
import Derived.Test.YtnbikkcalcpedaaGreatDoorK31
/-! ActivityValues: for every graph and every list of ints, the value of the polynomial at 1, 1 is the number of spanning trees, that at 2, 2 the number of sets; loops are externally active, bridges internally.   Conditions: none but the tables that the card lists and ties. -/
namespace Go.Proofs.YtnbikkcalcpedaaGreatDoor
open Go.RowKit
theorem sumP_key : ∀ (l : List (Nat × Nat)) (p : List Tm), (∀ a ∈ l.foldl (fun p k => plusP p [(k, 1)]) p, a.1 ∈ l ∨ ∃ b ∈ p, b.1 = a.1)
  | [], _ => fun a ha => .inr ⟨a, ha, rfl⟩
  | k :: l, p => fun a ha => by
    rcases sumP_key l (plusP p [(k, 1)]) a ha with h | ⟨b, hb, h⟩
    · exact .inl (List.mem_cons_of_mem _ h)
    · rcases plusP_keys p [(k, 1)] b hb with ⟨d, hd, h2⟩ | ⟨d, hd, h2⟩
      · exact .inr ⟨d, hd, h2.trans h⟩
      · rw [List.mem_singleton.1 hd] at h2
        exact .inl (by rw [← h, ← h2]; exact List.mem_cons_self)
theorem terms_ok {ks : List (Nat × Nat)} (hl : ks.length < 1000000) (hk : ∀ k ∈ ks, k.1 ≤ 256 ∧ k.2 ≤ 256) : TermsOk (sumP ks) := by
  refine ⟨sumP_canon ks, fun a ha => ?_⟩
  obtain ⟨h1, h2⟩ := sumP_posP ks hl a ha
  rcases sumP_key ks [] a ha with h | ⟨b, hb, _⟩
  · exact ⟨h1, by omega, hk _ h⟩
  · cases hb
theorem intS_lit : intS (1 : Nat) = ⟨#[49]⟩ ∧ intS (2 : Nat) = ⟨#[50]⟩ := by
  rw [← numS_int, ← numS_int]
  unfold numS
  rw [Lib.decDigits_one (by omega), Lib.decDigits_one (by omega)]
  exact ⟨rfl, rfl⟩
set_option maxRecDepth 100000 in
set_option maxHeartbeats 8000000 in
theorem activityValues_walk (w : World) (n : Int) (A : Option Addr) (c : Nat) (es : List E3) (_hm : es.length ≤ maxLen) (_hw : (Lit.int .i64 n).wf = true) (h : Reads w w.heap.size 3 A es.length (edgeCells es)) (B : Option Addr) (d : Nat) (xs : List Int) (hxm : xs.length ≤ maxLen) (_hxw : ∀ x ∈ xs, (Lit.int .i64 x).wf = true) (h' : Reads w w.heap.size 1 B xs.length (ints xs)) (ht : Tab10 w) :
    Calls Tryz.prog 4 #[.agg #[.int .i64 n, .slice A es.length c], .slice B xs.length d] w fun e w' => e = .returned (.bool true) ∧ Below w.heap.size w w' := by
  have RC := Lib.hid (fun (W : World) (hB : Below w.heap.size w W) => right31_any n A c es W ((h.below hB).more hB.size))
  have AC := Lib.hid awake31_any
  have g := Blk.new w 24 #[.int .i64 n, .slice A es.length c]
  have hB : Below w.heap.size w (w.alloc (.cells #[.int .i64 n, .slice A es.length c] 24)) := (Below.refl _ _).alloc (Nat.le_refl _) _
  have k0 := g.cell 0
  have k1 := g.cell 1
  obtain ⟨N, hN⟩ : ∃ N, xs.length = N := ⟨_, rfl⟩
  obtain ⟨M, hM⟩ : ∃ M, es.length = M := ⟨_, rfl⟩
  by_cases hr : (smallB n es 5 8 && decide (joinErr n es = 0)) = true
  · rw [hr] at RC
    rw [Bool.and_eq_true, decide_eq_true_eq] at hr
    obtain ⟨hf, hj⟩ := hr
    obtain ⟨h40, _, hsm⟩ := few13_parts (n := n) (es := es) (m := 0) (by unfold few13; rw [hf]; rfl)
    obtain ⟨hck, hG, hpt⟩ := join_zero hj
    have h5 : n ≤ 5 := (hsm hck).1
    have h8 : (endsL es).length ≤ 8 := by rw [← size_ends]; exact (hsm hck).2
    have hlo := hG.lo
    obtain ⟨m, rfl⟩ := Int.eq_ofNat_of_zero_le (show 0 ≤ n by omega)
    have hNm : N ≤ maxLen := by omega
    unfold maxLen at hNm
    have hbd := bd_ends hG
    have h70 := few_trees hbd (by omega) (by omega) h8
    have hp0 : (polyE m es).2 = 0 := by unfold polyE; rw [if_neg (fun hc => hc hj)]
    have hP : (polyE m es).1 = sumP (wtL m (endsL es)) := by unfold polyE; rw [if_neg (fun hc => hc hj), Int.toNat_natCast]
    have hwl : (wtL m (endsL es)).length = (treesT m (endsL es)).length := by unfold wtL; rw [List.length_map]
    have htok : TermsOk (sumP (wtL m (endsL es))) := terms_ok (by omega) (by
      intro k hk
      unfold wtL at hk
      obtain ⟨t, ht, rfl⟩ := List.mem_map.1 hk
      have hT := ((treesT_spec hbd (by omega)).1 t).1 ht
      have h1 := insA_len (E := endsL es) (t := t)
      have h2 := outA_len (E := endsL es) (t := t)
      have h3 := hT.len
      exact ⟨by show (insA (endsL es) t).length ≤ 256; omega, by show (outA (endsL es) t).length ≤ 256; omega⟩)
    have hnn : ∀ a ∈ sumP (wtL m (endsL es)), 0 ≤ a.2 := fun a ha => by have := (htok.coef a ha).1; omega
    have hv1 := val_one (wtL m (endsL es)) hnn
    have hv2 := val_two hbd (by omega) (tree_ex hbd (by rw [Int.toNat_natCast, connB_parts hG] at hpt; exact of_decide_eq_true hpt)) (wtL m (endsL es)) rfl hnn
    have hpl := sumP_len (wtL m (endsL es))
    rw [hwl] at hv1 hpl
    have hTE : (tallE m es) = ((treesT m (endsL es)).map nI, 0) := by unfold tallE; rw [if_neg (fun hc => hc hj), Int.toNat_natCast]
    have PC := Lib.hid (fun (W : World) (hB : Below w.heap.size w W) => polynomial_any m A c es (by omega) (fun _ => ⟨h5, h8⟩) W ((h.below hB).more hB.size))
    have TC := Lib.hid (fun (W : World) (hB : Below w.heap.size w W) => tcount_any m A c es (by omega) (by rw [hTE]; simp; omega) W ((h.below hB).more hB.size))
    have SC := Lib.hid (fun (W : World) (hB : Below w.heap.size w W) => rsize_any m A c es h40 m hG.ok W ((h.below hB).more hB.size))
    rw [size_ends] at SC
    obtain ⟨T, hT⟩ : ∃ T, (treesT m (endsL es)).length = T := ⟨_, rfl⟩
    obtain ⟨P1, hP1⟩ : ∃ P, sumP (wtL m (endsL es)) = P := ⟨_, rfl⟩
    obtain ⟨S, hS⟩ : ∃ S, (endsL es).length = S := ⟨_, rfl⟩
    rw [hp0, hP, hP1] at PC
    rw [hTE] at TC
    dsimp only at TC
    rw [List.length_map, hT] at TC
    rw [hP1] at htok hv1 hv2 hpl
    rw [hT] at hv1 hpl h70
    rw [hS] at hv2 SC h8
    have hS2 : 2 ^ S ≤ 256 := Nat.pow_le_pow_right (n := 2) (by omega) h8
    have EV1 := Lib.hid (fun (A1 : Option Addr) (c1 : Nat) (W : World) (hB : Below w.heap.size w W) (hR : Reads W W.heap.size 3 A1 P1.length (tmCells P1)) => evaluate_any A1 c1 P1 htok (by omega) 1 1 (by omega) (by omega) (by omega) (by omega) (by omega) W hR (ht.below hB))
    have EV2 := Lib.hid (fun (A1 : Option Addr) (c1 : Nat) (W : World) (hB : Below w.heap.size w W) (hR : Reads W W.heap.size 3 A1 P1.length (tmCells P1)) => evaluate_any A1 c1 P1 htok (by omega) 2 2 (by omega) (by omega) (by omega) (by omega) (by omega) W hR (ht.below hB))
    rw [hv1, intS_lit.1] at EV1
    rw [hv2, intS_lit.2] at EV2
    have OT := Lib.hid (fun (W : World) (hB : Below w.heap.size w W) => intOfN_any T (by omega) W (ht.below hB))
    have OS := Lib.hid (fun (W : World) (hB : Below w.heap.size w W) => intOfN_any (2 ^ S) (by omega) W (ht.below hB))
    obtain ⟨s1, hs1⟩ : ∃ s, intS (T : Nat) = s := ⟨_, rfl⟩
    obtain ⟨s2, hs2⟩ : ∃ s, intS (2 ^ S : Nat) = s := ⟨_, rfl⟩
    rw [hs1] at EV1 OT
    rw [hs2] at EV2 OS
    obtain ⟨Q, hQ⟩ : ∃ Q, 2 ^ S = Q := ⟨_, rfl⟩
    rw [hQ] at OS
    have hQi : (2 : Int) ^ S = (Q : Int) := by rw [← hQ]; simp
    have hsh : wrap64 ((2 : Int) ^ min S 64) = (Q : Int) := by rw [Nat.min_eq_left (by omega), hQi]; exact IntWalk.wrap64_in (Q : Int) (by omega)
    clear hQi
    have HOS2 := Lib.hid hsh
    clear hsh
    have RTC := Lib.hid (fun (W : World) (hB : Below w.heap.size w W) => rtcheckL_any m A c es h40 B d xs (by omega) W ((h.below hB).more hB.size) ((h'.below hB).more hB.size))
    have REN := Lib.hid (fun (W : World) (hB : Below w.heap.size w W) => rendsC_any m A c es h40 m hG.ok W ((h.below hB).more hB.size))
    obtain ⟨n1, hn1⟩ : ∃ n1, P1.length = n1 := ⟨_, rfl⟩
    have HN1 := Lib.hid hn1
    have H' := Lib.hid h'
    have HH := Lib.hid h
    have H40 := Lib.hid h40
    have HNM := Lib.hid hNm
    have HS := Lib.hid hS
    have HS8 := Lib.hid h8
    rw [hn1] at PC EV1 EV2
    rw [hN] at RTC ⊢
    rw [hM] at RC PC TC SC RTC REN ⊢
    rw [hM] at g hB k0 k1
    have HNx := Lib.hid hN
    have HMx := Lib.hid hM
    clear h h' hN hM hxm _hm _hw _hxw hf hj hsm hck hG hpt h5 hlo hp0 hP hP1 hn1 hbd h70 hwl htok hnn hv1 hv2 hpl hTE hT hS hs1 hs2 hQ ht h40 hNm h8
    go_enter Tryz.func4, Tryz.ntmps4
    go_wp2_with fail
    refine (RC.out _ (by exact hB)).mono ?_
    rintro e wn ⟨rfl, hb⟩
    have g := g.next hb
    have hB := hB.trans (hb.mono hB.size)
    have k0 := g.cell 0
    have k1 := g.cell 1
    clear hb
    go_wp2_with fail
    refine (PC.out _ hB).mono ?_
    rintro e wn ⟨A1, c1, rfl, o1, hb⟩
    have g := g.next hb
    have hB := hB.trans (hb.mono hB.size)
    have k0 := g.cell 0
    have k1 := g.cell 1
    have r1 := o1.reads
    rw [HN1.out] at r1
    clear o1 hb
    go_wp2_with fail
    refine (TC.out _ hB).mono ?_
    rintro e wn ⟨rfl, hb⟩
    have r1 := r1.next hb
    have g := g.next hb
    have hB := hB.trans (hb.mono hB.size)
    have k0 := g.cell 0
    have k1 := g.cell 1
    clear hb
    go_wp2_with fail
    refine (EV1.out _ _ _ hB r1).mono ?_
    rintro e wn ⟨rfl, hb⟩
    have r1 := r1.next hb
    have g := g.next hb
    have hB := hB.trans (hb.mono hB.size)
    have k0 := g.cell 0
    have k1 := g.cell 1
    clear hb
    go_wp2_with fail
    refine (EV2.out _ _ _ hB r1).mono ?_
    rintro e wn ⟨rfl, hb⟩
    have g := g.next hb
    have hB := hB.trans (hb.mono hB.size)
    have k0 := g.cell 0
    have k1 := g.cell 1
    clear hb
    go_wp2_with fail
    refine (OT.out _ hB).mono ?_
    rintro e wn ⟨rfl, hb⟩
    have g := g.next hb
    have hB := hB.trans (hb.mono hB.size)
    have k0 := g.cell 0
    have k1 := g.cell 1
    clear hb
    go_wp2_with fail
    refine (SC.out _ hB).mono ?_
    rintro e wn ⟨rfl, hb⟩
    have g := g.next hb
    have hB := hB.trans (hb.mono hB.size)
    have k0 := g.cell 0
    have k1 := g.cell 1
    clear hb
    go_wp2_with fail
    rw [HOS2.out]
    refine (OS.out _ hB).mono ?_
    rintro e wn ⟨rfl, hb⟩
    have g := g.next hb
    have hB := hB.trans (hb.mono hB.size)
    have k0 := g.cell 0
    have k1 := g.cell 1
    clear hb
    obtain ⟨z, hz⟩ : ∃ z, treeErr m es xs = z := ⟨_, rfl⟩
    have HZ := Lib.hid hz
    rw [hz] at RTC
    clear hz
    go_wp2_with fail
    refine (RTC.out _ hB).mono ?_
    rintro e wn ⟨rfl, hb⟩
    have g := g.next hb
    have hB := hB.trans (hb.mono hB.size)
    have k0 := g.cell 0
    have k1 := g.cell 1
    clear hb
    by_cases hz0 : z = 0
    · subst hz0
      obtain ⟨m', t, hmm, hxt, hR0⟩ := treeR_of HZ.out
      have hR : TreeR m es t := by
        have hm' : m' = m := by omega
        rw [hm'] at hR0
        exact hR0
      clear hR0
      have ht12 := hR.len
      have hNl : N = t.length := by rw [← HNx.out, hxt, nI_length]
      have h' : Reads w w.heap.size 1 B t.length (ints (nI t)) := by
        have := H'.out
        rw [hxt, nI_length] at this
        exact this
      have e1 : intE m es (nI t) = (nI (insA (endsL es) t), 0) := by unfold intE; rw [if_pos (by rw [← hxt]; exact HZ.out), toN_nI]
      have e2 : extE m es (nI t) = (nI (outA (endsL es) t), 0) := by unfold extE; rw [if_pos (by rw [← hxt]; exact HZ.out), toN_nI]
      have hi1 : (insA (endsL es) t).length ≤ t.length := List.length_filter_le _ _
      have hi2 := outA_len (E := endsL es) (t := t)
      have IC := Lib.hid (fun (W : World) (hB : Below w.heap.size w W) => internal_any m A c es (by have := H40.out; omega) B d (nI t) (by rw [nI_length]; omega) W ((HH.out.below hB).more hB.size) (by rw [nI_length]; exact (h'.below hB).more hB.size))
      have EC := Lib.hid (fun (W : World) (hB : Below w.heap.size w W) => external_any m A c es (by have := H40.out; omega) B d (nI t) (by rw [nI_length]; omega) W ((HH.out.below hB).more hB.size) (by rw [nI_length]; exact (h'.below hB).more hB.size))
      rw [e1] at IC
      rw [e2] at EC
      dsimp only at IC EC
      obtain ⟨L1, hL1⟩ : ∃ L, insA (endsL es) t = L := ⟨_, rfl⟩
      obtain ⟨L2, hL2⟩ : ∃ L, outA (endsL es) t = L := ⟨_, rfl⟩
      rw [hL1] at IC hi1
      rw [hL2] at EC hi2
      have hS := HS.out
      have CO := Lib.hid (fun (A2 : Option Addr) (c2 : Nat) (k : Int) (W : World) (h : Reads W W.heap.size 1 A2 (nI L2).length (ints (nI L2))) => contains_any A2 c2 (nI L2) (by rw [nI_length]; have := HS8.out; omega) k W h)
      have CI := Lib.hid (fun (A2 : Option Addr) (c2 : Nat) (k : Int) (W : World) (h : Reads W W.heap.size 1 A2 (nI L1).length (ints (nI L1))) => contains_any A2 c2 (nI L1) (by rw [nI_length]; omega) k W h)
      have CT := Lib.hid (fun (k : Int) (W : World) (hB : Below w.heap.size w W) => contains_any B d (nI t) (by rw [nI_length]; omega) k W (by rw [nI_length]; exact (h'.below hB).more hB.size))
      have SP : Hid (∀ (k a b : Nat), k ∈ t → (endsL es)[k]? = some (a, b) → ∀ (W : World), Below w.heap.size w W → Calls Tryz.prog 26 #[.agg #[.int .i64 m, .slice A M c], .slice B N d, .int .i64 k] W fun e w' => ∃ A' c', e = .returned (.slice A' (cutL (endsL es) t k).length c') ∧ Below W.heap.size W w') := by
        intro k a b hk hab W hB
        have := rsep_any m A c es H40.out B d t hR k a b hk hab W ((HH.out.below hB).more hB.size) ((h'.below hB).more hB.size)
        rw [HMx.out, ← hNl] at this
        exact this.mono fun e w' ⟨A', c', h1, _, h2⟩ => ⟨A', c', h1, h2⟩
      have PL : Hid (∀ (k a : Nat), (endsL es)[k]? = some (a, a) → (k : Int) ∈ nI L2) := by
        intro k a hk
        rw [← hL2]
        have hkl := (List.getElem?_eq_some_iff.1 hk).1
        have hgd : (endsL es).getD k (0, 0) = (a, a) := by rw [List.getD_eq_getElem?_getD, hk]; rfl
        refine List.mem_map.2 ⟨k, loop_out hkl hgd (fun hkt => ?_), rfl⟩
        have := hR.hT.bridge hkt
        rw [hgd] at this
        exact this .refl
      have PB : Hid (∀ (k a b : Nat), k ∈ t → (endsL es)[k]? = some (a, b) → (cutL (endsL es) t k).length = 1 → (k : Int) ∈ nI L1) := by
        intro k a b hkt hk h1
        rw [← hL1]
        refine List.mem_map.2 ⟨k, bridge_in hkt (fun i hi hs => ?_), rfl⟩
        have hkl := (List.getElem?_eq_some_iff.1 hk).1
        have m1 : k ∈ cutL (endsL es) t k := mem_cutL.2 ⟨hkl, sep_self hR.hT hkt⟩
        have m2 : i ∈ cutL (endsL es) t k := mem_cutL.2 ⟨hi, hs⟩
        obtain ⟨y, hy⟩ := List.length_eq_one_iff.1 h1
        rw [hy, List.mem_singleton] at m1 m2
        rw [m1, m2]
      have HKT : Hid (∀ k : Nat, decide ((k : Int) ∈ nI t) = decide (k ∈ t)) := fun k => by
        congr 1
        exact propext ⟨fun h => by obtain ⟨y, hy, e⟩ := List.mem_map.1 h; exact (Int.ofNat.inj e) ▸ hy, fun h => List.mem_map.2 ⟨k, h, rfl⟩⟩
      simp only [nI_length] at IC EC CI CO CT
      rw [← hNl] at CT IC EC
      obtain ⟨l1, hl1⟩ : ∃ l, L1.length = l := ⟨_, rfl⟩
      obtain ⟨l2, hl2⟩ : ∃ l, L2.length = l := ⟨_, rfl⟩
      rw [hl1] at IC CI
      rw [hl2] at EC CO
      rw [HMx.out] at IC EC
      have HL1 := Lib.hid hl1
      have HL2 := Lib.hid hl2
      have HNL := Lib.hid hNl
      obtain ⟨E, hE⟩ : ∃ E, endsL es = E := ⟨_, rfl⟩
      rw [hE] at SP PL PB REN HS
      have HS := HS
      rw [HS.out] at REN
      clear h' e1 e2 hi1 hi2 hL1 hL2 hS hl1 hl2 hNl hE hmm hxt ht12
      go_wp2_with fail
      refine (IC.out _ hB).mono ?_
      rintro e wn ⟨A4, c4, rfl, o4, hb⟩
      have g := g.next hb
      have hB := hB.trans (hb.mono hB.size)
      have k0 := g.cell 0
      have k1 := g.cell 1
      have r4 := o4.reads
      rw [nI_length, HL1.out] at r4
      clear hb o4
      go_wp2_with fail
      refine (EC.out _ hB).mono ?_
      rintro e wn ⟨A5, c5, rfl, o5, hb⟩
      have g := g.next hb
      have hB := hB.trans (hb.mono hB.size)
      have k0 := g.cell 0
      have k1 := g.cell 1
      have r4 := r4.next hb
      have r5 := o5.reads
      rw [nI_length, HL2.out] at r5
      clear hb o5
      go_wp2_with fail
      refine (REN.out _ hB).mono ?_
      rintro e wn ⟨A6, c6, rfl, o6, hb⟩
      have g := Lib.hid (g.next hb)
      have hB := Lib.hid (hB.trans (hb.mono hB.size))
      have r4 := Lib.hid (r4.next hb)
      have r5 := Lib.hid (r5.next hb)
      have r6 : Hid (Reads wn wn.heap.size 2 A6 S (pair2 E)) := by have := OwnQ.reads o6; rw [HS.out] at this; exact this
      clear hb o6 k0 k1
      go_wp2_with fail
      go_loopw [89] (fun i wr => ∃ k : Nat, k ≤ S ∧ i = .int .i64 k ∧ Hid (Below wn.heap.size wn wr)) (fun i _ => S - (RowKit.intOf i).toNat)
      case atStart => exact ⟨0, by omega, rfl, Below.refl _ _⟩
      case round =>
        obtain ⟨k, hk, rfl, hX⟩ := hrel
        by_cases hlt : k < S
        · obtain ⟨⟨a, b⟩, hab⟩ := get_of_lt (xs := E) (k := k) (by rw [HS.out]; exact hlt)
          have HAB := Lib.hid hab
          have hi : (k : Int) < (S : Int) := by omega
          have hS8 : S ≤ 8 := HS8.out
          obtain ⟨bA, oA, hA, hbA, q0, q1⟩ := (r6.out.below hX.out).pairAt hab
          subst hA
          dsimp only at q0 q1
          have hX2 := hX.out.alloc hX.out.size (.cells #[.int .i64 a, .int .i64 b] 50)
          have hB2 := hB.out.trans (hX2.mono hB.out.size)
          have gg := g.out.next hX2
          have gb := Blk.new wr 50 #[.int .i64 a, .int .i64 b]
          have b0 := gb.cell 0
          have b1 := gb.cell 1
          have k0 := gg.cell 0
          have k1 := gg.cell 1
          have r5' := r5.out.next hX2
          clear hab
          by_cases heq : a = b
          · subst heq
            have CK := Lib.hid (CO.out A5 c5 (k : Int) _ r5')
            rw [decide_eq_true (PL.out k a HAB.out)] at CK
            clear r5'
            go_wp2_with fail
            refine (CK.out).mono ?_
            rintro e wx ⟨rfl, rfl⟩
            go_wp2_with fail
            refine (CT.out (k : Int) _ hB2).mono ?_
            rintro e wz ⟨rfl, rfl⟩
            rw [HKT.out]
            by_cases hkt : k ∈ t
            · rw [decide_eq_true hkt]
              have SK := Lib.hid (SP.out k a a hkt HAB.out)
              have PK := Lib.hid (PB.out k a a hkt HAB.out)
              obtain ⟨q, hq⟩ : ∃ q, (cutL E t k).length = q := ⟨_, rfl⟩
              rw [hq] at SK PK
              clear hq
              go_wp2_with fail
              refine (SK.out _ hB2).mono ?_
              rintro e wy ⟨A7, c7, rfl, hb7⟩
              have hX3 := hX2.trans (hb7.mono hX2.size)
              by_cases hq1 : q = 1
              · subst hq1
                have r4' := r4.out.next hX3
                have CK := Lib.hid (CI.out A4 c4 (k : Int) wy r4')
                rw [decide_eq_true (PK.out rfl)] at CK
                have HX := Lib.hid hX3
                clear r4' hX3 hX2 hB2 hb7
                go_wp2_with fail
                refine (CK.out).mono ?_
                rintro e wx ⟨rfl, rfl⟩
                go_wp2
                go_roundw
                case rel => exact ⟨k + 1, by omega, by go_num, HX.out⟩
                case measure => simp [RowKit.intOf]; omega
              · have hqb : ((q : Int) == 1) = false := by simp; omega
                have HX := Lib.hid hX3
                clear hX3 hX2 hB2 hb7
                go_wp2
                go_roundw
                case rel => exact ⟨k + 1, by omega, by go_num, HX.out⟩
                case measure => simp [RowKit.intOf]; omega
            · rw [decide_eq_false hkt]
              have HX := Lib.hid hX2
              clear hX2 hB2
              go_wp2
              go_roundw
              case rel => exact ⟨k + 1, by omega, by go_num, HX.out⟩
              case measure => simp [RowKit.intOf]; omega
          · have hne : ((a : Int) == (b : Int)) = false := by simp; omega
            clear r5'
            go_wp2_with fail
            refine (CT.out (k : Int) _ hB2).mono ?_
            rintro e wz ⟨rfl, rfl⟩
            rw [HKT.out]
            by_cases hkt : k ∈ t
            · rw [decide_eq_true hkt]
              have SK := Lib.hid (SP.out k a b hkt HAB.out)
              have PK := Lib.hid (PB.out k a b hkt HAB.out)
              obtain ⟨q, hq⟩ : ∃ q, (cutL E t k).length = q := ⟨_, rfl⟩
              rw [hq] at SK PK
              clear hq
              go_wp2_with fail
              refine (SK.out _ hB2).mono ?_
              rintro e wy ⟨A7, c7, rfl, hb7⟩
              have hX3 := hX2.trans (hb7.mono hX2.size)
              by_cases hq1 : q = 1
              · subst hq1
                have r4' := r4.out.next hX3
                have CK := Lib.hid (CI.out A4 c4 (k : Int) wy r4')
                rw [decide_eq_true (PK.out rfl)] at CK
                have HX := Lib.hid hX3
                clear r4' hX3 hX2 hB2 hb7
                go_wp2_with fail
                refine (CK.out).mono ?_
                rintro e wx ⟨rfl, rfl⟩
                go_wp2
                go_roundw
                case rel => exact ⟨k + 1, by omega, by go_num, HX.out⟩
                case measure => simp [RowKit.intOf]; omega
              · have hqb : ((q : Int) == 1) = false := by simp; omega
                have HX := Lib.hid hX3
                clear hX3 hX2 hB2 hb7
                go_wp2
                go_roundw
                case rel => exact ⟨k + 1, by omega, by go_num, HX.out⟩
                case measure => simp [RowKit.intOf]; omega
            · rw [decide_eq_false hkt]
              have HX := Lib.hid hX2
              clear hX2 hB2
              go_wp2
              go_roundw
              case rel => exact ⟨k + 1, by omega, by go_num, HX.out⟩
              case measure => simp [RowKit.intOf]; omega
        · obtain rfl : k = S := by omega
          have hB := hB.out.trans (hX.out.mono hB.out.size)
          clear hlt
          go_wp2_with fail
          refine (AC.out _).mono ?_
          rintro e wm ⟨rfl, hb⟩
          have hB := hB.trans (hb.mono hB.size)
          go_wp2
          go_ret
          exact ⟨rfl, hB⟩
    · have hzb : (z != 0) = true := by simpa using hz0
      clear hz0 k0 k1
      go_wp2_with fail
      refine (AC.out _).mono ?_
      rintro e wm ⟨rfl, hb⟩
      have hB := hB.trans (hb.mono hB.size)
      go_wp2
      go_ret
      exact ⟨rfl, hB⟩
  · have hr : (smallB n es 5 8 && decide (joinErr n es = 0)) = false := by simpa using hr
    rw [hr] at RC
    rw [hN]
    rw [hM] at RC ⊢
    rw [hM] at g hB k0 k1
    clear h h' hN hM hxm _hm _hw _hxw hr ht
    go_enter Tryz.func4, Tryz.ntmps4
    go_wp2_with fail
    refine (RC.out _ (by exact hB)).mono ?_
    rintro e wn ⟨rfl, hb⟩
    have hB := hB.trans (hb.mono hB.size)
    clear hb
    go_wp2_with fail
    refine (AC.out _).mono ?_
    rintro e wm ⟨rfl, hb⟩
    have hB := hB.trans (hb.mono hB.size)
    go_wp2
    go_ret
    exact ⟨rfl, hB⟩
namespace lawActivityValues
open Go.ChangeShapes Go.WideShapes Go.ChangeAt Go.RowKit
set_option linter.unusedVariables false
set_option maxRecDepth 100000 in
/-- What the walk gives, for every argument and every world. -/
theorem contract (H : Type) (enc : TypeId × Value → H) (W : World) (base : Nat) (args : Array Value) (ds gs : List (DataW H)) (before : List MemPlace)
    (hval0 : ∀ (j : Nat) t v, Tryz.f4.params[j]? = some t → args[j]? = some v → Value.okWide Tryz.prog W .any base t v)
    (hW : DataW.Whole enc Tryz.prog Tryz.f4.params.toList Rows.activityValuesSpec.vars false W args.toList ds gs before) (hL : laidMetH Tryz.prog Rows.activityValuesRow.laid W) :
    Calls Tryz.prog 4 args W fun e W' => ∃ v, e = .returned v ∧ Rows.activityValuesSpec.post enc Tryz.prog Tryz.f4 false true false false W args v W' := by
  have hL2 : laidMet Tryz.prog [("internal/strconv.uint64pow10", Lib.tabData .u64 Lib.pow10Tab)] W := by
    have h := laidMet.filter (fun x => x.1 == "internal/strconv.uint64pow10") (laidMetH_iff.1 hL).1
    rw [show ((Rows.activityValuesRow.laid.filter fun x => x.2.handleName?.isNone).filter fun x => x.1 == "internal/strconv.uint64pow10") = [("internal/strconv.uint64pow10", Lib.tabData .u64 Lib.pow10Tab)] by kernel_rfl] at h
    exact h
  have htab : Lib.TabIs Tryz.prog W "internal/strconv.uint64pow10" .u64 Lib.pow10Tab := Lib.tabIs_of_head (g := 0) (by kernel_rfl) (by kernel_rfl) Tryz.underlying331 Tryz.underlying211 (by kernel_rfl) (by kernel_rfl) hL2
  have hval : ∀ (j : Nat) t v, Tryz.f4.params[j]? = some t → args[j]? = some v → Value.okWide Tryz.prog W .any base t v := hval0
  have hW' := hW
  obtain ⟨p, q, hA0, hV, rfl, hfz, hnd⟩ := hW
  have hA : DataW.TrodAll enc Tryz.prog W 0 (fun _ => true) true Tryz.f4.params.toList args.toList ds p := hA0
  rw [Tryz.params4] at hA hval
  obtain ⟨v0, vs0, d0, ds0, p0, q0, hargs, rfl, rfl, h0, r0⟩ := trodAll_cons hA
  obtain ⟨v1, vs1, d1, ds1, p1, q1, rfl, rfl, rfl, h1, r1⟩ := trodAll_cons r0
  obtain ⟨rfl, rfl, rfl⟩ := trodAll_nil r1
  obtain rfl : args = #[v0, v1] := by cases args; simp_all
  obtain ⟨rfl, rfl⟩ := trodVars_none hV
  obtain ⟨cs0, rfl, _⟩ := okWide_struct Tryz.underlying24 (hval 0 24 v0 rfl rfl)
  have k0 := h0
  have lt0 : ∀ x ∈ p0, x.block < W.heap.size := by obtain ⟨m, hm⟩ := k0; exact DataW.trod_lt m _ _ _ hm
  obtain ⟨_, hf0⟩ := h0
  obtain ⟨n0, a0, cap0, xs0, hcs0, hm0, hr0, hw0⟩ := open_graph hf0
  obtain rfl : cs0 = #[.int .i64 n0, .slice a0 xs0.length cap0] := Array.toList_inj.1 hcs0
  obtain ⟨a1, len1, cap1, rfl⟩ := okWide_slice Tryz.underlying25 (hval 1 25 v1 rfl rfl)
  have k1 := h1
  have lt1 : ∀ x ∈ p1, x.block < W.heap.size := by obtain ⟨m, hm⟩ := k1; exact DataW.trod_lt m _ _ _ hm
  obtain ⟨z1, w1⟩ : ∃ zs, IsRow .i64 W a1 len1 cap1 zs := by
    obtain ⟨fuel, hf⟩ := h1
    rcases open_ints Tryz.underlying25 Tryz.underlying3 (by kernel_rfl) hf with ⟨hcs, _⟩ | ⟨x, l, c, zs, hcs, _, hl, hm, hz, _, hcell, hwz⟩
    · simp [Value.cells] at hcs
      obtain ⟨rfl, rfl, rfl⟩ := hcs
      exact ⟨[], .inl ⟨rfl, rfl, rfl, rfl⟩⟩
    · simp [Value.cells] at hcs
      obtain ⟨rfl, rfl, rfl⟩ := hcs
      exact ⟨zs, .inr ⟨_, rfl, hl, hm, by simpa using hz, hcell, hwz⟩⟩
  obtain ⟨xs1, rfl, hm1, hr1, hw1⟩ := w1.reads
  clear hA0 hval0
  refine (activityValues_walk W n0 a0 cap0 xs0 hm0 hw0 hr0 a1 cap1 xs1 hm1 hw1 hr1 htab).mono fun e W' ⟨he, bel⟩ => ?_
  subst he
  exact ⟨_, rfl, _, _, _, [], _, [], hW', trodAll_mk1 (shut_bool Tryz.underlying4 _), (trodAll_cons_mk (Below.trod laidOut (by kernel_rfl) (of_decide_eq_true (by kernel_rfl)) k0 bel lt0) (trodAll_cons_mk (Below.trod laidOut (by kernel_rfl) (of_decide_eq_true (by kernel_rfl)) k1 bel lt1) trodAll_mk0)), rfl, bel.frame _, fun h => by cases h⟩
end lawActivityValues
end Go.Proofs.YtnbikkcalcpedaaGreatDoor

