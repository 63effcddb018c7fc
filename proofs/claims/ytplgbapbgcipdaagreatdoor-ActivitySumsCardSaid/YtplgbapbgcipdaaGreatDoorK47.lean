/-
  Texts of this claim, put together: RWhole31.
-/
import Derived.Test.YtplgbapbgcipdaaGreatDoorK46
import Derived.Test.YtplgbapbgcipdaaGreatDoorK43
import Derived.Test.YtplgbapbgcipdaaGreatDoorK35
import Derived.Test.YtplgbapbgcipdaaGreatDoorK30
import Derived.Test.YtplgbapbgcipdaaGreatDoorK28
/-! The reference's Whole and Polynomial of chapter 31. -/
namespace Go.Proofs.YtplgbapbgcipdaaGreatDoor
open Go.RowKit

theorem plusP_posB : ∀ (p q : List Tm), (∀ a ∈ p, 0 < a.2) → (∀ a ∈ q, 0 < a.2) → ∀ a ∈ plusP p q, 0 < a.2
  | [], q, _, hq => by rw [plusP]; exact hq
  | a :: p, [], hp, _ => by rw [plusP]; exact hp
  | a :: p, b :: q, hp, hq => by
    have hp' : ∀ x ∈ p, 0 < x.2 := fun x hx => hp x (List.mem_cons_of_mem _ hx)
    have hq' : ∀ x ∈ q, 0 < x.2 := fun x hx => hq x (List.mem_cons_of_mem _ hx)
    have ha := hp a List.mem_cons_self
    have hb := hq b List.mem_cons_self
    intro x hx
    rw [plusP] at hx
    split at hx
    · rcases List.mem_cons.1 hx with rfl | hx
      · exact ha
      · exact plusP_posB p (b :: q) hp' hq x hx
    · split at hx
      · rcases List.mem_cons.1 hx with rfl | hx
        · exact hb
        · exact plusP_posB (a :: p) q hp hq' x hx
      · split at hx
        · exact plusP_posB p q hp' hq' x hx
        · rcases List.mem_cons.1 hx with rfl | hx
          · show 0 < a.2 + b.2; omega
          · exact plusP_posB p q hp' hq' x hx
termination_by p q => p.length + q.length
theorem plusP_len : ∀ (p q : List Tm), (plusP p q).length ≤ p.length + q.length
  | [], q => by rw [plusP]; simp
  | a :: p, [] => by rw [plusP]; simp
  | a :: p, b :: q => by
    rw [plusP]
    split
    · have := plusP_len p (b :: q); simp at this ⊢; omega
    · split
      · have := plusP_len (a :: p) q; simp at this ⊢; omega
      · split
        · have := plusP_len p q; simp; omega
        · have := plusP_len p q; simp; omega
termination_by p q => p.length + q.length
theorem cfP_memB {p : List Tm} {a : Tm} (hp : ∀ a ∈ p, 0 < a.2) (ha : a ∈ p) : a.2 ≤ cfP p a.1 := by
  induction p with
  | nil => cases ha
  | cons b p ih =>
    have hp' : ∀ x ∈ p, 0 < x.2 := fun x hx => hp x (List.mem_cons_of_mem _ hx)
    have hn : ∀ (l : List Tm), (∀ x ∈ l, 0 < x.2) → 0 ≤ cfP l a.1 := by
      intro l
      induction l with
      | nil => intro _; rw [cfP_nil]; omega
      | cons c l ih =>
        intro h
        have h1 := ih fun x hx => h x (List.mem_cons_of_mem _ hx)
        have h2 := h c List.mem_cons_self
        rw [cfP_cons]
        split <;> omega
    rw [cfP_cons]
    rcases List.mem_cons.1 ha with rfl | ha
    · rw [if_pos rfl]; have := hn p hp'; omega
    · have h1 := ih hp' ha
      have h2 := hp b List.mem_cons_self
      split <;> omega
theorem sumP_posP (F : List (Nat × Nat)) (hF : F.length < 1000000) : PosP (sumP F) := by
  have hp : ∀ a ∈ sumP F, 0 < a.2 := by
    have key : ∀ (ks : List (Nat × Nat)) (p : List Tm), (∀ a ∈ p, 0 < a.2) → ∀ a ∈ ks.foldl (fun p k => plusP p [(k, 1)]) p, 0 < a.2 := by
      intro ks
      induction ks with
      | nil => intro p hp; exact hp
      | cons k ks ih => intro p hp; exact ih _ (plusP_posB p _ hp (by intro a ha; rw [List.mem_singleton] at ha; subst ha; show (0 : Int) < 1; decide))
    exact key F [] (by simp)
  intro a ha
  refine ⟨hp a ha, ?_⟩
  have h1 := cfP_memB hp ha
  rw [sumP_cf] at h1
  have h2 := List.count_le_length (a := a.1) (l := F)
  omega
theorem sumP_len (F : List (Nat × Nat)) : (sumP F).length ≤ F.length := by
  have key : ∀ (ks : List (Nat × Nat)) (p : List Tm), (ks.foldl (fun p k => plusP p [(k, 1)]) p).length ≤ p.length + ks.length := by
    intro ks
    induction ks with
    | nil => intro p; simp
    | cons k ks ih =>
      intro p
      have h1 := ih (plusP p [(k, 1)])
      have h2 := plusP_len p [(k, 1)]
      rw [List.foldl_cons]
      simp at h2 ⊢
      omega
  have := key F []
  simpa [sumP] using this
set_option maxRecDepth 100000 in
set_option maxHeartbeats 4000000 in
theorem rwhole31_any (m : Nat) (A : Option Addr) (c : Nat) (es : List E3) (hn : es.length ≤ 40) (hj : joinErr m es = 0) (h5 : m ≤ 5) (hsz : (endsL es).length ≤ 8) (w : World) (h : Reads w w.heap.size 3 A es.length (edgeCells es)) :
    Calls Tryz.prog 55 #[.agg #[.int .i64 m, .slice A es.length c]] w fun e w' => ∃ A' c', e = .returned (.slice A' (sumP (wtL m (endsL es))).length c') ∧ OwnT w' w.heap.size A' c' (sumP (wtL m (endsL es))) ∧ Below w.heap.size w w' := by
  obtain ⟨_, hG, _⟩ := join_zero hj
  have hlo := hG.lo
  have hbd := bd_ends hG
  have AC := Lib.hid (fun (W : World) (hB : Below w.heap.size w W) => rall13_any m A c es hn hG hsz W ((h.below hB).more hB.size))
  have h70 := few_trees hbd (by omega) h5 hsz
  have WC : Hid (∀ (i : Nat) (t : List Nat) (p : Nat × Nat), (treesT m (endsL es))[i]? = some t → (wtL m (endsL es))[i]? = some p → ∀ (B : Option Addr) (d : Nat) (W : World), Below w.heap.size w W → Reads W W.heap.size 1 B t.length (ints (nI t)) → Calls Tryz.prog 24 #[.agg #[.int .i64 m, .slice A es.length c], .slice B t.length d] W fun e w' => ∃ A' c', e = .returned (.tuple #[.slice A' 1 c', .int .i64 0]) ∧ Reads w' w'.heap.size 3 A' 1 (tmCells [(p, 1)]) ∧ Below W.heap.size W w') := by
    intro i t p ht hp B d W hB hr
    unfold wtL at hp
    rw [List.getElem?_map, ht] at hp
    injection hp with hp
    have hT := ((treesT_spec hbd (by omega)).1 t).1 (List.mem_of_getElem? ht)
    have hz : treeErr m es (nI t) = 0 := tree_ok hj hT
    have e1 : intE m es (nI t) = (nI (insA (endsL es) t), 0) := by unfold intE; rw [if_pos hz, toN_nI]
    have e2 : extE m es (nI t) = (nI (outA (endsL es) t), 0) := by unfold extE; rw [if_pos hz, toN_nI]
    have h1 := insA_len (E := endsL es) (t := t)
    have h2 := outA_len (E := endsL es) (t := t)
    have h3 := hT.len
    have hwE : weightE m es (nI t) = ([(p, 1)], 0) := by
      unfold weightE
      rw [if_pos hz, e1, e2]
      dsimp only
      rw [nI_length, nI_length, ← hp]
    have := rweight31_any m A c es hn B d (nI t) (by rw [nI_length]; omega) (by rw [e1, e2]; dsimp only; rw [nI_length, nI_length]; omega) W ((h.below hB).more hB.size) (by rw [nI_length]; exact hr)
    rw [hwE, nI_length] at this
    exact this
  have hFT : (wtL m (endsL es)).length = (treesT m (endsL es)).length := by unfold wtL; rw [List.length_map]
  obtain ⟨T, hTT⟩ : ∃ T, treesT m (endsL es) = T := ⟨_, rfl⟩
  obtain ⟨F, hFF⟩ : ∃ F, wtL m (endsL es) = F := ⟨_, rfl⟩
  rw [hTT] at AC WC hFT h70
  rw [hFF] at WC hFT ⊢
  obtain ⟨N, hN⟩ : ∃ N, T.length = N := ⟨_, rfl⟩
  rw [hN] at AC hFT h70
  have HN := Lib.hid hN
  have HF := Lib.hid hFT
  have g := Blk.new w 24 #[.int .i64 m, .slice A es.length c]
  have hB : Below w.heap.size w (w.alloc (.cells #[.int .i64 m, .slice A es.length c] 24)) := (Below.refl _ _).alloc (Nat.le_refl _) _
  have k0 := g.cell 0
  have k1 := g.cell 1
  clear hG hlo hbd hTT hFF hN hFT h hsz hj h5
  go_enter Tryz.func55, Tryz.ntmps55
  go_wp2_with fail
  refine (AC.out _ hB).mono ?_
  rintro e w1 ⟨Ar, cr, rfl, hRo, hb⟩
  have g := g.next hb
  have hB := hB.trans (hb.mono hB.size)
  have hz1 := hB.size
  clear hb k0 k1
  go_wp2
  go_loopw [4, 5, 6, 7] (fun s i _ _ wr => ∃ (k : Nat) (A' : Option Addr) (c' : Nat), k ≤ N ∧ i = .int .i64 k ∧ s = .slice A' (sumP (F.take k)).length c' ∧ Below w1.heap.size w1 wr ∧ Hid (OwnT wr w1.heap.size A' c' (sumP (F.take k)))) (fun _ i _ _ _ => N - (intOf i).toNat)
  case atStart => exact ⟨0, none, 0, by omega, rfl, rfl, Below.refl _ _, OwnT.nil_ _ _⟩
  case round =>
    obtain ⟨k, A', c', hk, rfl, rfl, hb1, HO⟩ := hrel
    have hBr : Below w.heap.size w wr := hB.trans (hb1.mono hB.size)
    have hwz := hb1.size
    by_cases hlt : k < N
    · have hi : (k : Int) < (N : Int) := by omega
      obtain ⟨t, ht⟩ : ∃ t, T[k]? = some t := ⟨_, List.getElem?_eq_getElem (by rw [HN.out]; exact hlt)⟩
      obtain ⟨p, hp⟩ : ∃ p, F[k]? = some p := ⟨_, List.getElem?_eq_getElem (by rw [HF.out]; exact hlt)⟩
      obtain ⟨b', off', A0, c0, rfl, hc', hr0, hb'⟩ := (hRo.below hb1).row ht
      have hr0 := hr0.more hb1.size
      have gk := g.below hb1 g.lt
      have k0 := gk.cell 0
      have k1 := gk.cell 1
      have RK := Lib.hid (WC.out k t p ht hp A0 c0 wr.drew hBr.drew hr0)
      have hF1 : (F.take k).length ≤ 100 := by rw [List.length_take]; omega
      have PC := Lib.hid (fun (B : Option Addr) (d : Nat) (Aq : Option Addr) (cq : Nat) (W : World) (h1 : Reads W W.heap.size 3 B (sumP (F.take k)).length (tmCells (sumP (F.take k)))) (h2 : Reads W W.heap.size 3 Aq 1 (tmCells [(p, 1)])) => rplus06_any B d (sumP (F.take k)) Aq cq [(p, 1)] (by have := sumP_len (F.take k); omega) (by simp) (sumP_posP _ (by omega)) (by intro a ha; rw [List.mem_singleton] at ha; subst ha; show (0 : Int) < 1 ∧ (1 : Int) < 1000000; decide) W h1 h2)
      rw [← sumP_snoc, ← take_snoc hp] at PC
      obtain ⟨R, hR⟩ : ∃ R, sumP (F.take (k + 1)) = R := ⟨_, rfl⟩
      obtain ⟨S, hS⟩ : ∃ S, sumP (F.take k) = S := ⟨_, rfl⟩
      rw [hR] at PC
      rw [hS] at PC HO ⊢
      have HR := Lib.hid hR
      obtain ⟨tl, htl⟩ : ∃ n, t.length = n := ⟨_, rfl⟩
      obtain ⟨sl, hsl⟩ : ∃ n, S.length = n := ⟨_, rfl⟩
      rw [htl] at RK hc'
      rw [hsl] at PC ⊢
      have HSL := Lib.hid hsl
      clear ht hp htl hr0 hR hS hsl hF1
      go_wp2
      go_region_held3 (fun W => W.cell? ⟨w.heap.size, 0, none⟩ = some (.int .i64 m) ∧ W.cell? ⟨w.heap.size, 1, none⟩ = some (.slice A es.length c) ∧ W.cell? ⟨b', off' + k, none⟩ = some (.slice A0 tl c0)) (go_keep) (first
        | (go_at_call 24; refine (RK.out).mono ?_; rintro e w5 ⟨A5, c5, rfl, hr5, hb5⟩; have k0' := (gk.drew.next hb5).cell 0; have k1' := (gk.drew.next hb5).cell 1; have hc5 := (hb5.cell (p := ⟨b', off' + k, none⟩) (by show b' < _; exact Nat.lt_of_lt_of_le hb' hb1.size)).trans hc')
        | fail)
      have hbn := hb1.trans (((Below.refl _ wr).drew.trans hb5).mono hb1.size)
      have O5 : OwnT w5 w1.heap.size A' c' S := OwnT.next (w := wr.drew) HO.out hb5
      have RO := O5.reads
      rw [HSL.out] at RO
      go_wp2_with fail
      refine (PC.out _ _ _ _ _ RO hr5).mono ?_
      rintro e w6 ⟨A6, c6, rfl, ho6, hb6⟩
      have hbn6 := hbn.trans (hb6.mono hbn.size)
      go_wp2
      go_roundw
      case rel => exact ⟨k + 1, A6, c6, by omega, by go_num, by rw [HR.out], hbn6, by rw [Hid, HR.out]; exact ho6.mono hbn.size⟩
      case measure => simp [intOf]; omega
    · obtain rfl : k = N := by omega
      have hf : ¬ (k : Int) < (k : Int) := by omega
      have hFF : F.take k = F := List.take_of_length_le (by rw [HF.out]; exact Nat.le_refl _)
      rw [hFF] at HO ⊢
      go_wp2
      go_ret
      exact ⟨A', c', rfl, HO.out.mono hz1, hBr⟩
set_option maxRecDepth 100000 in
set_option maxHeartbeats 4000000 in
theorem rpolynomial31_any (n : Int) (A : Option Addr) (c : Nat) (es : List E3) (hn : es.length ≤ 40) (hfw : joinErr n es = 0 → n ≤ 5 ∧ (endsL es).length ≤ 8) (w : World) (h : Reads w w.heap.size 3 A es.length (edgeCells es)) :
    Calls Tryz.prog 19 #[.agg #[.int .i64 n, .slice A es.length c]] w fun e w' => ∃ A' c', e = .returned (.tuple #[.slice A' (polyE n es).1.length c', .int .i64 (polyE n es).2]) ∧ OwnT w' w.heap.size A' c' (polyE n es).1 ∧ Below w.heap.size w w' := by
  have JC := Lib.hid (fun (W : World) (hB : Below w.heap.size w W) => rjoinedErr_any n A c es (by omega) W ((h.below hB).more hB.size))
  have g := Blk.new w 24 #[.int .i64 n, .slice A es.length c]
  have hB : Below w.heap.size w (w.alloc (.cells #[.int .i64 n, .slice A es.length c] 24)) := (Below.refl _ _).alloc (Nat.le_refl _) _
  have k0 := g.cell 0
  have k1 := g.cell 1
  unfold polyE
  by_cases hj : joinErr n es = 0
  · rw [if_neg (fun hc => hc hj)]
    rw [hj] at JC
    obtain ⟨h5, h8⟩ := hfw hj
    obtain ⟨_, hG, _⟩ := join_zero hj
    have hlo := hG.lo
    obtain ⟨m, rfl⟩ := Int.eq_ofNat_of_zero_le (show 0 ≤ n by omega)
    rw [Int.toNat_natCast]
    have WH := Lib.hid (fun (W : World) (hB : Below w.heap.size w W) => rwhole31_any m A c es hn hj (by omega) h8 W ((h.below hB).more hB.size))
    obtain ⟨S, hS⟩ : ∃ S, sumP (wtL m (endsL es)) = S := ⟨_, rfl⟩
    rw [hS] at WH ⊢
    dsimp only
    obtain ⟨sl, hsl⟩ : ∃ n, S.length = n := ⟨_, rfl⟩
    rw [hsl] at WH ⊢
    clear hj hS hsl h hG hlo h5 h8 hfw
    go_enter Tryz.func19, Tryz.ntmps19
    go_wp2_with fail
    refine (JC.out _ hB).mono ?_
    rintro e w1 ⟨rfl, hb⟩
    have g := g.next hb
    have hB := hB.trans (hb.mono hB.size)
    have k0 := g.cell 0
    have k1 := g.cell 1
    clear hb
    go_wp2_with fail
    refine (WH.out _ hB).mono ?_
    rintro e w2 ⟨A2, c2, rfl, ho, hb⟩
    have hz := hB.size
    have hB := hB.trans (hb.mono hB.size)
    go_wp2
    go_ret2
    exact ⟨A2, c2, rfl, ho.mono hz, hB⟩
  · rw [if_pos hj]
    obtain ⟨z, hzz⟩ : ∃ z, joinErr n es = z := ⟨_, rfl⟩
    rw [hzz] at JC hj ⊢
    have hzb : (z == 0) = false := by simpa using hj
    clear hj hzz hfw h
    go_enter Tryz.func19, Tryz.ntmps19
    go_wp2_with fail
    refine (JC.out _ hB).mono ?_
    rintro e w1 ⟨rfl, hb⟩
    have hB := hB.trans (hb.mono hB.size)
    go_wp2
    go_ret2
    exact ⟨none, 0, rfl, OwnT.nil_ _ _, hB⟩
end Go.Proofs.YtplgbapbgcipdaaGreatDoor

