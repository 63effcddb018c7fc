/-
  Texts of this claim, put together: BurntC.
-/
import Derived.Test.YtghigdcpinengaaGreatK46
/-! ref30.Burnt, by chips. -/
namespace Go.Proofs.YtghigdcpinengaaGreat
open Go.RowKit

set_option maxRecDepth 100000 in
set_option maxHeartbeats 16000000 in
theorem burntC_any (n q : Nat) (A : Option Addr) (c : Nat) (es : List E3) (hn : es.length ≤ 40) (hG : RightG n es) (hq : q < n) (B : Option Addr) (d : Nat) (cs : List Int) (hcl : cs.length = n) (w : World) (h : Reads w w.heap.size 3 A es.length (edgeCells es)) (h' : Reads w w.heap.size 1 B n (ints cs)) :
    Calls Tryz.prog 52 #[.agg #[.int .i64 n, .slice A es.length c], .int .i64 q, .slice B n d, .slice none 0 0, .bool false] w fun e w' => ∃ (a : BtA) (X : FireS), e = .returned (.agg (btC n a X)) ∧ Hid (X = { runF (endsL es) (ltQ cs) (endsL es).length (fire1 n q) with tree := ascN (endsL es).length (runF (endsL es) (ltQ cs) (endsL es).length (fire1 n q)).tree }) ∧ OwnI w' w.heap.size a.AS a.cS (nI X.steps) ∧ OwnI w' w.heap.size a.AO a.cO (nI X.order) ∧ OwnI w' w.heap.size a.AD a.cD (nI X.tree) ∧ OwnI w' w.heap.size (some ⟨a.gT, 0, none⟩) n X.times ∧ Below w.heap.size w w' := by
  have hn12 : n ≤ 12 := by have := hG.hi; omega
  have hE := bd_ends hG
  have SZ : Hid (∀ W, Below w.heap.size w W → Calls Tryz.prog 56 #[.agg #[.int .i64 n, .slice A es.length c]] W fun e w' => e = .returned (.int .i64 ((endsL es).length : Nat)) ∧ Below W.heap.size W w') := by
    intro W hB
    have := rsize_any n A c es hn n hG.ok W ((h.below hB).more hB.size)
    rw [size_ends] at this
    exact this
  have NX := Lib.hid (fun (S : FireS) (hs1 : S.steps.length ≤ 10000) (hs2 : S.order.length ≤ 10000) (AS AO AD AT : Option Addr) (cS cO cD cT nD nT : Nat) (W : World) (hB : Below w.heap.size w W) (h1 : Reads W W.heap.size 1 AS S.steps.length (ints (nI S.steps))) (h2 : Reads W W.heap.size 1 AO S.order.length (ints (nI S.order))) => next30_any n A c es hn n hG.ok S hs1 hs2 AS AO AD AT cS cO cD cT nD nT W ((h.below hB).more hB.size) h1 h2)
  have hEl : (endsL es).length ≤ 2000 := by have := endsL_length (N := n) hG.ok; omega
  have hmi := make_ints n (by omega)
  obtain ⟨E, hEE⟩ : ∃ E, endsL es = E := ⟨_, rfl⟩
  rw [hEE] at SZ NX hE hEl ⊢
  have HE := Lib.hid hE
  have HFI : Hid (∀ k, FI E n q (runF E (ltQ cs) k (fire1 n q))) := fun k => run_inv (fun _ _ h hn => h.one hE hn) _ _ (.start hq)
  have HQ := Lib.hid hq
  have HCL := Lib.hid hcl
  -- the world behind the first allocations
  obtain ⟨W0, hW0⟩ : ∃ W0, ((((w.alloc (.cells #[.int .i64 n, .slice A es.length c] 24)).alloc (.cells #[.slice none 0 0, .slice none 0 0, .slice none 0 0, .slice none 0 0] 35)).alloc (.cells #[.int .i64 (q : Int)] 3)).alloc (.cells (ints (List.replicate n 0)).toArray 3)) = W0 := ⟨_, rfl⟩
  have G0 : Blk W0 w.heap.size 24 #[.int .i64 n, .slice A es.length c] := by rw [← hW0]; exact (((Blk.new w _ _).alloc _).alloc _).alloc _
  have R0 : Blk W0 (w.heap.size + 1) 35 #[.slice none 0 0, .slice none 0 0, .slice none 0 0, .slice none 0 0] := by rw [← hW0]; exact ((Blk.newF (by simp)).alloc _).alloc _
  have Q0 : Blk W0 (w.heap.size + 2) 3 #[.int .i64 (q : Int)] := by rw [← hW0]; exact (Blk.newF (by simp)).alloc _
  have T0 : Blk W0 (w.heap.size + 3) 3 (ints (List.replicate n 0)).toArray := by rw [← hW0]; exact Blk.newF (by simp)
  have Z0 : W0.heap.size = w.heap.size + 4 := by rw [← hW0]; simp
  have B0 : Below w.heap.size w W0 := by rw [← hW0]; exact ((((Below.refl _ _).alloc (Nat.le_refl _) _).alloc (by simp) _).alloc (by simp; omega) _).alloc (by simp; omega) _
  have HW0 := Lib.hid hW0
  clear hW0
  have c0 : ((w.alloc (.cells #[.int .i64 n, .slice A es.length c] 24)).alloc (.cells #[.slice none 0 0, .slice none 0 0, .slice none 0 0, .slice none 0 0] 35)).cell? ⟨w.heap.size, 0, none⟩ = some (.int .i64 n) := ((Blk.new w 24 #[.int .i64 n, .slice A es.length c]).alloc _).cell 0
  have c0b : (((w.alloc (.cells #[.int .i64 n, .slice A es.length c] 24)).alloc (.cells #[.slice none 0 0, .slice none 0 0, .slice none 0 0, .slice none 0 0] 35)).alloc (.cells #[.int .i64 (q : Int)] 3)).cell? ⟨w.heap.size, 0, none⟩ = some (.int .i64 n) := (((Blk.new w 24 #[.int .i64 n, .slice A es.length c]).alloc _).alloc _).cell 0
  clear h hG hE hEE hq hcl
  go_enter Tryz.func52, Tryz.ntmps52
  go_wp2_with fail
  try rw [HW0.out]
  have Z0' := Lib.hid Z0
  obtain ⟨W1, hW1⟩ : ∃ W1, W0.alloc (.cells #[.slice none 0 0, .slice (some ⟨w.heap.size + 1 + 1, 0, none⟩) 1 1, .slice none 0 0, .slice (some ⟨w.heap.size + 1 + 1 + 1, 0, none⟩) n n] 35) = W1 := ⟨_, rfl⟩
  have hbs : Blk W1 (w.heap.size + 1 + 1 + 1 + 1) 35 (btC n ⟨none, 0, some ⟨w.heap.size + 1 + 1, 0, none⟩, 1, none, 0, w.heap.size + 1 + 1 + 1⟩ (fire1 n q)) := by rw [← hW1]; exact Blk.newF (by rw [Z0])
  have I1 : Hid (BtW W1 (w.heap.size + 2) (w.heap.size + 1 + 1 + 1 + 1) n ⟨none, 0, some ⟨w.heap.size + 1 + 1, 0, none⟩, 1, none, 0, w.heap.size + 1 + 1 + 1⟩ (fire1 n q)) := by
    have hq1 : Blk W1 (w.heap.size + 2) 3 (intCells [(q : Int)]) := by rw [← hW1]; exact Q0.alloc _
    have ht1 : Blk W1 (w.heap.size + 3) 3 (intCells (List.replicate n 0)) := by rw [← hW1]; exact T0.alloc _
    have o1 := OwnI.of_blk hq1 (base := w.heap.size + 2) (by omega) (by simp [maxLen])
    have o2 := OwnI.of_blk ht1 (base := w.heap.size + 2) (by omega) (by simp [maxLen]; omega)
    rw [List.length_replicate] at o2
    have nb : ∀ A : Option Addr, Dj A none := fun A k _ h => by obtain ⟨a, h, _⟩ := h; cases h
    have nb' : ∀ A : Option Addr, Dj none A := fun A k h _ => by obtain ⟨a, h, _⟩ := h; cases h
    refine { blk := hbs, hb := by omega, times := o2, tlen := by simp [fire1], steps := OwnI.nil_ _ _, order := o1, tree := OwnI.nil_ _ _, tS := nb _, tO := ?_, tD := nb _, sO := nb' _, sD := nb _, oD := nb _ }
    rintro k ⟨a, ha, rfl⟩ ⟨a', ha', hk⟩
    injection ha with ha; injection ha' with ha'
    subst ha; subst ha'
    simp at hk
  have G1 : Hid (Blk W1 w.heap.size 24 #[.int .i64 n, .slice A es.length c]) := by rw [← hW1]; exact G0.alloc _
  have R1 : Hid (Blk W1 (w.heap.size + 1) 35 #[.slice none 0 0, .slice none 0 0, .slice none 0 0, .slice none 0 0]) := by rw [← hW1]; exact R0.alloc _
  have B1 : Hid (Below w.heap.size w W1) := by rw [← hW1]; exact B0.alloc (by omega) _
  have ZZ1 : w.heap.size + 2 ≤ W1.heap.size := by rw [← hW1]; simp [Z0]
  try rw [hW1]
  obtain ⟨b, hb⟩ : ∃ b, w.heap.size + 1 + 1 + 1 + 1 = b := ⟨_, rfl⟩
  rw [hb] at I1
  try rw [hb]
  obtain ⟨M, hM⟩ : ∃ M, E.length = M := ⟨_, rfl⟩
  rw [hM] at SZ hEl
  try rw [hM]
  have HM := Lib.hid hM
  clear hW1 hbs G0 R0 Q0 T0 Z0 B0 c0 c0b hmi hb hM
  go_loopw [12] (fun i wr => ∃ k : Nat, k ≤ M ∧ i = .int .i64 k ∧ Hid (∃ a, BtW wr (w.heap.size + 2) b n a (runF E (ltQ cs) k (fire1 n q))) ∧ Hid (Below (w.heap.size + 2) W1 wr)) (fun i _ => M - (intOf i).toNat)
  case atStart => exact ⟨0, by omega, rfl, ⟨_, I1.out⟩, Below.refl _ _⟩
  case round =>
    obtain ⟨k, hk, rfl, HI, HB⟩ := hrel
    obtain ⟨a, bt⟩ := HI.out
    have hfi := HFI.out k
    have hzr : w.heap.size + 2 ≤ wr.heap.size := Nat.le_trans ZZ1 HB.out.size
    have g1 := G1.out.below HB.out (by omega)
    have rr := Lib.hid (R1.out.below HB.out (by omega))
    have hBw : Below w.heap.size w wr := B1.out.trans (HB.out.mono (by omega))
    have k0 := g1.cell 0
    have k1 := g1.cell 1
    have hstl : (runF E (ltQ cs) k (fire1 n q)).steps.length ≤ M := by
      have := nodup_sub_le hfi.nodup (m := List.range E.length) (fun x hx => List.mem_range.2 (hfi.lt x hx))
      rw [List.length_range, HM.out] at this; exact this
    have horl : (runF E (ltQ cs) k (fire1 n q)).order.length ≤ n := by
      have := nodup_sub_le hfi.ond (m := List.range n) (fun x hx => List.mem_range.2 (hfi.olt x hx))
      rw [List.length_range] at this; exact this
    have htrl : (runF E (ltQ cs) k (fire1 n q)).tree.length ≤ n := by have := hfi.onum; omega
    have HSX : Hid (runF E (ltQ cs) (k + 1) (fire1 n q) = stepF E (ltQ cs) (runF E (ltQ cs) k (fire1 n q))) := runF_succ _ _
    have HAL : Hid (nextF E (runF E (ltQ cs) k (fire1 n q)) = none → runF E (ltQ cs) M (fire1 n q) = runF E (ltQ cs) k (fire1 n q)) := fun h => run_all rfl hk h
    obtain ⟨S, hS⟩ : ∃ S, runF E (ltQ cs) k (fire1 n q) = S := ⟨_, rfl⟩
    rw [hS] at bt hfi hstl htrl horl HSX HAL
    have HS := Lib.hid hS
    have HFS := Lib.hid hfi
    have BT := Lib.hid bt
    clear hS HI hfi
    have hw1 : IntKind.i64.wrap ((k : Int) + 1) = (k : Int) + 1 := IntWalk.i64_in _ (by omega)
    by_cases hlt : k < M
    · have hi : (k : Int) < (M : Int) := by omega
      go_wp2_with fail
      refine (SZ.out _ hBw).mono ?_
      rintro e w2 ⟨rfl, hb2⟩
      have BT2 := Lib.hid (BT.out.keep hb2)
      have g2 := g1.next hb2
      have rr2 := Lib.hid (rr.out.next hb2)
      have HB2 : Hid (Below (w.heap.size + 2) W1 w2) := HB.out.trans (hb2.mono hzr)
      have hBw2 : Below w.heap.size w w2 := B1.out.trans (HB2.out.mono (by omega))
      have hz2 : w.heap.size + 2 ≤ w2.heap.size := Nat.le_trans hzr hb2.size
      have k0 := g2.cell 0
      have k1 := g2.cell 1
      have d0 : w2.cell? ⟨b, 0, none⟩ = some (.slice a.AS S.steps.length a.cS) := BT2.out.blk.cell 0
      have d1 : w2.cell? ⟨b, 1, none⟩ = some (.slice a.AO S.order.length a.cO) := BT2.out.blk.cell 1
      have d2 : w2.cell? ⟨b, 2, none⟩ = some (.slice a.AD S.tree.length a.cD) := BT2.out.blk.cell 2
      have d3 : w2.cell? ⟨b, 3, none⟩ = some (.slice (some ⟨a.gT, 0, none⟩) n n) := BT2.out.blk.cell 3
      have NC := Lib.hid (NX.out S (by omega) (by omega) a.AS a.AO a.AD (some ⟨a.gT, 0, none⟩) a.cS a.cO a.cD n S.tree.length n w2 hBw2 (readsNB BT2.out.steps rfl) (readsNB BT2.out.order rfl))
      clear bt g1 hb2
      go_wp2_with fail
      refine (NC.out).mono ?_
      rintro e w3 ⟨rfl, hb3⟩
      have BT3 := Lib.hid (BT2.out.keep hb3)
      have g3 := g2.next hb3
      have rr3 := Lib.hid (rr2.out.next hb3)
      have HB3 : Hid (Below (w.heap.size + 2) W1 w3) := HB2.out.trans (hb3.mono hz2)
      have hz3 : w.heap.size + 2 ≤ w3.heap.size := Nat.le_trans hz2 hb3.size
      have k0 := g3.cell 0
      have k1 := g3.cell 1
      clear d0 d1 d2 d3 g2 hb3 NC
      rcases hnx : nextF E S with _ | e
      · have h1 : nxE none = -1 := rfl
        try rw [hnx]
        have HNX := Lib.hid hnx
        clear hnx
        have HFIN : Hid (runF E (ltQ cs) M (fire1 n q) = S) := HAL.out HNX.out
        have HTR : Hid (sortG ltI (nI S.tree) = nI (ascN M S.tree)) := sort_asc HFS.out.tnd (fun e he => by rw [← HM.out]; exact HFS.out.lt e (HFS.out.tsub e he))
        have SC : Hid (Calls Tryz.prog 88 #[.slice a.AD S.tree.length a.cD] w3 fun en w' => ∃ A' c', en = .returned (.slice A' S.tree.length c') ∧ OwnI w' w3.heap.size A' c' (nI (ascN M S.tree)) ∧ Below w3.heap.size w3 w') := by
          have := rsorted_any a.AD a.cD (nI S.tree) (by rw [nI_length]; omega) w3 (by rw [nI_length]; exact readsNB BT3.out.tree rfl)
          rw [HTR.out, nI_length] at this
          exact this
        have d2 : w3.cell? ⟨b, 2, none⟩ = some (.slice a.AD S.tree.length a.cD) := BT3.out.blk.cell 2
        go_wp2_with fail
        refine (SC.out).mono ?_
        rintro e w8 ⟨A8, c8, rfl, o8, hb8⟩
        have HAT : Hid ((ascN M S.tree).length = S.tree.length) := (asc_perm HFS.out.tnd (fun e he => by rw [← HM.out]; exact HFS.out.lt e (HFS.out.tsub e he))).length_eq
        have BT8 := BT3.out.keep hb8
        have rr8 := rr3.out.next hb8
        have fz8 := BT8.blk.frozen 2
        have b8 : Blk (w8.setCell ⟨b, 2, none⟩ (.slice A8 S.tree.length c8)) b 35 #[.slice a.AS S.steps.length a.cS, .slice a.AO S.order.length a.cO, .slice A8 S.tree.length c8, .slice (some ⟨a.gT, 0, none⟩) n n] := BT8.blk.set_ 2 (.slice A8 S.tree.length c8)
        have dx2 := BT8.blk.cell 2
        have nrb : w.heap.size + 1 ≠ b := by have := BT8.hb; omega
        have r8 : Blk (w8.setCell ⟨b, 2, none⟩ (.slice A8 S.tree.length c8)) (w.heap.size + 1) 35 #[.slice none 0 0, .slice none 0 0, .slice none 0 0, .slice none 0 0] := rr8.far (p := ⟨b, 2, none⟩) nrb _
        have e0 := b8.cell 0
        have e1 := b8.cell 1
        have e2 := b8.cell 2
        have e3 := b8.cell 3
        have f0 := r8.frozen 0
        have f1 := r8.frozen 1
        have f2 := r8.frozen 2
        have f3 := r8.frozen 3
        have q0 := r8.cell 0
        have q1 := r8.cell 1
        have q2 := r8.cell 2
        have q3 := r8.cell 3
        have ofs := (fin5 (BT8.steps.mono (by omega)) BT8.blk rr8 nrb (.slice A8 S.tree.length c8) (.slice a.AS S.steps.length a.cS) (.slice a.AO S.order.length a.cO) (.slice A8 S.tree.length c8) (.slice (some ⟨a.gT, 0, none⟩) n n) : OwnI _ w.heap.size _ _ _)
        have ofo := (fin5 (BT8.order.mono (by omega)) BT8.blk rr8 nrb (.slice A8 S.tree.length c8) (.slice a.AS S.steps.length a.cS) (.slice a.AO S.order.length a.cO) (.slice A8 S.tree.length c8) (.slice (some ⟨a.gT, 0, none⟩) n n) : OwnI _ w.heap.size _ _ _)
        have oft := (fin5 (BT8.times.mono (by omega)) BT8.blk rr8 nrb (.slice A8 S.tree.length c8) (.slice a.AS S.steps.length a.cS) (.slice a.AO S.order.length a.cO) (.slice A8 S.tree.length c8) (.slice (some ⟨a.gT, 0, none⟩) n n) : OwnI _ w.heap.size _ _ _)
        have ofd := (fin5 (o8.mono (by omega)) BT8.blk rr8 nrb (.slice A8 S.tree.length c8) (.slice a.AS S.steps.length a.cS) (.slice a.AO S.order.length a.cO) (.slice A8 S.tree.length c8) (.slice (some ⟨a.gT, 0, none⟩) n n) : OwnI _ w.heap.size _ _ _)
        have OFS := Lib.hid ofs
        have OFO := Lib.hid ofo
        have OFT := Lib.hid oft
        have OFD := Lib.hid ofd
        have HBF : Hid (Below w.heap.size w w8) := B1.out.trans ((HB3.out.trans (hb8.mono hz3)).mono (by omega))
        have HR8 := Lib.hid r8
        have hbb : w.heap.size ≤ b := by have := BT8.hb; omega
        clear ofs ofo oft ofd BT8 rr8 o8 hb8 b8 r8 d2
        go_wp2
        refine bodyPost_ret (results_rf rfl rfl ((((HR8.out.set_ 0 _).set_ 1 _).set_ 2 _).set_ 3 _) rfl) rfl ?_
        refine ⟨⟨a.AS, a.cS, a.AO, a.cO, A8, c8, a.gT⟩, { S with tree := ascN M S.tree }, ?_, ?_, OFS.out, OFO.out, OFD.out, OFT.out, ?_⟩
        · show _ = Ending.returned (.agg #[.slice a.AS S.steps.length a.cS, .slice a.AO S.order.length a.cO, .slice A8 (ascN M S.tree).length c8, .slice (some ⟨a.gT, 0, none⟩) n n])
          rw [HAT.out]; rfl
        · rw [Hid, HM.out, HFIN.out]
        · exact ((((HBF.out.setCell (p := ⟨b, 2, none⟩) hbb _).setCell (p := ⟨w.heap.size + 1, 0, none⟩) (by simp) _).setCell (p := ⟨w.heap.size + 1, 1, none⟩) (by simp) _).setCell (p := ⟨w.heap.size + 1, 2, none⟩) (by simp) _).setCell (p := ⟨w.heap.size + 1, 3, none⟩) (by simp) _
      · obtain ⟨l1, l2, l3, l4, l5, l6⟩ := lead_facts HE.out hnx
        have HV : Hid (nxV E S (some e) = ((leadV E S e : Nat) : Int)) := rfl
        have HNE : Hid (nxE (some e) = ((e : Nat) : Int)) := rfl
        have HSB : Hid (stepF E (ltQ cs) S = burnOne (ltQ cs) S e (leadV E S e)) := run_next hnx
        rw [HNE.out, HV.out]
        obtain ⟨v, hv⟩ : ∃ v, leadV E S e = v := ⟨_, rfl⟩
        rw [hv] at l3 l4 l5 l6 HSB
        rw [hv]
        have HLV := Lib.hid hv
        have HNX := Lib.hid hnx
        have htl := HFS.out.tlen
        obtain ⟨tv, htv⟩ := get_of_lt (xs := S.times) (k := v) (by omega)
        have ht0 : S.times.getD v 0 = tv := getD_at htv
        have htb : 0 ≤ tv ∧ tv ≤ 2000 := by
          have h1 := HFS.out.nn v
          have h2 := HFS.out.cnt v l6 l4
          have h3 := List.length_filter_le (incB E v) S.steps
          rw [ht0] at h1 h2
          omega
        obtain ⟨htb0, htb1⟩ := htb
        have HT0 := Lib.hid ht0
        have HTV := Lib.hid htv
        have HL4 := Lib.hid l4
        have HL5 := Lib.hid l5
        have hvi : (v : Int) < (n : Int) := by omega
        have hnn : ¬ ((e : Int) < 0) := by omega
        have own0 := own_lenH BT3.out.steps (nI_length S.steps)
        have hrb := Reads.box w3 (.int .i64 (e : Int)) 3
        have kb0 : w3.cell? ⟨b, 0, none⟩ = some (.slice a.AS S.steps.length a.cS) := BT3.out.blk.cell 0
        clear hv hnx htl ht0 htv l1 l2 l3 l4 l5
        go_wp2_with (first | (at_builtin; refine append_go rfl (.tmp 36) (.tmp 38) _ rfl (w.heap.size + 2) 3 Tryz.underlying25 info_int rfl (by omega) a.AS a.cS S.steps.length (ints (nI S.steps)) rfl (World.ownsRow.alloc own0 _) (w3.heap.size + 1) [.int .i64 (e : Int)] rfl hrb (by simp [Value.oneCell']) (by omega) (by simp; omega) ?_; intro A7 c7 w7 hown7 hg7 hb7 hd7; have b7 : Blk w7 b 35 (btC n a S) := (hg7.block b (by have h1 := BT3.out.blk.lt; simp; omega) (fun e => own_neB BT3.out.steps BT3.out.blk (by decide) b (blockOf_own.1 e.symm) rfl)).trans (BT3.out.blk.alloc _); have fz7 := b7.frozen 0; have kc7 : w7.cell? ⟨b, 0, none⟩ = some (.slice a.AS S.steps.length a.cS) := b7.cell 0) | fail)
        have hA7 : ∀ k, blockOf A7 k → blockOf a.AS k ∨ w3.heap.size ≤ k := by
          intro k hk
          have hk2 : (Value.slice A7 (S.steps.length + 1) c7).ownBlock = some k := blockOf_own.2 hk
          rcases hd7 with hd7 | hd7
          · rw [hd7] at hk2; exact .inl (blockOf_own.1 hk2)
          · rw [hd7] at hk2; injection hk2 with hk2; subst hk2; refine .inr ?_; simp
        have o7 : OwnI w7 (w.heap.size + 2) A7 c7 (nI (S.steps ++ [e])) := by
          unfold OwnI; rw [nI_length, List.length_append]
          have : ints (nI (S.steps ++ [e])) = ints (nI S.steps) ++ [.int .i64 (e : Int)] := by simp [nI, ints]
          rw [this]; exact hown7
        have F7 := Lib.hid (BT3.out.step (x := S.steps.length) hg7 o7 hA7)
        have B7 : Hid (Below (w.heap.size + 2) w3 (w7.setCell ⟨b, 0, none⟩ (.slice A7 (S.steps.length + 1) c7))) := ((((Below.refl _ w3).alloc hz3 (.cells #[.int .i64 (e : Int)] 3)).trans hb7).setCell (p := ⟨b, 0, none⟩) BT3.out.hb _)
        obtain ⟨W7, hW7⟩ : ∃ W, (w7.setCell ⟨b, 0, none⟩ (.slice A7 (S.steps.length + 1) c7)) = W := ⟨_, rfl⟩
        rw [hW7] at F7 B7
        have HB7 : Hid (Below (w.heap.size + 2) W1 W7) := HB3.out.trans B7.out
        have hz7 : w.heap.size + 2 ≤ W7.heap.size := Nat.le_trans hz3 B7.out.size
        have k73 : W7.cell? ⟨b, 3, none⟩ = some (.slice (some ⟨a.gT, 0, none⟩) n n) := F7.out.blk.cell 3
        have kt : W7.cell? ⟨a.gT, v, none⟩ = some (.int .i64 tv) := (F7.out.times.at_ (by show 0 < S.times.length; have := HFS.out.tlen; omega)).2.2.2 v tv HTV.out
        clear hown7 hg7 hb7 hd7 b7 fz7 kc7 o7 hA7 own0 hrb kb0
        try rw [hW7]
        clear hW7
        obtain ⟨cv, hcv⟩ := get_of_lt (xs := cs) (k := v) (by rw [HCL.out]; exact l6)
        have HLIT : Hid (ltQ cs v e tv = (tv == cv)) := by unfold Hid ltQ; rw [getD_at hcv]
        have hBw7 : Below w.heap.size w W7 := B1.out.trans (HB7.out.mono (by omega))
        obtain ⟨bC, oC, hBC, hbC, hcc⟩ := (h'.below hBw7).at_ (ints_at hcv)
        subst hBC
        clear hcv
        obtain ⟨r, hr⟩ : ∃ r, (tv == cv) = r := ⟨_, rfl⟩
        rw [hr] at HLIT
        go_quiet (fail)
        clear kt
        have F8 := Lib.hid (F7.out.keep (w' := W7.drewN nq) (below_drewN (Below.refl _ _) nq))
        have HB8 : Hid (Below (w.heap.size + 2) W1 (W7.drewN nq)) := below_drewN HB7.out nq
        have hz8 : w.heap.size + 2 ≤ (W7.drewN nq).heap.size := hz7
        obtain ⟨W8, hW8⟩ : ∃ W, W7.drewN nq = W := ⟨_, rfl⟩
        rw [hW8] at F8 HB8 hz8
        try rw [hW8]
        clear hW8 k73
        cases r
        · have HNEW : Hid (runF E (ltQ cs) (k + 1) (fire1 n q) = { steps := S.steps ++ [e], order := S.order, tree := S.tree, times := S.times.set v (tv + 1) }) := by
            rw [Hid, HSX.out, HSB.out]; unfold burnOne; rw [HT0.out, HLIT.out, if_neg (by decide)]
          have k83 : W8.cell? ⟨b, 3, none⟩ = some (.slice (some ⟨a.gT, 0, none⟩) n n) := F8.out.blk.cell 3
          have tt8 := F8.out.times.at_ (by show 0 < S.times.length; have := HFS.out.tlen; omega)
          have kt8 : W8.cell? ⟨a.gT, v, none⟩ = some (.int .i64 tv) := tt8.2.2.2 v tv HTV.out
          have fz8 : W8.frozen? ⟨a.gT, v, none⟩ = false := tt8.2.2.1 v
          have ZT : w.heap.size + 2 ≤ a.gT := tt8.1
          clear tt8
          have hw2 : IntKind.i64.wrap (tv + 1) = tv + 1 := IntWalk.i64_in _ (by omega)
          go_wp2_with fail
          refine region_tail 10 (by kernel_rfl) (by kernel_rfl) ?_
          simp only [List.take_succ_cons, List.take_zero, List.drop_succ_cons, List.drop_zero]
          repeat still_step
          refine wpStill_nil ?_
          go_wp2
          have F9 := Lib.hid ((F8.out.keep (w' := W8.drew) (below_drewN (Below.refl _ _) 1)).time v (tv + 1))
          have HB9 : Hid (Below (w.heap.size + 2) W1 (W8.drew.setCell ⟨a.gT, v, none⟩ (.int .i64 (tv + 1)))) := (below_drewN HB8.out 1).setCell (p := ⟨a.gT, v, none⟩) ZT _
          go_roundw
          case rel => exact ⟨k + 1, by omega, by go_num, ⟨_, by rw [HNEW.out]; exact F9.out⟩, HB9.out⟩
          case measure => simp [intOf]; omega
        · have HNEW : Hid (runF E (ltQ cs) (k + 1) (fire1 n q) = { steps := S.steps ++ [e], order := S.order ++ [v], tree := S.tree ++ [e], times := S.times }) := by
            rw [Hid, HSX.out, HSB.out]; unfold burnOne; rw [HT0.out, HLIT.out, if_pos rfl]
          have k81 : W8.drew.cell? ⟨b, 1, none⟩ = some (.slice a.AO S.order.length a.cO) := F8.out.blk.cell 1
          have k82 : W8.drew.cell? ⟨b, 2, none⟩ = some (.slice a.AD S.tree.length a.cD) := F8.out.blk.cell 2
          go_wp2_with fail
          have hz8d : w.heap.size + 2 ≤ W8.drew.heap.size := hz8
          have HB8d : Hid (Below (w.heap.size + 2) W1 W8.drew) := below_drewN HB8.out 1
          have FD : Hid (BtW W8.drew (w.heap.size + 2) b n { a with AS := A7, cS := c7 } { S with steps := S.steps ++ [e] }) := F8.out.keep (below_drewN (Below.refl _ _) 1)
          have ownO := own_lenH FD.out.order (nI_length S.order)
          have ownD := own_lenH FD.out.tree (nI_length S.tree)
          have BB := FD.out.blk
          have hol : S.order.length ≤ 1000 := by omega
          have htl2 : S.tree.length ≤ 1000 := by omega
          have HOB := Lib.hid (own_neB FD.out.order FD.out.blk (by decide))
          have HDB := Lib.hid (own_neB FD.out.tree FD.out.blk (by decide))
          have HOD := Lib.hid FD.out.oD
          have L1 : ∀ o, (W8.alloc o).cell? ⟨b, 1, none⟩ = some (.slice a.AO S.order.length a.cO) := fun o => (BB.alloc o).cell 1
          have L2 : ∀ o, (W8.alloc o).cell? ⟨b, 2, none⟩ = some (.slice a.AD S.tree.length a.cD) := fun o => (BB.alloc o).cell 2
          have M1 : ∀ o p, ((W8.alloc o).alloc p).cell? ⟨b, 1, none⟩ = some (.slice a.AO S.order.length a.cO) := fun o p => ((BB.alloc o).alloc p).cell 1
          have M2 : ∀ o p, ((W8.alloc o).alloc p).cell? ⟨b, 2, none⟩ = some (.slice a.AD S.tree.length a.cD) := fun o p => ((BB.alloc o).alloc p).cell 2
          have HLO : Hid (∀ k, blockOf a.AO k → k < W8.heap.size) := own_ltI FD.out.order
          have HDB' := Lib.hid (fun hc => own_neB FD.out.tree FD.out.blk (by decide) b hc rfl)
          have HNB := Lib.hid (fun hc => own_neB FD.out.order FD.out.blk (by decide) b hc rfl)
          have HB := Lib.hid BB
          have HOwnO := Lib.hid ownO
          have HOwnO2 : Hid (W8.ownsRow (w.heap.size + 2) 3 1 (.slice a.AO S.order.length a.cO) S.order.length (ints (nI S.order))) := ownO
          have HOwnD := Lib.hid FD.out.tree
          have hbs : b < W8.drew.heap.size := BB.lt
          have hz8e : w.heap.size + 2 ≤ W8.heap.size := hz8
          clear F8 hz8 F7 HB7 HLIT ownO ownD BB HDB HOB
          go_region_law (first
            | (refine append_step2 rfl (.tmp 64) (.tmp 66) _ _ rfl (w.heap.size + 2) 3 3 Tryz.underlying25 Tryz.underlying25 info_int rfl (by omega) a.AO a.cO S.order.length (ints (nI S.order)) rfl ?_ (W8.heap.size + 2) [.int .i64 (v : Int)] rfl ?_ (by simp [Value.oneCell']) (by omega) ?_ ?_
               · first | exact World.ownsRow.alloc HOwnO.out _ | exact World.ownsRow.alloc (World.ownsRow.alloc HOwnO.out _) _ | exact World.ownsRow.drew (World.ownsRow.alloc HOwnO2.out _) | exact World.ownsRow.drew (World.ownsRow.alloc (World.ownsRow.alloc HOwnO2.out _) _)
               · refine box_blk ?_ ?_
                 · first
                     | (refine Blk.drew (Blk.newF ?_); simp; done)
                     | (refine Blk.drew (Blk.alloc (Blk.newF ?_) _); rfl)
                     | (refine Blk.drew (Blk.alloc (Blk.newF ?_) _); simp; done)
                     | (refine Blk.newF ?_; simp; done)
                     | (refine Blk.newF ?_; rfl)
                     | (refine Blk.alloc (Blk.newF ?_) _; rfl)
                     | (refine Blk.alloc (Blk.newF ?_) _; simp; done)
                 · first | omega | (simp; done) | (simp; omega)
               · (simp; omega)
               intro A5 c5 w5 hown5 hg5 hb5 hd5
               have B5 := blk_grown HB.out (by first | exact ((Below.refl _ _).alloc (Nat.le_refl _) _) | exact (((Below.refl _ _).alloc (Nat.le_refl _) _).alloc (by simp) _)) hg5 HNB.out
               have D5 := Lib.hid (own_grownI HOwnD.out (by first | exact ((Below.refl _ _).alloc (Nat.le_refl _) _) | exact (((Below.refl _ _).alloc (Nat.le_refl _) _).alloc (by simp) _)) hg5 HOD.out)
               have hz5 : w.heap.size + 2 ≤ w5.heap.size := Nat.le_trans (by simp; omega) hg5.size
               have k52 : w5.cell? ⟨b, 2, none⟩ = some (.slice a.AD S.tree.length a.cD) := B5.cell 2
               have L52 : ∀ o, (w5.alloc o).cell? ⟨b, 2, none⟩ = some (.slice a.AD S.tree.length a.cD) := fun o => (B5.alloc o).cell 2
               have HB5 := Lib.hid B5)
            | (refine append_step2 rfl (.tmp 69) (.tmp 71) _ _ rfl (w.heap.size + 2) 3 3 Tryz.underlying25 Tryz.underlying25 info_int rfl (by omega) a.AD a.cD S.tree.length (ints (nI S.tree)) rfl ?_ (w5.heap.size + 1) [.int .i64 (e : Int)] rfl ?_ (by simp [Value.oneCell']) (by omega) ?_ ?_
               · first | exact own_lenH D5.out (nI_length S.tree) | exact World.ownsRow.alloc (own_lenH D5.out (nI_length S.tree)) _
               · first
                   | exact Reads.box _ _ _
                   | (refine box_grown2 (X := W8) ?_ ?_ HLO.out hg5
                      · first
                          | (refine Blk.drew (Blk.newF ?_); simp; done)
                          | (refine Blk.drew (Blk.alloc (Blk.newF ?_) _); rfl)
                          | (refine Blk.drew (Blk.alloc (Blk.newF ?_) _); simp; done)
                          | (refine Blk.newF ?_; simp; done)
                          | (refine Blk.alloc (Blk.newF ?_) _; rfl)
                          | (refine Blk.alloc (Blk.newF ?_) _; simp; done)
                      · first | exact Nat.le_refl _ | (simp; done) | (simp; omega))
               · first | exact hz5 | (simp; omega)
               intro A9 c9 w9 hown9 hg9 hb9 hd9
               have B9 := blk_grown HB5.out (by first | exact Below.refl _ _ | exact ((Below.refl _ _).alloc (Nat.le_refl _) _)) hg9 HDB'.out
               have fz91 := B9.frozen 1
               have fz92 := B9.frozen 2
               have k91 : w9.cell? ⟨b, 1, none⟩ = some (.slice a.AO S.order.length a.cO) := B9.cell 1
               have k92 : w9.cell? ⟨b, 2, none⟩ = some (.slice a.AD S.tree.length a.cD) := B9.cell 2))
          all_goals (
            have FL := Lib.hid (both_leaf FD.out hz8d (by first | exact (Below.refl _ _).alloc (Nat.le_refl _) _ | exact ((Below.refl _ _).alloc (Nat.le_refl _) _).alloc (by simp) _ | exact ((Below.refl _ _).alloc (Nat.le_refl _) _).drew | exact (((Below.refl _ _).alloc (Nat.le_refl _) _).alloc (by simp) _).drew) hown5 hg5 hb5 hd5 (by first | exact Below.refl _ _ | exact (Below.refl _ _).alloc (Nat.le_refl _) _) hown9 hg9 hb9 hd9)
            clear hown5 hg5 hb5 hd5 hown9 hg9 hb9 hd9 B5 D5 HB5 k52 L52 B9 fz91 fz92 k91 k92 L1 L2 M1 M2 k81 k82
            go_wp2
            go_roundw
            case rel => exact ⟨k + 1, by omega, by go_num, by rw [Hid, HNEW.out]; exact FL.out.1, HB8d.out.trans FL.out.2⟩
            case measure => simp [intOf]; omega)
    · obtain rfl : k = M := by omega
      have HFIN : Hid (runF E (ltQ cs) k (fire1 n q) = S) := HS.out
      go_wp2_with fail
      refine (SZ.out _ hBw).mono ?_
      rintro e w3 ⟨rfl, hb2⟩
      have BT3 := Lib.hid (BT.out.keep hb2)
      have rr3 := Lib.hid (rr.out.next hb2)
      have HB3 : Hid (Below (w.heap.size + 2) W1 w3) := HB.out.trans (hb2.mono hzr)
      have hz3 : w.heap.size + 2 ≤ w3.heap.size := Nat.le_trans hzr hb2.size
      have HTR : Hid (sortG ltI (nI S.tree) = nI (ascN k S.tree)) := sort_asc HFS.out.tnd (fun e he => by rw [← HM.out]; exact HFS.out.lt e (HFS.out.tsub e he))
      have SC : Hid (Calls Tryz.prog 88 #[.slice a.AD S.tree.length a.cD] w3 fun en w' => ∃ A' c', en = .returned (.slice A' S.tree.length c') ∧ OwnI w' w3.heap.size A' c' (nI (ascN k S.tree)) ∧ Below w3.heap.size w3 w') := by
        have := rsorted_any a.AD a.cD (nI S.tree) (by rw [nI_length]; omega) w3 (by rw [nI_length]; exact readsNB BT3.out.tree rfl)
        rw [HTR.out, nI_length] at this
        exact this
      have d2 : w3.cell? ⟨b, 2, none⟩ = some (.slice a.AD S.tree.length a.cD) := BT3.out.blk.cell 2
      go_wp2_with fail
      refine (SC.out).mono ?_
      rintro e w8 ⟨A8, c8, rfl, o8, hb8⟩
      have HAT : Hid ((ascN k S.tree).length = S.tree.length) := (asc_perm HFS.out.tnd (fun e he => by rw [← HM.out]; exact HFS.out.lt e (HFS.out.tsub e he))).length_eq
      have BT8 := BT3.out.keep hb8
      have rr8 := rr3.out.next hb8
      have fz8 := BT8.blk.frozen 2
      have b8 : Blk (w8.setCell ⟨b, 2, none⟩ (.slice A8 S.tree.length c8)) b 35 #[.slice a.AS S.steps.length a.cS, .slice a.AO S.order.length a.cO, .slice A8 S.tree.length c8, .slice (some ⟨a.gT, 0, none⟩) n n] := BT8.blk.set_ 2 (.slice A8 S.tree.length c8)
      have dx2 := BT8.blk.cell 2
      have nrb : w.heap.size + 1 ≠ b := by have := BT8.hb; omega
      have r8 : Blk (w8.setCell ⟨b, 2, none⟩ (.slice A8 S.tree.length c8)) (w.heap.size + 1) 35 #[.slice none 0 0, .slice none 0 0, .slice none 0 0, .slice none 0 0] := rr8.far (p := ⟨b, 2, none⟩) nrb _
      have e0 := b8.cell 0
      have e1 := b8.cell 1
      have e2 := b8.cell 2
      have e3 := b8.cell 3
      have f0 := r8.frozen 0
      have f1 := r8.frozen 1
      have f2 := r8.frozen 2
      have f3 := r8.frozen 3
      have q0 := r8.cell 0
      have q1 := r8.cell 1
      have q2 := r8.cell 2
      have q3 := r8.cell 3
      have ofs := (fin5 (BT8.steps.mono (by omega)) BT8.blk rr8 nrb (.slice A8 S.tree.length c8) (.slice a.AS S.steps.length a.cS) (.slice a.AO S.order.length a.cO) (.slice A8 S.tree.length c8) (.slice (some ⟨a.gT, 0, none⟩) n n) : OwnI _ w.heap.size _ _ _)
      have ofo := (fin5 (BT8.order.mono (by omega)) BT8.blk rr8 nrb (.slice A8 S.tree.length c8) (.slice a.AS S.steps.length a.cS) (.slice a.AO S.order.length a.cO) (.slice A8 S.tree.length c8) (.slice (some ⟨a.gT, 0, none⟩) n n) : OwnI _ w.heap.size _ _ _)
      have oft := (fin5 (BT8.times.mono (by omega)) BT8.blk rr8 nrb (.slice A8 S.tree.length c8) (.slice a.AS S.steps.length a.cS) (.slice a.AO S.order.length a.cO) (.slice A8 S.tree.length c8) (.slice (some ⟨a.gT, 0, none⟩) n n) : OwnI _ w.heap.size _ _ _)
      have ofd := (fin5 (o8.mono (by omega)) BT8.blk rr8 nrb (.slice A8 S.tree.length c8) (.slice a.AS S.steps.length a.cS) (.slice a.AO S.order.length a.cO) (.slice A8 S.tree.length c8) (.slice (some ⟨a.gT, 0, none⟩) n n) : OwnI _ w.heap.size _ _ _)
      have OFS := Lib.hid ofs
      have OFO := Lib.hid ofo
      have OFT := Lib.hid oft
      have OFD := Lib.hid ofd
      have HBF : Hid (Below w.heap.size w w8) := B1.out.trans ((HB3.out.trans (hb8.mono hz3)).mono (by omega))
      have HR8 := Lib.hid r8
      have hbb : w.heap.size ≤ b := by have := BT8.hb; omega
      clear ofs ofo oft ofd BT8 rr8 o8 hb8 b8 r8 d2
      go_wp2
      refine bodyPost_ret (results_rf rfl rfl ((((HR8.out.set_ 0 _).set_ 1 _).set_ 2 _).set_ 3 _) rfl) rfl ?_
      refine ⟨⟨a.AS, a.cS, a.AO, a.cO, A8, c8, a.gT⟩, { S with tree := ascN k S.tree }, ?_, ?_, OFS.out, OFO.out, OFD.out, OFT.out, ?_⟩
      · show _ = Ending.returned (.agg #[.slice a.AS S.steps.length a.cS, .slice a.AO S.order.length a.cO, .slice A8 (ascN k S.tree).length c8, .slice (some ⟨a.gT, 0, none⟩) n n])
        rw [HAT.out]; rfl
      · rw [Hid, HM.out, HFIN.out]
      · exact ((((HBF.out.setCell (p := ⟨b, 2, none⟩) hbb _).setCell (p := ⟨w.heap.size + 1, 0, none⟩) (by simp) _).setCell (p := ⟨w.heap.size + 1, 1, none⟩) (by simp) _).setCell (p := ⟨w.heap.size + 1, 2, none⟩) (by simp) _).setCell (p := ⟨w.heap.size + 1, 3, none⟩) (by simp) _

end Go.Proofs.YtghigdcpinengaaGreat

