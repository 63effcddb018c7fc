/-
 Texts of this claim, put together: BurntB, ActP, LitF, RSettled.
-/
import Derived.Test.YtnbikkcalcpedaaGreatDoorK29
import Derived.Test.YtnbikkcalcpedaaGreatDoorK12
import Derived.Test.YtnbikkcalcpedaaGreatDoorK26
import Derived.Test.YtnbikkcalcpedaaGreatDoorK08
import Derived.Test.YtnbikkcalcpedaaGreatDoorK17
import Derived.Deep.RegionHeld3
import Derived.Deep.CutBlock
import Derived.Deep.RegionLaw
import Derived.Test.YtnbikkcalcpedaaGreatDoorK30
import Derived.Test.YtnbikkcalcpedaaGreatDoorK25
set_option maxRecDepth 100000
set_option maxHeartbeats 16000000
namespace Go.Proofs.YtnbikkcalcpedaaGreatDoor
open Go.RowKit
theorem burntB_any (n q : Nat) (A : Option Addr) (c : Nat) (es : List E3) (hn : es.length ≤ 40) (hG : RightG n es) (hq : q < n) (B : Option Addr) (d : Nat) (t : List Nat) (htl : t.length ≤ 10000) (w : World) (h : Reads w w.heap.size 3 A es.length (edgeCells es)) (h' : Reads w w.heap.size 1 B t.length (ints (nI t))) :
  Calls Tryz.prog 204 #[.agg #[.int .i64 n, .slice A es.length c], .int .i64 q, .slice none 0 0, .slice B t.length d, .bool true] w fun e w' => ∃ (a : BtA) (X : FireS), e = .returned (.agg (btC n a X)) ∧ Hid (X = { runF (endsL es) (ltB t) (endsL es).length (fire1 n q) with tree := ascN (endsL es).length (runF (endsL es) (ltB t) (endsL es).length (fire1 n q)).tree }) ∧ OwnI w' w.heap.size a.AS a.cS (nI X.steps) ∧ OwnI w' w.heap.size a.AO a.cO (nI X.order) ∧ OwnI w' w.heap.size a.AD a.cD (nI X.tree) ∧ OwnI w' w.heap.size (some ⟨a.gT, 0, none⟩) n X.times ∧ Below w.heap.size w w' := by
 have hn12 : n ≤ 12 := by have := hG.hi; omega
 have hE := bd_ends hG
 have SZ : Hid (∀ W, Below w.heap.size w W → Calls Tryz.prog 20 #[.agg #[.int .i64 n, .slice A es.length c]] W fun e w' => e = .returned (.int .i64 ((endsL es).length : Nat)) ∧ Below W.heap.size W w') := by
  intro W hB
  have := rsize_any n A c es hn n hG.ok W ((h.below hB).more hB.size)
  rw [size_ends] at this
  exact this
 have NX := Lib.hid (fun (S : FireS) (hs1 : S.steps.length ≤ 10000) (hs2 : S.order.length ≤ 10000) (AS AO AD AT : Option Addr) (cS cO cD cT nD nT : Nat) (W : World) (hB : Below w.heap.size w W) (h1 : Reads W W.heap.size 1 AS S.steps.length (ints (nI S.steps))) (h2 : Reads W W.heap.size 1 AO S.order.length (ints (nI S.order))) => next30_any n A c es hn n hG.ok S hs1 hs2 AS AO AD AT cS cO cD cT nD nT W ((h.below hB).more hB.size) h1 h2)
 have hEl : (endsL es).length ≤ 2000 := by have := endsL_length (N := n) hG.ok; omega
 have hmi := make_ints n (by omega)
 obtain ⟨E, hEE⟩ : ∃ E, endsL es = E := ⟨_, rfl⟩
 rw [hEE] at SZ NX hE hEl ⊢
 have HE := Lib.hid hE
 have HFI : Hid (∀ k, FI E n q (runF E (ltB t) k (fire1 n q))) := fun k => run_inv (fun _ _ h hn => h.one hE hn) _ _ (.start hq)
 have HQ := Lib.hid hq
 have HH : Hid (∀ (v : Nat) (W : World), Below w.heap.size w W → Calls Tryz.prog 51 #[.slice B t.length d, .int .i64 (v : Int)] W fun r w' => r = .returned (.bool (ltB t 0 v 0)) ∧ W = w') := by
  intro v W hB
  have := holds_any B d (nI t) (by rw [nI_length]; omega) (v : Int) W (by rw [nI_length]; exact (h'.below hB).more hB.size)
  rw [nI_length, nI_mem] at this
  exact this
 -- the world behind the first allocations
 obtain ⟨W0, hW0⟩ : ∃ W0, ((((w.alloc (.cells #[.int .i64 n, .slice A es.length c] 24)).alloc (.cells #[.slice none 0 0, .slice none 0 0, .slice none 0 0, .slice none 0 0] 246)).alloc (.cells #[.int .i64 (q : Int)] 3)).alloc (.cells (ints (List.replicate n 0)).toArray 3)) = W0 := ⟨_, rfl⟩
 have G0 : Blk W0 w.heap.size 24 #[.int .i64 n, .slice A es.length c] := by rw [← hW0]; exact (((Blk.new w _ _).alloc _).alloc _).alloc _
 have R0 : Blk W0 (w.heap.size + 1) 246 #[.slice none 0 0, .slice none 0 0, .slice none 0 0, .slice none 0 0] := by rw [← hW0]; exact ((Blk.newF (by simp)).alloc _).alloc _
 have Q0 : Blk W0 (w.heap.size + 2) 3 #[.int .i64 (q : Int)] := by rw [← hW0]; exact (Blk.newF (by simp)).alloc _
 have T0 : Blk W0 (w.heap.size + 3) 3 (ints (List.replicate n 0)).toArray := by rw [← hW0]; exact Blk.newF (by simp)
 have Z0 : W0.heap.size = w.heap.size + 4 := by rw [← hW0]; simp
 have B0 : Below w.heap.size w W0 := by rw [← hW0]; exact ((((Below.refl _ _).alloc (Nat.le_refl _) _).alloc (by simp) _).alloc (by simp; omega) _).alloc (by simp; omega) _
 have HW0 := Lib.hid hW0
 clear hW0
 have c0 : ((w.alloc (.cells #[.int .i64 n, .slice A es.length c] 24)).alloc (.cells #[.slice none 0 0, .slice none 0 0, .slice none 0 0, .slice none 0 0] 246)).cell? ⟨w.heap.size, 0, none⟩ = some (.int .i64 n) := ((Blk.new w 24 #[.int .i64 n, .slice A es.length c]).alloc _).cell 0
 have c0b : (((w.alloc (.cells #[.int .i64 n, .slice A es.length c] 24)).alloc (.cells #[.slice none 0 0, .slice none 0 0, .slice none 0 0, .slice none 0 0] 246)).alloc (.cells #[.int .i64 (q : Int)] 3)).cell? ⟨w.heap.size, 0, none⟩ = some (.int .i64 n) := (((Blk.new w 24 #[.int .i64 n, .slice A es.length c]).alloc _).alloc _).cell 0
 clear h hG hE hEE hq htl
 go_enter Tryz.func204, Tryz.ntmps204
 go_wp2_with fail
 try rw [HW0.out]
 have Z0' := Lib.hid Z0
 obtain ⟨W1, hW1⟩ : ∃ W1, W0.alloc (.cells #[.slice none 0 0, .slice (some ⟨w.heap.size + 1 + 1, 0, none⟩) 1 1, .slice none 0 0, .slice (some ⟨w.heap.size + 1 + 1 + 1, 0, none⟩) n n] 246) = W1 := ⟨_, rfl⟩
 have hbs : Blk W1 (w.heap.size + 1 + 1 + 1 + 1) 246 (btC n ⟨none, 0, some ⟨w.heap.size + 1 + 1, 0, none⟩, 1, none, 0, w.heap.size + 1 + 1 + 1⟩ (fire1 n q)) := by rw [← hW1]; exact Blk.newF (by rw [Z0])
 have I1 : Hid (BtW W1 (w.heap.size + 2) (w.heap.size + 1 + 1 + 1 + 1) n ⟨none, 0, some ⟨w.heap.size + 1 + 1, 0, none⟩, 1, none, 0, w.heap.size + 1 + 1 + 1⟩ (fire1 n q)) := by
  have hq1 : Blk W1 (w.heap.size + 2) 3 (intCells [(q : Int)]) := by rw [← hW1]; exact Q0.alloc _
  have ht1 : Blk W1 (w.heap.size + 3) 3 (intCells (List.replicate n 0)) := by rw [← hW1]; exact T0.alloc _
  have o1 := OwnI.of_blk hq1 (base := w.heap.size + 2) (by omega) (by simp [maxLen])
  have o2 := OwnI.of_blk ht1 (base := w.heap.size + 2) (by omega) (by simp [maxLen]; omega)
  rw [List.length_replicate] at o2
  have nb : ∀ A : Option Addr, Dj A none := fun A k _ h => by obtain ⟨a, h, _⟩ := h; cases h
  have nb' : ∀ A : Option Addr, Dj none A := fun A k h _ => by obtain ⟨a, h, _⟩ := h; cases h
  refine { blk := hbs, hb := by omega, times := o2, tlen := by simp [fire1], steps := OwnI.nil_ _ _, order := o1, tree := OwnI.nil_ _ _, tS := nb _, tO := ?_, tD := nb _, sO := nb' _, sD := nb _, oD := nb _ }
  rintro k ⟨a, ha, rfl⟩ ⟨a', ha', hk⟩
  injection ha with ha; injection ha' with ha'
  subst ha; subst ha'
  simp at hk
 have G1 : Hid (Blk W1 w.heap.size 24 #[.int .i64 n, .slice A es.length c]) := by rw [← hW1]; exact G0.alloc _
 have R1 : Hid (Blk W1 (w.heap.size + 1) 246 #[.slice none 0 0, .slice none 0 0, .slice none 0 0, .slice none 0 0]) := by rw [← hW1]; exact R0.alloc _
 have B1 : Hid (Below w.heap.size w W1) := by rw [← hW1]; exact B0.alloc (by omega) _
 have ZZ1 : w.heap.size + 2 ≤ W1.heap.size := by rw [← hW1]; simp [Z0]
 try rw [hW1]
 obtain ⟨b, hb⟩ : ∃ b, w.heap.size + 1 + 1 + 1 + 1 = b := ⟨_, rfl⟩
 rw [hb] at I1
 try rw [hb]
 obtain ⟨M, hM⟩ : ∃ M, E.length = M := ⟨_, rfl⟩
 rw [hM] at SZ hEl
 try rw [hM]
 have HM := Lib.hid hM
 clear hW1 hbs G0 R0 Q0 T0 Z0 B0 c0 c0b hmi hb hM
 go_loopw [12] (fun i wr => ∃ k : Nat, k ≤ M ∧ i = .int .i64 k ∧ Hid (∃ a, BtW wr (w.heap.size + 2) b n a (runF E (ltB t) k (fire1 n q))) ∧ Hid (Below (w.heap.size + 2) W1 wr)) (fun i _ => M - (intOf i).toNat)
 case atStart => exact ⟨0, by omega, rfl, ⟨_, I1.out⟩, Below.refl _ _⟩
 case round =>
  obtain ⟨k, hk, rfl, HI, HB⟩ := hrel
  obtain ⟨a, bt⟩ := HI.out
  have hfi := HFI.out k
  have hzr : w.heap.size + 2 ≤ wr.heap.size := Nat.le_trans ZZ1 HB.out.size
  have g1 := G1.out.below HB.out (by omega)
  have rr := Lib.hid (R1.out.below HB.out (by omega))
  have hBw : Below w.heap.size w wr := B1.out.trans (HB.out.mono (by omega))
  have k0 := g1.cell 0
  have k1 := g1.cell 1
  have hstl : (runF E (ltB t) k (fire1 n q)).steps.length ≤ M := by
   have := nodup_sub_le hfi.nodup (m := List.range E.length) (fun x hx => List.mem_range.2 (hfi.lt x hx))
   rw [List.length_range, HM.out] at this; exact this
  have horl : (runF E (ltB t) k (fire1 n q)).order.length ≤ n := by
   have := nodup_sub_le hfi.ond (m := List.range n) (fun x hx => List.mem_range.2 (hfi.olt x hx))
   rw [List.length_range] at this; exact this
  have htrl : (runF E (ltB t) k (fire1 n q)).tree.length ≤ n := by have := hfi.onum; omega
  have HSX : Hid (runF E (ltB t) (k + 1) (fire1 n q) = stepF E (ltB t) (runF E (ltB t) k (fire1 n q))) := runF_succ _ _
  have HAL : Hid (nextF E (runF E (ltB t) k (fire1 n q)) = none → runF E (ltB t) M (fire1 n q) = runF E (ltB t) k (fire1 n q)) := fun h => run_all rfl hk h
  obtain ⟨S, hS⟩ : ∃ S, runF E (ltB t) k (fire1 n q) = S := ⟨_, rfl⟩
  rw [hS] at bt hfi hstl htrl horl HSX HAL
  have HS := Lib.hid hS
  have HFS := Lib.hid hfi
  have BT := Lib.hid bt
  clear hS HI hfi
  have hw1 : IntKind.i64.wrap ((k : Int) + 1) = (k : Int) + 1 := IntWalk.i64_in _ (by omega)
  by_cases hlt : k < M
  ·have hi : (k : Int) < (M : Int) := by omega
   go_wp2_with fail
   refine (SZ.out _ hBw).mono ?_
   rintro e w2 ⟨rfl, hb2⟩
   have BT2 := Lib.hid (BT.out.keep hb2)
   have g2 := g1.next hb2
   have rr2 := Lib.hid (rr.out.next hb2)
   have HB2 : Hid (Below (w.heap.size + 2) W1 w2) := HB.out.trans (hb2.mono hzr)
   have hBw2 : Below w.heap.size w w2 := B1.out.trans (HB2.out.mono (by omega))
   have hz2 : w.heap.size + 2 ≤ w2.heap.size := Nat.le_trans hzr hb2.size
   have k0 := g2.cell 0
   have k1 := g2.cell 1
   have d0 : w2.cell? ⟨b, 0, none⟩ = some (.slice a.AS S.steps.length a.cS) := BT2.out.blk.cell 0
   have d1 : w2.cell? ⟨b, 1, none⟩ = some (.slice a.AO S.order.length a.cO) := BT2.out.blk.cell 1
   have d2 : w2.cell? ⟨b, 2, none⟩ = some (.slice a.AD S.tree.length a.cD) := BT2.out.blk.cell 2
   have d3 : w2.cell? ⟨b, 3, none⟩ = some (.slice (some ⟨a.gT, 0, none⟩) n n) := BT2.out.blk.cell 3
   have NC := Lib.hid (NX.out S (by omega) (by omega) a.AS a.AO a.AD (some ⟨a.gT, 0, none⟩) a.cS a.cO a.cD n S.tree.length n w2 hBw2 (readsNB BT2.out.steps rfl) (readsNB BT2.out.order rfl))
   clear bt g1 hb2
   go_wp2_with fail
   refine (NC.out).mono ?_
   rintro e w3 ⟨rfl, hb3⟩
   have BT3 := Lib.hid (BT2.out.keep hb3)
   have g3 := g2.next hb3
   have rr3 := Lib.hid (rr2.out.next hb3)
   have HB3 : Hid (Below (w.heap.size + 2) W1 w3) := HB2.out.trans (hb3.mono hz2)
   have hz3 : w.heap.size + 2 ≤ w3.heap.size := Nat.le_trans hz2 hb3.size
   have k0 := g3.cell 0
   have k1 := g3.cell 1
   clear d0 d1 d2 d3 g2 hb3 NC
   rcases hnx : nextF E S with _ | e
   ·have h1 : nxE none = -1 := rfl
    try rw [hnx]
    have HNX := Lib.hid hnx
    clear hnx
    have HFIN : Hid (runF E (ltB t) M (fire1 n q) = S) := HAL.out HNX.out
    have HTR : Hid (sortG ltI (nI S.tree) = nI (ascN M S.tree)) := sort_asc HFS.out.tnd (fun e he => by rw [← HM.out]; exact HFS.out.lt e (HFS.out.tsub e he))
    have SC : Hid (Calls Tryz.prog 262 #[.slice a.AD S.tree.length a.cD] w3 fun en w' => ∃ A' c', en = .returned (.slice A' S.tree.length c') ∧ OwnI w' w3.heap.size A' c' (nI (ascN M S.tree)) ∧ Below w3.heap.size w3 w') := by
     have := rsorted_any a.AD a.cD (nI S.tree) (by rw [nI_length]; omega) w3 (by rw [nI_length]; exact readsNB BT3.out.tree rfl)
     rw [HTR.out, nI_length] at this
     exact this
    have d2 : w3.cell? ⟨b, 2, none⟩ = some (.slice a.AD S.tree.length a.cD) := BT3.out.blk.cell 2
    go_wp2_with fail
    refine (SC.out).mono ?_
    rintro e w8 ⟨A8, c8, rfl, o8, hb8⟩
    have HAT : Hid ((ascN M S.tree).length = S.tree.length) := (asc_perm HFS.out.tnd (fun e he => by rw [← HM.out]; exact HFS.out.lt e (HFS.out.tsub e he))).length_eq
    have BT8 := BT3.out.keep hb8
    have rr8 := rr3.out.next hb8
    have fz8 := BT8.blk.frozen 2
    have b8 : Blk (w8.setCell ⟨b, 2, none⟩ (.slice A8 S.tree.length c8)) b 246 #[.slice a.AS S.steps.length a.cS, .slice a.AO S.order.length a.cO, .slice A8 S.tree.length c8, .slice (some ⟨a.gT, 0, none⟩) n n] := BT8.blk.set_ 2 (.slice A8 S.tree.length c8)
    have dx2 := BT8.blk.cell 2
    have nrb : w.heap.size + 1 ≠ b := by have := BT8.hb; omega
    have r8 : Blk (w8.setCell ⟨b, 2, none⟩ (.slice A8 S.tree.length c8)) (w.heap.size + 1) 246 #[.slice none 0 0, .slice none 0 0, .slice none 0 0, .slice none 0 0] := rr8.far (p := ⟨b, 2, none⟩) nrb _
    have e0 := b8.cell 0
    have e1 := b8.cell 1
    have e2 := b8.cell 2
    have e3 := b8.cell 3
    have f0 := r8.frozen 0
    have f1 := r8.frozen 1
    have f2 := r8.frozen 2
    have f3 := r8.frozen 3
    have q0 := r8.cell 0
    have q1 := r8.cell 1
    have q2 := r8.cell 2
    have q3 := r8.cell 3
    have ofs := (fin5 (BT8.steps.mono (by omega)) BT8.blk rr8 nrb (.slice A8 S.tree.length c8) (.slice a.AS S.steps.length a.cS) (.slice a.AO S.order.length a.cO) (.slice A8 S.tree.length c8) (.slice (some ⟨a.gT, 0, none⟩) n n) : OwnI _ w.heap.size _ _ _)
    have ofo := (fin5 (BT8.order.mono (by omega)) BT8.blk rr8 nrb (.slice A8 S.tree.length c8) (.slice a.AS S.steps.length a.cS) (.slice a.AO S.order.length a.cO) (.slice A8 S.tree.length c8) (.slice (some ⟨a.gT, 0, none⟩) n n) : OwnI _ w.heap.size _ _ _)
    have oft := (fin5 (BT8.times.mono (by omega)) BT8.blk rr8 nrb (.slice A8 S.tree.length c8) (.slice a.AS S.steps.length a.cS) (.slice a.AO S.order.length a.cO) (.slice A8 S.tree.length c8) (.slice (some ⟨a.gT, 0, none⟩) n n) : OwnI _ w.heap.size _ _ _)
    have ofd := (fin5 (o8.mono (by omega)) BT8.blk rr8 nrb (.slice A8 S.tree.length c8) (.slice a.AS S.steps.length a.cS) (.slice a.AO S.order.length a.cO) (.slice A8 S.tree.length c8) (.slice (some ⟨a.gT, 0, none⟩) n n) : OwnI _ w.heap.size _ _ _)
    have OFS := Lib.hid ofs
    have OFO := Lib.hid ofo
    have OFT := Lib.hid oft
    have OFD := Lib.hid ofd
    have HBF : Hid (Below w.heap.size w w8) := B1.out.trans ((HB3.out.trans (hb8.mono hz3)).mono (by omega))
    have HR8 := Lib.hid r8
    have hbb : w.heap.size ≤ b := by have := BT8.hb; omega
    clear ofs ofo oft ofd BT8 rr8 o8 hb8 b8 r8 d2
    go_wp2
    refine bodyPost_ret (results_rf rfl rfl ((((HR8.out.set_ 0 _).set_ 1 _).set_ 2 _).set_ 3 _) rfl) rfl ?_
    refine ⟨⟨a.AS, a.cS, a.AO, a.cO, A8, c8, a.gT⟩, { S with tree := ascN M S.tree }, ?_, ?_, OFS.out, OFO.out, OFD.out, OFT.out, ?_⟩
    ·show _ = Ending.returned (.agg #[.slice a.AS S.steps.length a.cS, .slice a.AO S.order.length a.cO, .slice A8 (ascN M S.tree).length c8, .slice (some ⟨a.gT, 0, none⟩) n n])
     rw [HAT.out]; rfl
    ·rw [Hid, HM.out, HFIN.out]
    ·exact ((((HBF.out.setCell (p := ⟨b, 2, none⟩) hbb _).setCell (p := ⟨w.heap.size + 1, 0, none⟩) (by simp) _).setCell (p := ⟨w.heap.size + 1, 1, none⟩) (by simp) _).setCell (p := ⟨w.heap.size + 1, 2, none⟩) (by simp) _).setCell (p := ⟨w.heap.size + 1, 3, none⟩) (by simp) _
   ·obtain ⟨l1, l2, l3, l4, l5, l6⟩ := lead_facts HE.out hnx
    have HV : Hid (nxV E S (some e) = ((leadV E S e : Nat) : Int)) := rfl
    have HNE : Hid (nxE (some e) = ((e : Nat) : Int)) := rfl
    have HSB : Hid (stepF E (ltB t) S = burnOne (ltB t) S e (leadV E S e)) := run_next hnx
    rw [HNE.out, HV.out]
    obtain ⟨v, hv⟩ : ∃ v, leadV E S e = v := ⟨_, rfl⟩
    rw [hv] at l3 l4 l5 l6 HSB
    rw [hv]
    have HLV := Lib.hid hv
    have HNX := Lib.hid hnx
    have htl := HFS.out.tlen
    obtain ⟨tv, htv⟩ := get_of_lt (xs := S.times) (k := v) (by omega)
    have ht0 : S.times.getD v 0 = tv := getD_at htv
    have htb : 0 ≤ tv ∧ tv ≤ 2000 := by
     have h1 := HFS.out.nn v
     have h2 := HFS.out.cnt v l6 l4
     have h3 := List.length_filter_le (incB E v) S.steps
     rw [ht0] at h1 h2
     omega
    obtain ⟨htb0, htb1⟩ := htb
    have HT0 := Lib.hid ht0
    have HTV := Lib.hid htv
    have HL4 := Lib.hid l4
    have HL5 := Lib.hid l5
    have hvi : (v : Int) < (n : Int) := by omega
    have hnn : ¬ ((e : Int) < 0) := by omega
    have own0 := own_lenH BT3.out.steps (nI_length S.steps)
    have hrb := Reads.box w3 (.int .i64 (e : Int)) 3
    have kb0 : w3.cell? ⟨b, 0, none⟩ = some (.slice a.AS S.steps.length a.cS) := BT3.out.blk.cell 0
    clear hv hnx htl ht0 htv l1 l2 l3 l4 l5
    go_wp2_with (first | (at_builtin; refine append_go rfl (.tmp 36) (.tmp 38) _ rfl (w.heap.size + 2) 3 Tryz.underlying25 info_int rfl (by omega) a.AS a.cS S.steps.length (ints (nI S.steps)) rfl (World.ownsRow.alloc own0 _) (w3.heap.size + 1) [.int .i64 (e : Int)] rfl hrb (by simp [Value.oneCell']) (by omega) (by simp; omega) ?_; intro A7 c7 w7 hown7 hg7 hb7 hd7; have b7 : Blk w7 b 246 (btC n a S) := (hg7.block b (by have h1 := BT3.out.blk.lt; simp; omega) (fun e => own_neB BT3.out.steps BT3.out.blk (by decide) b (blockOf_own.1 e.symm) rfl)).trans (BT3.out.blk.alloc _); have fz7 := b7.frozen 0; have kc7 : w7.cell? ⟨b, 0, none⟩ = some (.slice a.AS S.steps.length a.cS) := b7.cell 0) | fail)
    have hA7 : ∀ k, blockOf A7 k → blockOf a.AS k ∨ w3.heap.size ≤ k := by
     intro k hk
     have hk2 : (Value.slice A7 (S.steps.length + 1) c7).ownBlock = some k := blockOf_own.2 hk
     rcases hd7 with hd7 | hd7
     ·rw [hd7] at hk2; exact .inl (blockOf_own.1 hk2)
     ·rw [hd7] at hk2; injection hk2 with hk2; subst hk2; refine .inr ?_; simp
    have o7 : OwnI w7 (w.heap.size + 2) A7 c7 (nI (S.steps ++ [e])) := by
     unfold OwnI; rw [nI_length, List.length_append]
     have : ints (nI (S.steps ++ [e])) = ints (nI S.steps) ++ [.int .i64 (e : Int)] := by simp [nI, ints]
     rw [this]; exact hown7
    have F7 := Lib.hid (BT3.out.step (x := S.steps.length) hg7 o7 hA7)
    have B7 : Hid (Below (w.heap.size + 2) w3 (w7.setCell ⟨b, 0, none⟩ (.slice A7 (S.steps.length + 1) c7))) := ((((Below.refl _ w3).alloc hz3 (.cells #[.int .i64 (e : Int)] 3)).trans hb7).setCell (p := ⟨b, 0, none⟩) BT3.out.hb _)
    obtain ⟨W7, hW7⟩ : ∃ W, (w7.setCell ⟨b, 0, none⟩ (.slice A7 (S.steps.length + 1) c7)) = W := ⟨_, rfl⟩
    rw [hW7] at F7 B7
    have HB7 : Hid (Below (w.heap.size + 2) W1 W7) := HB3.out.trans B7.out
    have hz7 : w.heap.size + 2 ≤ W7.heap.size := Nat.le_trans hz3 B7.out.size
    have k73 : W7.cell? ⟨b, 3, none⟩ = some (.slice (some ⟨a.gT, 0, none⟩) n n) := F7.out.blk.cell 3
    have kt : W7.cell? ⟨a.gT, v, none⟩ = some (.int .i64 tv) := (F7.out.times.at_ (by show 0 < S.times.length; have := HFS.out.tlen; omega)).2.2.2 v tv HTV.out
    clear hown7 hg7 hb7 hd7 b7 fz7 kc7 o7 hA7 own0 hrb kb0
    try rw [hW7]
    clear hW7
    have hBw7 : Below w.heap.size w W7 := B1.out.trans (HB7.out.mono (by omega))
    have HLIT : Hid (ltB t v e tv = ltB t 0 e 0) := rfl
    have HH7 := fun m => (HH.out e (W7.drewN m) (below_drewN hBw7 m)).mono fun _ _ h => (⟨h.1, h.2.symm⟩ : _ ∧ _ = W7.drewN m)
    obtain ⟨r, hr⟩ : ∃ r, ltB t 0 e 0 = r := ⟨_, rfl⟩
    rw [hr] at HLIT HH7
    have HH7 := Lib.hid HH7
    clear hr
    cases r
    ·go_quiet ((go_at_call 51; exact Calls.quiet_of_same (HH7.out _)))
     clear kt
     have F8 := Lib.hid (F7.out.keep (w' := W7.drewN nq) (below_drewN (Below.refl _ _) nq))
     have HB8 : Hid (Below (w.heap.size + 2) W1 (W7.drewN nq)) := below_drewN HB7.out nq
     have hz8 : w.heap.size + 2 ≤ (W7.drewN nq).heap.size := hz7
     obtain ⟨W8, hW8⟩ : ∃ W, W7.drewN nq = W := ⟨_, rfl⟩
     rw [hW8] at F8 HB8 hz8
     try rw [hW8]
     clear hW8 k73
     have HNEW : Hid (runF E (ltB t) (k + 1) (fire1 n q) = { steps := S.steps ++ [e], order := S.order, tree := S.tree, times := S.times.set v (tv + 1) }) := by
      rw [Hid, HSX.out, HSB.out]; unfold burnOne; rw [HT0.out, HLIT.out, if_neg (by decide)]
     have k83 : W8.cell? ⟨b, 3, none⟩ = some (.slice (some ⟨a.gT, 0, none⟩) n n) := F8.out.blk.cell 3
     have tt8 := F8.out.times.at_ (by show 0 < S.times.length; have := HFS.out.tlen; omega)
     have kt8 : W8.cell? ⟨a.gT, v, none⟩ = some (.int .i64 tv) := tt8.2.2.2 v tv HTV.out
     have fz8 : W8.frozen? ⟨a.gT, v, none⟩ = false := tt8.2.2.1 v
     have ZT : w.heap.size + 2 ≤ a.gT := tt8.1
     clear tt8
     have hw2 : IntKind.i64.wrap (tv + 1) = tv + 1 := IntWalk.i64_in _ (by omega)
     go_wp2_with fail
     refine region_tail 10 (by kernel_rfl) (by kernel_rfl) ?_
     simp only [List.take_succ_cons, List.take_zero, List.drop_succ_cons, List.drop_zero]
     repeat still_step
     refine wpStill_nil ?_
     go_wp2
     have F9 := Lib.hid ((F8.out.keep (w' := W8.drew) (below_drewN (Below.refl _ _) 1)).time v (tv + 1))
     have HB9 : Hid (Below (w.heap.size + 2) W1 (W8.drew.setCell ⟨a.gT, v, none⟩ (.int .i64 (tv + 1)))) := (below_drewN HB8.out 1).setCell (p := ⟨a.gT, v, none⟩) ZT _
     go_roundw
     case rel => exact ⟨k + 1, by omega, by go_num, ⟨_, by rw [HNEW.out]; exact F9.out⟩, HB9.out⟩
     case measure => simp [intOf]; omega
    ·go_quiet ((go_at_call 51; exact Calls.quiet_of_same (HH7.out _)))
     clear kt
     have F8 := Lib.hid (F7.out.keep (w' := W7.drewN nq) (below_drewN (Below.refl _ _) nq))
     have HB8 : Hid (Below (w.heap.size + 2) W1 (W7.drewN nq)) := below_drewN HB7.out nq
     have hz8 : w.heap.size + 2 ≤ (W7.drewN nq).heap.size := hz7
     obtain ⟨W8, hW8⟩ : ∃ W, W7.drewN nq = W := ⟨_, rfl⟩
     rw [hW8] at F8 HB8 hz8
     try rw [hW8]
     clear hW8 k73
     have HNEW : Hid (runF E (ltB t) (k + 1) (fire1 n q) = { steps := S.steps ++ [e], order := S.order ++ [v], tree := S.tree ++ [e], times := S.times }) := by
      rw [Hid, HSX.out, HSB.out]; unfold burnOne; rw [HT0.out, HLIT.out, if_pos rfl]
     have k81 : W8.drew.cell? ⟨b, 1, none⟩ = some (.slice a.AO S.order.length a.cO) := F8.out.blk.cell 1
     have k82 : W8.drew.cell? ⟨b, 2, none⟩ = some (.slice a.AD S.tree.length a.cD) := F8.out.blk.cell 2
     go_wp2_with fail
     have hz8d : w.heap.size + 2 ≤ W8.drew.heap.size := hz8
     have HB8d : Hid (Below (w.heap.size + 2) W1 W8.drew) := below_drewN HB8.out 1
     have FD : Hid (BtW W8.drew (w.heap.size + 2) b n { a with AS := A7, cS := c7 } { S with steps := S.steps ++ [e] }) := F8.out.keep (below_drewN (Below.refl _ _) 1)
     have ownO := own_lenH FD.out.order (nI_length S.order)
     have ownD := own_lenH FD.out.tree (nI_length S.tree)
     have BB := FD.out.blk
     have hol : S.order.length ≤ 1000 := by omega
     have htl2 : S.tree.length ≤ 1000 := by omega
     have HOB := Lib.hid (own_neB FD.out.order FD.out.blk (by decide))
     have HDB := Lib.hid (own_neB FD.out.tree FD.out.blk (by decide))
     have HOD := Lib.hid FD.out.oD
     have L1 : ∀ o, (W8.alloc o).cell? ⟨b, 1, none⟩ = some (.slice a.AO S.order.length a.cO) := fun o => (BB.alloc o).cell 1
     have L2 : ∀ o, (W8.alloc o).cell? ⟨b, 2, none⟩ = some (.slice a.AD S.tree.length a.cD) := fun o => (BB.alloc o).cell 2
     have M1 : ∀ o p, ((W8.alloc o).alloc p).cell? ⟨b, 1, none⟩ = some (.slice a.AO S.order.length a.cO) := fun o p => ((BB.alloc o).alloc p).cell 1
     have M2 : ∀ o p, ((W8.alloc o).alloc p).cell? ⟨b, 2, none⟩ = some (.slice a.AD S.tree.length a.cD) := fun o p => ((BB.alloc o).alloc p).cell 2
     have HLO : Hid (∀ k, blockOf a.AO k → k < W8.heap.size) := own_ltI FD.out.order
     have HDB' := Lib.hid (fun hc => own_neB FD.out.tree FD.out.blk (by decide) b hc rfl)
     have HNB := Lib.hid (fun hc => own_neB FD.out.order FD.out.blk (by decide) b hc rfl)
     have HB := Lib.hid BB
     have HOwnO := Lib.hid ownO
     have HOwnO2 : Hid (W8.ownsRow (w.heap.size + 2) 3 1 (.slice a.AO S.order.length a.cO) S.order.length (ints (nI S.order))) := ownO
     have HOwnD := Lib.hid FD.out.tree
     have hbs : b < W8.drew.heap.size := BB.lt
     have hz8e : w.heap.size + 2 ≤ W8.heap.size := hz8
     clear F8 hz8 F7 HB7 HLIT ownO ownD BB HDB HOB
     go_region_law (first
      | (refine append_step2 rfl (.tmp 64) (.tmp 66) _ _ rfl (w.heap.size + 2) 3 3 Tryz.underlying25 Tryz.underlying25 info_int rfl (by omega) a.AO a.cO S.order.length (ints (nI S.order)) rfl ?_ (W8.heap.size + 2) [.int .i64 (v : Int)] rfl ?_ (by simp [Value.oneCell']) (by omega) ?_ ?_
         ·first | exact World.ownsRow.alloc HOwnO.out _ | exact World.ownsRow.alloc (World.ownsRow.alloc HOwnO.out _) _ | exact World.ownsRow.drew (World.ownsRow.alloc HOwnO2.out _) | exact World.ownsRow.drew (World.ownsRow.alloc (World.ownsRow.alloc HOwnO2.out _) _)
         ·refine box_blk ?_ ?_
          ·first
            | (refine Blk.drew (Blk.newF ?_); simp; done)
            | (refine Blk.drew (Blk.alloc (Blk.newF ?_) _); rfl)
            | (refine Blk.drew (Blk.alloc (Blk.newF ?_) _); simp; done)
            | (refine Blk.newF ?_; simp; done)
            | (refine Blk.newF ?_; rfl)
            | (refine Blk.alloc (Blk.newF ?_) _; rfl)
            | (refine Blk.alloc (Blk.newF ?_) _; simp; done)
          ·first | omega | (simp; done) | (simp; omega)
         ·(simp; omega)
         intro A5 c5 w5 hown5 hg5 hb5 hd5
         have B5 := blk_grown HB.out (by first | exact ((Below.refl _ _).alloc (Nat.le_refl _) _) | exact (((Below.refl _ _).alloc (Nat.le_refl _) _).alloc (by simp) _)) hg5 HNB.out
         have D5 := Lib.hid (own_grownI HOwnD.out (by first | exact ((Below.refl _ _).alloc (Nat.le_refl _) _) | exact (((Below.refl _ _).alloc (Nat.le_refl _) _).alloc (by simp) _)) hg5 HOD.out)
         have hz5 : w.heap.size + 2 ≤ w5.heap.size := Nat.le_trans (by simp; omega) hg5.size
         have k52 : w5.cell? ⟨b, 2, none⟩ = some (.slice a.AD S.tree.length a.cD) := B5.cell 2
         have L52 : ∀ o, (w5.alloc o).cell? ⟨b, 2, none⟩ = some (.slice a.AD S.tree.length a.cD) := fun o => (B5.alloc o).cell 2
         have HB5 := Lib.hid B5)
      | (refine append_step2 rfl (.tmp 69) (.tmp 71) _ _ rfl (w.heap.size + 2) 3 3 Tryz.underlying25 Tryz.underlying25 info_int rfl (by omega) a.AD a.cD S.tree.length (ints (nI S.tree)) rfl ?_ (w5.heap.size + 1) [.int .i64 (e : Int)] rfl ?_ (by simp [Value.oneCell']) (by omega) ?_ ?_
         ·first | exact own_lenH D5.out (nI_length S.tree) | exact World.ownsRow.alloc (own_lenH D5.out (nI_length S.tree)) _
         ·first
           | exact Reads.box _ _ _
           | (refine box_grown2 (X := W8) ?_ ?_ HLO.out hg5
              ·first
                | (refine Blk.drew (Blk.newF ?_); simp; done)
                | (refine Blk.drew (Blk.alloc (Blk.newF ?_) _); rfl)
                | (refine Blk.drew (Blk.alloc (Blk.newF ?_) _); simp; done)
                | (refine Blk.newF ?_; simp; done)
                | (refine Blk.alloc (Blk.newF ?_) _; rfl)
                | (refine Blk.alloc (Blk.newF ?_) _; simp; done)
              ·first | exact Nat.le_refl _ | (simp; done) | (simp; omega))
         ·first | exact hz5 | (simp; omega)
         intro A9 c9 w9 hown9 hg9 hb9 hd9
         have B9 := blk_grown HB5.out (by first | exact Below.refl _ _ | exact ((Below.refl _ _).alloc (Nat.le_refl _) _)) hg9 HDB'.out
         have fz91 := B9.frozen 1
         have fz92 := B9.frozen 2
         have k91 : w9.cell? ⟨b, 1, none⟩ = some (.slice a.AO S.order.length a.cO) := B9.cell 1
         have k92 : w9.cell? ⟨b, 2, none⟩ = some (.slice a.AD S.tree.length a.cD) := B9.cell 2))
     all_goals (
      have FL := Lib.hid (both_leaf FD.out hz8d (by first | exact (Below.refl _ _).alloc (Nat.le_refl _) _ | exact ((Below.refl _ _).alloc (Nat.le_refl _) _).alloc (by simp) _ | exact ((Below.refl _ _).alloc (Nat.le_refl _) _).drew | exact (((Below.refl _ _).alloc (Nat.le_refl _) _).alloc (by simp) _).drew) hown5 hg5 hb5 hd5 (by first | exact Below.refl _ _ | exact (Below.refl _ _).alloc (Nat.le_refl _) _) hown9 hg9 hb9 hd9)
      clear hown5 hg5 hb5 hd5 hown9 hg9 hb9 hd9 B5 D5 HB5 k52 L52 B9 fz91 fz92 k91 k92 L1 L2 M1 M2 k81 k82
      go_wp2
      go_roundw
      case rel => exact ⟨k + 1, by omega, by go_num, by rw [Hid, HNEW.out]; exact FL.out.1, HB8d.out.trans FL.out.2⟩
      case measure => simp [intOf]; omega)
  ·obtain rfl : k = M := by omega
   have HFIN : Hid (runF E (ltB t) k (fire1 n q) = S) := HS.out
   go_wp2_with fail
   refine (SZ.out _ hBw).mono ?_
   rintro e w3 ⟨rfl, hb2⟩
   have BT3 := Lib.hid (BT.out.keep hb2)
   have rr3 := Lib.hid (rr.out.next hb2)
   have HB3 : Hid (Below (w.heap.size + 2) W1 w3) := HB.out.trans (hb2.mono hzr)
   have hz3 : w.heap.size + 2 ≤ w3.heap.size := Nat.le_trans hzr hb2.size
   have HTR : Hid (sortG ltI (nI S.tree) = nI (ascN k S.tree)) := sort_asc HFS.out.tnd (fun e he => by rw [← HM.out]; exact HFS.out.lt e (HFS.out.tsub e he))
   have SC : Hid (Calls Tryz.prog 262 #[.slice a.AD S.tree.length a.cD] w3 fun en w' => ∃ A' c', en = .returned (.slice A' S.tree.length c') ∧ OwnI w' w3.heap.size A' c' (nI (ascN k S.tree)) ∧ Below w3.heap.size w3 w') := by
    have := rsorted_any a.AD a.cD (nI S.tree) (by rw [nI_length]; omega) w3 (by rw [nI_length]; exact readsNB BT3.out.tree rfl)
    rw [HTR.out, nI_length] at this
    exact this
   have d2 : w3.cell? ⟨b, 2, none⟩ = some (.slice a.AD S.tree.length a.cD) := BT3.out.blk.cell 2
   go_wp2_with fail
   refine (SC.out).mono ?_
   rintro e w8 ⟨A8, c8, rfl, o8, hb8⟩
   have HAT : Hid ((ascN k S.tree).length = S.tree.length) := (asc_perm HFS.out.tnd (fun e he => by rw [← HM.out]; exact HFS.out.lt e (HFS.out.tsub e he))).length_eq
   have BT8 := BT3.out.keep hb8
   have rr8 := rr3.out.next hb8
   have fz8 := BT8.blk.frozen 2
   have b8 : Blk (w8.setCell ⟨b, 2, none⟩ (.slice A8 S.tree.length c8)) b 246 #[.slice a.AS S.steps.length a.cS, .slice a.AO S.order.length a.cO, .slice A8 S.tree.length c8, .slice (some ⟨a.gT, 0, none⟩) n n] := BT8.blk.set_ 2 (.slice A8 S.tree.length c8)
   have dx2 := BT8.blk.cell 2
   have nrb : w.heap.size + 1 ≠ b := by have := BT8.hb; omega
   have r8 : Blk (w8.setCell ⟨b, 2, none⟩ (.slice A8 S.tree.length c8)) (w.heap.size + 1) 246 #[.slice none 0 0, .slice none 0 0, .slice none 0 0, .slice none 0 0] := rr8.far (p := ⟨b, 2, none⟩) nrb _
   have e0 := b8.cell 0
   have e1 := b8.cell 1
   have e2 := b8.cell 2
   have e3 := b8.cell 3
   have f0 := r8.frozen 0
   have f1 := r8.frozen 1
   have f2 := r8.frozen 2
   have f3 := r8.frozen 3
   have q0 := r8.cell 0
   have q1 := r8.cell 1
   have q2 := r8.cell 2
   have q3 := r8.cell 3
   have ofs := (fin5 (BT8.steps.mono (by omega)) BT8.blk rr8 nrb (.slice A8 S.tree.length c8) (.slice a.AS S.steps.length a.cS) (.slice a.AO S.order.length a.cO) (.slice A8 S.tree.length c8) (.slice (some ⟨a.gT, 0, none⟩) n n) : OwnI _ w.heap.size _ _ _)
   have ofo := (fin5 (BT8.order.mono (by omega)) BT8.blk rr8 nrb (.slice A8 S.tree.length c8) (.slice a.AS S.steps.length a.cS) (.slice a.AO S.order.length a.cO) (.slice A8 S.tree.length c8) (.slice (some ⟨a.gT, 0, none⟩) n n) : OwnI _ w.heap.size _ _ _)
   have oft := (fin5 (BT8.times.mono (by omega)) BT8.blk rr8 nrb (.slice A8 S.tree.length c8) (.slice a.AS S.steps.length a.cS) (.slice a.AO S.order.length a.cO) (.slice A8 S.tree.length c8) (.slice (some ⟨a.gT, 0, none⟩) n n) : OwnI _ w.heap.size _ _ _)
   have ofd := (fin5 (o8.mono (by omega)) BT8.blk rr8 nrb (.slice A8 S.tree.length c8) (.slice a.AS S.steps.length a.cS) (.slice a.AO S.order.length a.cO) (.slice A8 S.tree.length c8) (.slice (some ⟨a.gT, 0, none⟩) n n) : OwnI _ w.heap.size _ _ _)
   have OFS := Lib.hid ofs
   have OFO := Lib.hid ofo
   have OFT := Lib.hid oft
   have OFD := Lib.hid ofd
   have HBF : Hid (Below w.heap.size w w8) := B1.out.trans ((HB3.out.trans (hb8.mono hz3)).mono (by omega))
   have HR8 := Lib.hid r8
   have hbb : w.heap.size ≤ b := by have := BT8.hb; omega
   clear ofs ofo oft ofd BT8 rr8 o8 hb8 b8 r8 d2
   go_wp2
   refine bodyPost_ret (results_rf rfl rfl ((((HR8.out.set_ 0 _).set_ 1 _).set_ 2 _).set_ 3 _) rfl) rfl ?_
   refine ⟨⟨a.AS, a.cS, a.AO, a.cO, A8, c8, a.gT⟩, { S with tree := ascN k S.tree }, ?_, ?_, OFS.out, OFO.out, OFD.out, OFT.out, ?_⟩
   ·show _ = Ending.returned (.agg #[.slice a.AS S.steps.length a.cS, .slice a.AO S.order.length a.cO, .slice A8 (ascN k S.tree).length c8, .slice (some ⟨a.gT, 0, none⟩) n n])
    rw [HAT.out]; rfl
   ·rw [Hid, HM.out, HFIN.out]
   ·exact ((((HBF.out.setCell (p := ⟨b, 2, none⟩) hbb _).setCell (p := ⟨w.heap.size + 1, 0, none⟩) (by simp) _).setCell (p := ⟨w.heap.size + 1, 1, none⟩) (by simp) _).setCell (p := ⟨w.heap.size + 1, 2, none⟩) (by simp) _).setCell (p := ⟨w.heap.size + 1, 3, none⟩) (by simp) _
end Go.Proofs.YtnbikkcalcpedaaGreatDoor
namespace Go.Proofs.YtnbikkcalcpedaaGreatDoor
section
variable {n : Nat} {E : List (Nat × Nat)} {t : List Nat} {e f : Nat}
end
end Go.Proofs.YtnbikkcalcpedaaGreatDoor
namespace Go.Proofs.YtnbikkcalcpedaaGreatDoor
open Go.RowKit
theorem Blk.newL {w : World} {g : Nat} {t : TypeId} {cs : Array Value} (hg : g = w.heap.size) : Blk (w.alloc (.cells cs t)) g t cs := by subst hg; exact Blk.new w t cs
theorem own_made {wx : World} {n g base : Nat} (hb : Blk wx g 3 (ints (List.replicate n 0)).toArray) (hg : base ≤ g) (hn : n ≤ 12) : OwnI wx base (some ⟨g, 0, none⟩) n (List.replicate n 0) := by
 have := OwnI.of_blk (l := List.replicate n 0) hb hg (by simp only [List.length_replicate, maxLen]; omega)
 rw [List.length_replicate] at this
 exact this
theorem fire_leaf {wx : World} {n base bp gB gT cr : Nat} {Ar : Option Addr} {lv : Value} {E : List (Nat × Nat)}
  (hp : Blk wx bp 242 #[.slice Ar E.length cr, lv, .slice (some ⟨gB, 0, none⟩) n n, .slice (some ⟨gT, 0, none⟩) n n, .slice none 0 0, .slice none 0 0, .slice none 0 0, .slice none 0 0])
  (hE : Reads wx base 2 Ar E.length (pair2 E)) (hB : Blk wx gB 4 (bools (List.replicate n false))) (hT : Blk wx gT 3 (ints (List.replicate n 0)).toArray) (h1 : base ≤ bp) (h2 : base ≤ gB) (h3 : base ≤ gT) (hn : n ≤ 12) :
  ∃ a, FireW wx base bp E n lv a (fire0 n) [] := by
 refine ⟨⟨Ar, cr, gB, gT, none, 0, none, 0, none, 0, none, 0⟩, ?_⟩
 have hb : bntL n [] = List.replicate n false := by
  apply List.ext_getElem (by simp [bntL])
  intro i h1 h2
  simp [bntL]
 have nb : ∀ A : Option Addr, Dj A none := fun A k _ h => by obtain ⟨a, h, _⟩ := h; cases h
 have nb' : ∀ A : Option Addr, Dj none A := fun A k h _ => by obtain ⟨a, h, _⟩ := h; cases h
 exact { blk := hp, ends := hE, burnt := by show Blk wx gB _ (bools (bntL n [])); rw [hb]; exact hB, hb := h1, hgB := h2, times := own_made hT h3 hn, tlen := by simp [fire0], steps := OwnI.nil_ _ _, order := OwnI.nil_ _ _, tree := OwnI.nil_ _ _, next := OwnI.nil_ _ _,
         tS := nb _, tO := nb _, tD := nb _, tH := nb _, sO := nb _, sD := nb _, sH := nb _, oD := nb _, oH := nb _, dH := nb _ }
theorem lit_leaf {w wx : World} {base bp gB gT n cr : Nat} {Ar : Option Addr} {lv : Value} {E : List (Nat × Nat)}
  (hp : Blk wx bp 242 #[.slice Ar E.length cr, lv, .slice (some ⟨gB, 0, none⟩) n n, .slice (some ⟨gT, 0, none⟩) n n, .slice none 0 0, .slice none 0 0, .slice none 0 0, .slice none 0 0])
  (hE : Reads wx base 2 Ar E.length (pair2 E)) (hB : Blk wx gB 4 (bools (List.replicate n false))) (hT : Blk wx gT 3 (ints (List.replicate n 0)).toArray) (h1 : base ≤ bp) (h2 : base ≤ gB) (h3 : base ≤ gT) (hn : n ≤ 12) (hb : Below w.heap.size w wx) (hs : base ≤ wx.heap.size) :
  ∃ bp' a, Value.pointer (some ⟨bp, 0, none⟩) = Value.pointer (some ⟨bp', 0, none⟩) ∧ Hid (FireW wx base bp' E n lv a (fire0 n) []) ∧ Hid (Below w.heap.size w wx) ∧ Hid (base ≤ wx.heap.size) := by
 obtain ⟨a, ha⟩ := fire_leaf hp hE hB hT h1 h2 h3 hn
 exact ⟨bp, a, rfl, ha, hb, hs⟩
theorem lit_any (n q F : Nat) (y : Value) (lit : Nat → Nat → Int → Bool) (A : Option Addr) (c : Nat) (es : List E3) (hn : n ≤ 12) (hq : q < n) (hlen : es.length ≤ 10000) (hz : checkG n es = 0) (hm : (endsL es).length ≤ 60) (hE : BdP n (endsL es)) (w : World) (h : Reads w w.heap.size 3 A es.length (edgeCells es))
  (eg : ∀ args w, (callFunc F args).run Tryz.prog w = .ok (.enter F args) w) (hL : ∀ W x e t, Below w.heap.size w W → x < n → e < (endsL es).length → Calls Tryz.prog F #[y, .int .i64 (x : Int), .int .i64 (e : Int), .int .i64 t] W fun r w' => r = .returned (.bool (lit x e t)) ∧ W = w') :
  Calls Tryz.prog 256 #[.agg #[.int .i64 n, .slice A es.length c], .int .i64 q, .func (.func F) #[y] #[]] w fun e w' => ∃ b, e = .returned (.pointer (some ⟨b, 0, none⟩)) ∧ Hid (∃ a T base, FireW w' base b (endsL es) n (.func (.func F) #[y] #[]) a { runF (endsL es) lit (endsL es).length (fire1 n q) with tree := T } [] ∧ T.Perm (runF (endsL es) lit (endsL es).length (fire1 n q)).tree ∧ T.Pairwise (· ≤ ·) ∧ w.heap.size ≤ base ∧ base ≤ w'.heap.size) ∧ Below w.heap.size w w' := by
 have hG := right_of hz
 have hmk := make_ints n (by omega)
 have hmb := make_bools n (by omega)
 have EC : Hid (∀ W, Below w.heap.size w W → Calls Tryz.prog 158 #[.agg #[.int .i64 n, .slice A es.length c]] W fun e w' => ∃ Ar cr, e = .returned (.tuple #[.slice Ar (endsL es).length cr, .int .i64 0]) ∧ OwnQ w' W.heap.size Ar cr (endsL es) ∧ Below W.heap.size W w') := fun W hB => ends_ok n A c es hlen hz n hG.ok W ((h.below hB).more hB.size)
 have BC := Lib.hid (fun (W : World) (base b : Nat) (a : FireA) (hB : Below w.heap.size w W) (hba : w.heap.size ≤ base) (hF : FireW W base b (endsL es) n (.func (.func F) #[y] #[]) a (fire0 n) []) (hs : base ≤ W.heap.size) => fburn_any base b n q F y lit (endsL es) a hn hq hE hm W hF hs eg (fun W' x e t hW' h1 h2 => hL W' x e t (hB.trans (hW'.mono hba)) h1 h2))
 have g0 := Blk.new w 24 #[.int .i64 n, .slice A es.length c]
 have hB0 : Below w.heap.size w (w.alloc (.cells #[.int .i64 n, .slice A es.length c] 24)) := (Below.refl _ _).alloc (Nat.le_refl _) _
 obtain ⟨E, hEE⟩ : ∃ E, endsL es = E := ⟨_, rfl⟩
 rw [hEE] at EC BC hm ⊢
 have c0 := g0.cell 0
 have c1 := g0.cell 1
 clear h hz hE hL hG hEE eg
 go_enter Tryz.func256, Tryz.ntmps256
 go_wp2_with fail
 refine (EC.out _ hB0).mono ?_
 rintro e w1 ⟨Ar, cr, rfl, o1, hb1⟩
 have hB1 := hB0.trans (hb1.mono hB0.size)
 have g1 := g0.next hb1
 have k0 := g1.cell 0
 have R1 := Lib.hid (Reads.of_own o1)
 have HB1 := Lib.hid hB1
 have hs1 := hB1.size
 have hz1 : w.heap.size < w1.heap.size := g1.lt
 clear c0 c1 o1
 go_upto_region 2 with fail
 go_cut [9] from 18 to 24 (fun p wx => ∃ bp a, p = .pointer (some ⟨bp, 0, none⟩) ∧ Hid (FireW wx w1.heap.size bp E n (.func (.func F) #[y] #[]) a (fire0 n) []) ∧ Hid (Below w.heap.size w wx) ∧ Hid (w1.heap.size ≤ wx.heap.size))
 case first =>
  go_region_held3 (fun W => W.cell? ⟨w.heap.size, 0, none⟩ = some (.int .i64 n)) (first | exact (g1.alloc _).cell 0 | exact ((g1.alloc _).alloc _).cell 0 | exact (((g1.alloc _).alloc _).alloc _).cell 0 | exact (Blk.drew (((g1.alloc _).alloc _).alloc _)).cell 0 | exact (Blk.drew ((g1.alloc _).alloc _)).cell 0 | exact (Blk.drew (g1.alloc _)).cell 0 | go_keep) (fail)
  all_goals
   go_wp2
   go_meet
   refine lit_leaf (Blk.newL (by first | rfl | simp)) ?_ ?_ ?_ ?_ ?_ ?_ hn ?_ ?_
   ·exact (((R1.out.alloc (Nat.le_refl _) _).alloc (by simp) _).alloc (by simp; omega) _)
   ·first
     | (refine ((Blk.newL ?_).alloc _); simp; done)
     | (refine (((Blk.newL ?_).alloc _).alloc _); simp; done)
   ·first
     | (refine ((Blk.newL ?_).alloc _); simp; done)
     | (refine (((Blk.newL ?_).alloc _).alloc _); simp; done)
   ·first | omega | (simp; done) | (simp; omega)
   ·first | omega | (simp; done) | (simp; omega)
   ·first | omega | (simp; done) | (simp; omega)
   ·first | exact Below.drew (((HB1.out.alloc hs1 _).alloc (by simp; omega) _).alloc (by simp; omega) _) | exact (((HB1.out.alloc hs1 _).alloc (by simp; omega) _).alloc (by simp; omega) _)
   ·first | omega | (simp; done) | (simp; omega) | (simp [World.drew]; done) | (simp [World.drew]; omega)
 case rest =>
  obtain ⟨bp, a, rfl, F1, B1, Z1⟩ := hcut
  clear g1 k0
  go_wp2_with fail
  refine (BC.out _ _ bp a B1.out hs1 F1.out Z1.out).mono ?_
  rintro e w2 ⟨rfl, HI⟩
  have HR : Hid (∃ a T base, FireW w2 base bp E n (.func (.func F) #[y] #[]) a { runF E lit E.length (fire1 n q) with tree := T } [] ∧ T.Perm (runF E lit E.length (fire1 n q)).tree ∧ T.Pairwise (· ≤ ·) ∧ w.heap.size ≤ base ∧ base ≤ w2.heap.size) := by
   obtain ⟨a', T, f, p, so, hbb⟩ := HI.out
   exact ⟨a', T, _, f, p, so, hs1, Nat.le_trans Z1.out hbb.size⟩
  have HB : Hid (Below w.heap.size w w2) := by
   obtain ⟨a', T, f, p, so, hbb⟩ := HI.out
   exact B1.out.trans (hbb.mono hs1)
  go_wp2
  go_ret
  exact ⟨bp, rfl, HR, HB.out⟩
theorem conf_of {n q : Nat} {es : List E3} {d : List Int} (hx : rootErr n es q = 0) (hd : d.length = n) (hlo : ∀ x ∈ d, -1048576 ≤ x) (hhi : ∀ x ∈ d, x ≤ 1048576) (h0 : ∀ v, v < n → v ≠ q → 0 ≤ d.getD v 0) : confErr n es q d = 0 := by
 obtain ⟨_, hG, _, hq⟩ := root_zero hx
 have h1 := hG.lo
 have h2 := hG.hi
 unfold confErr
 rw [if_neg (by omega)]
 have hdv : divErr d n = 0 := by
  unfold divErr
  rw [if_neg (by omega), if_neg (by omega), if_pos]
  rw [List.all_eq_true]
  intro x hx
  exact chipB_true.2 ⟨hlo x hx, hhi x hx⟩
 rw [if_neg (by omega)]
 have hdb : debtTo d q d.length = false := by
  unfold debtTo
  rw [List.any_eq_false]
  intro v hv
  have hv := List.mem_range.1 hv
  by_cases hq : v = q
  ·subst hq; simp
  ·have := h0 v (by omega) hq
   rw [Bool.and_eq_true]
   rintro ⟨_, h⟩
   have := of_decide_eq_true h
   omega
 rw [hdb]
 rfl
end Go.Proofs.YtnbikkcalcpedaaGreatDoor
