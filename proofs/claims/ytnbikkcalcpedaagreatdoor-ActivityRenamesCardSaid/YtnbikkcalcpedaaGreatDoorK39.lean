/-
  Texts of this claim, put together: Moved, Relab, Weight.
-/
import Derived.Test.YtnbikkcalcpedaaGreatDoorK38
import Derived.Test.YtnbikkcalcpedaaGreatDoorK16
import Derived.Test.YtnbikkcalcpedaaGreatDoorK07
import Derived.Deep.RegionHeld3
import Derived.Test.YtnbikkcalcpedaaGreatDoorK14
import Derived.Test.YtnbikkcalcpedaaGreatDoorK10
import Derived.Test.YtnbikkcalcpedaaGreatDoorK03
import Derived.Test.YtnbikkcalcpedaaGreatDoorK23
import Derived.Test.YtnbikkcalcpedaaGreatDoorK24
import Derived.Test.YtnbikkcalcpedaaGreatDoorK34
import Derived.Test.YtnbikkcalcpedaaGreatDoorK31
import Derived.Laws.OwnMore
/-! graph.Relabel's closure; graph.moved by it. -/
namespace Go.Proofs.YtnbikkcalcpedaaGreatDoor
open Go.RowKit

set_option maxHeartbeats 1000000 in
theorem relab1_any (g b o n d v : Nat) (x : Int) (hv : v < n) (w : World) (hc : w.cell? ⟨g, 0, none⟩ = some (.slice (some ⟨b, o, none⟩) n d)) (hx : w.cell? ⟨b, o + v, none⟩ = some (.int .i64 x)) :
    Calls Tryz.prog 57 #[.int .i64 v, .pointer (some ⟨g, 0, none⟩)] w fun e w' => e = .returned (.int .i64 x) ∧ w = w' := by
  have hi : (v : Int) < (n : Int) := by omega
  go_enter Tryz.func57, Tryz.ntmps57
  go_wp2
  go_ret
  exact ⟨rfl, rfl⟩
set_option maxRecDepth 100000 in
set_option maxHeartbeats 4000000 in
theorem gmoved_any (n : Nat) (hn12 : n ≤ 12) (A : Option Addr) (c : Nat) (es : List E3) (hn : es.length ≤ 1000) (hok : ∀ e ∈ es, okE n e) (hsz : (endsL es).length ≤ 100000) (T : List Nat) (hT : T.length = n) (hTb : ∀ t ∈ T, t < n) (hdis : ∀ k e, es[k]? = some e → gT T (e.1.toNat, e.2.1.toNat) ∉ (endsL (es.take k)).map (gT T)) (gb b o d : Nat) (w : World) (h : Reads w w.heap.size 3 A es.length (edgeCells es)) (hb : b < w.heap.size) (hx : ∀ (i v : Nat), T[i]? = some v → w.cell? ⟨b, o + i, none⟩ = some (.int .i64 (v : Nat))) (hg : Blk w gb 25 #[.slice (some ⟨b, o, none⟩) n d]) :
    Calls Tryz.prog 56 #[.agg #[.int .i64 n, .slice A es.length c], .int .i64 n, .func (.func 57) #[] #[.pointer (some ⟨gb, 0, none⟩)]] w fun e w' => ∃ A' c' es', e = .returned (.agg #[.int .i64 n, .slice A' es'.length c']) ∧ OwnE w' w.heap.size A' c' es' ∧ es'.Pairwise (fun a b => ¬ ltE b a) ∧ (∃ L : List (Nat × Nat), L.Nodup ∧ (∀ p, p ∈ L ↔ p ∈ (endsL es).map (gT T)) ∧ (L.map (bagE ((endsL es).map (gT T)))).Perm es') ∧ Below w.heap.size w w' := by
  have HOK := Lib.hid hok
  have HDIS := Lib.hid hdis
  have HT := Lib.hid hT
  have HTB := Lib.hid hTb
  have HX := Lib.hid hx
  have hgl := hg.lt
  obtain ⟨s0, hs0⟩ : ∃ s, w.heap.size = s := ⟨_, rfl⟩
  obtain ⟨N, hNN⟩ : ∃ N, es.length = N := ⟨_, rfl⟩
  have HN := Lib.hid hNN
  have hmm := @run_makeMap Tryz.prog
  have hB1 : Below s0 w ((w.alloc (.cells #[.int .i64 n, .slice A N c] 24)).alloc (.cells #[.int .i64 0, .slice none 0 0] 24)) := by rw [← hs0]; exact ((Below.refl _ _).alloc (Nat.le_refl _) _).alloc (by simp) _
  have G3 := (Blk.new w 24 #[.int .i64 n, .slice A N c]).alloc (.cells #[.int .i64 0, .slice none 0 0] 24)
  have G6 := Blk.new (w.alloc (.cells #[.int .i64 n, .slice A N c] 24)) 24 #[.int .i64 0, .slice none 0 0]
  rw [show (w.alloc (.cells #[.int .i64 n, .slice A N c] 24)).heap.size = s0 + 1 from by simp; omega] at G6
  rw [hs0] at G3 h hb hgl ⊢
  rw [hNN] at h hn ⊢
  have k1 := G3.cell 1
  clear hok hdis hT hTb hx hNN
  go_enter Tryz.func56, Tryz.ntmps56
  go_wp2
  obtain ⟨w1, hw1⟩ : ∃ w1, (w.alloc (.cells #[.int .i64 n, .slice A N c] 24)).alloc (.cells #[.int .i64 0, .slice none 0 0] 24) = w1 := ⟨_, rfl⟩
  have hz1 : w1.heap.size = s0 + 2 := by rw [← hw1]; simp; omega
  have hM0 : (w1.alloc (.map #[] 0)).ownsMap Tryz.prog 152 (plainElem (H := Unit) Tryz.prog 3) w1.heap.size 0 (.map []) := World.ownsMap_made w1 _ _ _
  rw [hw1] at hB1 G3 G6 ⊢
  rw [hz1] at hM0
  have HZ1 := Lib.hid hz1
  have HS0 := Lib.hid hs0
  rw [show s0 + 1 + 1 = s0 + 2 from rfl]
  clear hw1 k1 hmm hz1 hs0
  go_loopw [9, 10, 11, 16] (fun _ _ _ i wr => ∃ k : Nat, k ≤ N ∧ i = .int .i64 k ∧ Below (s0 + 2) w1 wr ∧ ∃ D : DataW Unit, wr.ownsMap Tryz.prog 152 (plainElem Tryz.prog 3) (s0 + 2) k D ∧ CntD ((endsL (es.take k)).map (gT T)) D) (fun _ _ _ i _ => N - (intOf i).toNat)
  case atStart => exact ⟨0, by omega, rfl, (Below.refl _ _).alloc (by rw [HZ1.out]; exact Nat.le_refl _) _, _, hM0, CntD.nil⟩
  case round =>
    obtain ⟨k, hk, rfl, hb1, D, hM, hD⟩ := hrel
    have hBr : Below s0 w wr := hB1.trans (hb1.mono (by omega))
    have G3 := G3.below hb1 (by omega)
    have G6 := G6.below hb1 (by omega)
    have hml := hM.lt
    by_cases hlt : k < N
    · have hi : (k : Int) < (N : Int) := by omega
      obtain ⟨⟨xa, xb, xm⟩, hx⟩ : ∃ e, es[k]? = some e := ⟨_, List.getElem?_eq_getElem (by rw [HN.out]; exact hlt)⟩
      have hok := HOK.out _ (List.mem_of_getElem? hx)
      have hni := HDIS.out k _ hx
      unfold okE at hok
      dsimp only at hok hni
      obtain ⟨a, rfl⟩ := Int.eq_ofNat_of_zero_le (show 0 ≤ xa by omega)
      obtain ⟨q, rfl⟩ := Int.eq_ofNat_of_zero_le (show 0 ≤ xb by omega)
      obtain ⟨M, rfl⟩ := Int.eq_ofNat_of_zero_le (show 0 ≤ xm by omega)
      obtain ⟨bb, off, rfl, hbb, q1, q2, q3⟩ := (h.below hBr).edge hx
      dsimp only at q1 q2 q3
      rw [Int.toNat_natCast, Int.toNat_natCast] at hni
      obtain ⟨ta, hta⟩ : ∃ v, T[a]? = some v := ⟨_, List.getElem?_eq_getElem (by rw [HT.out]; omega)⟩
      obtain ⟨tb, htb⟩ : ∃ v, T[q]? = some v := ⟨_, List.getElem?_eq_getElem (by rw [HT.out]; omega)⟩
      have hta12 := HTB.out ta (List.mem_of_getElem? hta)
      have htb12 := HTB.out tb (List.mem_of_getElem? htb)
      have hgT : gT T (a, q) = (min ta tb, max ta tb) := by unfold gT; rw [List.getD_eq_getElem?_getD, List.getD_eq_getElem?_getD, hta, htb]; rfl
      rw [hgT] at hni
      have HNI := Lib.hid hni
      have hxa := (hBr.cell (p := ⟨b, o + a, none⟩) hb).trans (HX.out a ta hta)
      have hxb := (hBr.cell (p := ⟨b, o + q, none⟩) hb).trans (HX.out q tb htb)
      have hgg := (hg.below hBr hgl).cell 0
      have hEN : Hid (endsL (es.take (k + 1)) = endsL (es.take k) ++ List.replicate M (a, q)) := by rw [Hid, endsL_snoc hx]; rfl
      have HGT := Lib.hid hgT
      have hsz2 := hb1.size
      obtain ⟨se, hse⟩ : ∃ e, wr.heap.size = e := ⟨_, rfl⟩
      have ce : Blk (wr.alloc (.cells #[.int .i64 a, .int .i64 q, .int .i64 M] 107)) se 107 #[.int .i64 a, .int .i64 q, .int .i64 M] := hse ▸ Blk.new wr _ _
      have hMa := World.ownsMap.alloc hM (.cells #[.int .i64 a, .int .i64 q, .int .i64 M] 107)
      have hBa : Below s0 w (wr.alloc (.cells #[.int .i64 a, .int .i64 q, .int .i64 M] 107)) := hBr.alloc (by omega) _
      have hBa1 : Below (s0 + 2) w1 (wr.alloc (.cells #[.int .i64 a, .int .i64 q, .int .i64 M] 107)) := hb1.alloc (by omega) _
      have hxa' := ((Below.refl s0 wr).alloc (by omega) (.cells #[.int .i64 a, .int .i64 q, .int .i64 M] 107)).cell (p := ⟨b, o + a, none⟩) hb |>.trans hxa
      have hxb' := ((Below.refl s0 wr).alloc (by omega) (.cells #[.int .i64 a, .int .i64 q, .int .i64 M] 107)).cell (p := ⟨b, o + q, none⟩) hb |>.trans hxb
      have hgg' := ((Below.refl s0 wr).alloc (by omega) (.cells #[.int .i64 a, .int .i64 q, .int .i64 M] 107)).cell (p := ⟨gb, 0, none⟩) hgl |>.trans hgg
      have R1 := Lib.hid (relab1_any gb b o n d a ta (by omega) (wr.alloc (.cells #[.int .i64 a, .int .i64 q, .int .i64 M] 107)).drew hgg' hxa')
      have R2 := Lib.hid (relab1_any gb b o n d q tb (by omega) (wr.alloc (.cells #[.int .i64 a, .int .i64 q, .int .i64 M] 107)).drew hgg' hxb')
      have c0 := ce.cell 0
      have c1 := ce.cell 1
      have c2 := ce.cell 2
      have hmse : s0 + 2 < se := hse ▸ hml
      have ha0 : (0 : Int) ≤ (ta : Int) := by omega
      have hb0 : (0 : Int) ≤ (tb : Int) := by omega
      have hok' : 1 ≤ M ∧ M ≤ 50 := by omega
      have k1 := G3.cell 1
      have HSE := Lib.hid hse
      clear hok hni hx hta htb hgT hxa hxb hgg hse
      go_wp2
      rw [HSE.out]
      go_region_held3 (fun W => W.cell? ⟨se, 0, none⟩ = some (.int .i64 a) ∧ W.cell? ⟨se, 1, none⟩ = some (.int .i64 q) ∧ W.cell? ⟨gb, 0, none⟩ = some (.slice (some ⟨b, o, none⟩) n d) ∧ W.cell? ⟨b, o + a, none⟩ = some (.int .i64 ta) ∧ W.cell? ⟨b, o + q, none⟩ = some (.int .i64 tb)) (go_keep) (first
        | (go_at_call 57; refine (R1.out).mono ?_; rintro e w5 ⟨rfl, rfl⟩)
        | (go_at_call 57; refine (R2.out).mono ?_; rintro e w5 ⟨rfl, rfl⟩)
        | fail)
      all_goals
        go_wp2
        refine wp_region_held_drew (S := (fun W : World => W.cell? ⟨se, 2, none⟩ = some (.int .i64 M))) (by kernel_rfl) c2 (fun hSw => ?_)
        refine h_take (i := 0) (.map (some (s0 + 2))) rfl (by kernel_rfl) (by kernel_rfl) (by kernel_rfl) (fun _ _ _ h => h) (by kernel_rfl) hSw ?_ ?_
        · intro w hw; (try dsimp only at hw); go_split_ands; go_simp
        refine h_take (i := 1) (.int .i64 ta) rfl (by kernel_rfl) (by kernel_rfl) (by kernel_rfl) (fun _ _ _ h => h) (by kernel_rfl) hSw ?_ ?_
        · intro w hw; (try dsimp only at hw); go_split_ands; go_simp
        refine h_take (i := 2) (.int .i64 tb) rfl (by kernel_rfl) (by kernel_rfl) (by kernel_rfl) (fun _ _ _ h => h) (by kernel_rfl) hSw ?_ ?_
        · intro w hw; (try dsimp only at hw); go_split_ands; go_simp
        refine h_take (i := 4) (.pointer (some ⟨se, 2, none⟩)) rfl (by kernel_rfl) (by kernel_rfl) (by kernel_rfl) (fun _ _ _ h => h) (by kernel_rfl) hSw ?_ ?_
        · intro w hw; (try dsimp only at hw); go_split_ands; go_simp
        refine h_take (i := 5) (.int .i64 M) rfl (by kernel_rfl) (by kernel_rfl) (by kernel_rfl) (fun _ _ _ h => h) (by kernel_rfl) hSw ?_ ?_
        · intro w hw; (try dsimp only at hw); go_split_ands; go_simp
        refine h_step (i := 3) rfl (by kernel_rfl) (by kernel_rfl) ?_
        intro K hK
        go_simp
        go_at_call 114
        refine (gjoined_any ta tb _).mono ?_
        rintro e w5 ⟨rfl, hb5⟩
        have c5 := (hb5.cell (p := ⟨se, 2, none⟩) (by show se < _; exact ce.lt)).trans c2
        have hM5 : w5.ownsMap Tryz.prog 152 (plainElem (H := Unit) Tryz.prog 3) (s0 + 2) k D := ownsMap_below hMa.drew.drew hMa.lt hb5
        obtain ⟨w6, e6, ⟨D6, hM6, hD6⟩, hg6⟩ := hD.update (t := 155) hM5 gpairLaw keyOf_gpair Tryz.underlying155 Tryz.underlying3 (by omega) (q := (min ta tb, max ta tb)) ⟨by show min ta tb ≤ 300; omega, by show max ta tb ≤ 300; omega⟩ HNI.out (m := M) (by omega) (by omega)
        unfold pairV at e6
        dsimp only at e6
        have c6 : w6.cell? ⟨se, 2, none⟩ = some (.int .i64 M) := (World.cell?_of_block (w := w5) (hg6.block se (Nat.lt_of_lt_of_le ce.lt hb5.size) (by simp; omega))).trans c5
        have HB56 := Lib.hid hb5
        clear hb5
        try go_simp
        refine hK _ _ c5 ?_
        clear hK K hSw
        have hSw : (fun W : World => W.cell? ⟨se, 2, none⟩ = some (.int .i64 M)) w5 := c5
        refine h_step (i := 6) rfl (by kernel_rfl) (by kernel_rfl) ?_
        intro K hK
        go_simp
        refine hK _ _ c6 ?_
        clear hK K hSw
        refine wpAnyH_done (by kernel_rfl) ?_ _
        go_simp
        go_wp2
        go_roundw
        case rel =>
          refine ⟨k + 1, by omega, by go_num, ?_, D6, hM6, ?_⟩
          · exact ((hBa1.drew.drew).trans (HB56.out.mono (by have := hBa1.size; have := HZ1.out; simp; omega))).grown hg6 (Nat.le_of_lt hM5.lt) (fun j hj => by cases hj; exact Nat.le_refl _)
          · rw [hEN.out, List.map_append, List.map_replicate, HGT.out]; exact hD6
        case measure => simp [intOf]; omega
    · obtain rfl : k = N := by omega
      have hf : ¬ (k : Int) < (k : Int) := by omega
      have hEE : es.take k = es := List.take_of_length_le (by rw [HN.out]; exact Nat.le_refl _)
      rw [hEE] at hD
      have hgd : ∀ i, T.getD i 0 ≤ 300 := fun i => by
        rw [List.getD_eq_getElem?_getD]
        cases hc : T[i]? with
        | none => simp
        | some v => have := HTB.out v (List.mem_of_getElem? hc); simp; omega
      have BC := Lib.hid (baggraph_any n (s0 + 2) k ((endsL es).map (gT T)) D (by rw [List.length_map]; omega) (by omega) (fun p hp => by
        obtain ⟨r, _, rfl⟩ := List.mem_map.1 hp
        have h1 := hgd r.1
        have h2 := hgd r.2
        exact ⟨by show min (T.getD r.1 0) (T.getD r.2 0) ≤ 300; omega, by show max (T.getD r.1 0) (T.getD r.2 0) ≤ 300; omega⟩) hD wr hM)
      have hsz2 := hb1.size
      clear hD hgd
      go_wp2_with fail
      refine (BC.out).mono ?_
      rintro e w5 ⟨A5, c5, es5, rfl, hO5, hs5, hL5, hb5⟩
      have G6 := G6.below hb5 (by omega)
      have r0 := G6.cell 0
      have r1 := G6.cell 1
      have f0 := G6.frozen 0
      have f1 := G6.frozen 1
      go_wp2
      refine bodyPost_ret (results_g rfl rfl ((G6.set_ 0 _).set_ 1 _) rfl) rfl ?_
      refine ⟨A5, c5, es5, by rfl, ?_, hs5, hL5, ?_⟩
      · exact (hO5.kept fun j hj => (Below.heap_setCell _ ⟨s0 + 1, 1, none⟩ _ j (by have := (hO5.lt j hj).1; show j ≠ s0 + 1; omega)).trans (Below.heap_setCell _ ⟨s0 + 1, 0, none⟩ _ j (by have := (hO5.lt j hj).1; show j ≠ s0 + 1; omega))).mono (by omega)
      · exact ((hBr.trans (hb5.mono (by omega))).setCell (p := ⟨s0 + 1, 0, none⟩) (by show s0 ≤ s0 + 1; omega) _).setCell (p := ⟨s0 + 1, 1, none⟩) (by show s0 ≤ s0 + 1; omega) _
end Go.Proofs.YtnbikkcalcpedaaGreatDoor

/-! graph.Relabel of a right graph by a right list. -/
namespace Go.Proofs.YtnbikkcalcpedaaGreatDoor
open Go.RowKit
set_option maxRecDepth 100000 in
set_option maxHeartbeats 4000000 in
theorem relabel_any (n : Nat) (hn12 : n ≤ 12) (hn1 : 1 ≤ n) (A : Option Addr) (c : Nat) (es : List E3) (hn : es.length ≤ 1000) (hG : checkG n es = 0) (hok : ∀ e ∈ es, okE n e) (hsz : (endsL es).length ≤ 100000) (T : List Nat) (hT : T.length = n) (hTb : ∀ t ∈ T, t < n) (hTn : T.Nodup) (hdis : ∀ k e, es[k]? = some e → gT T (e.1.toNat, e.2.1.toNat) ∉ (endsL (es.take k)).map (gT T)) (B : Option Addr) (d : Nat) (hd : n ≤ d) (w : World) (h : Reads w w.heap.size 3 A es.length (edgeCells es)) (h' : Reads w w.heap.size 1 B n (ints (nI T))) :
    Calls Tryz.prog 14 #[.agg #[.int .i64 n, .slice A es.length c], .slice B n d] w fun e w' => ∃ A' c' es', e = .returned (.tuple #[.agg #[.int .i64 n, .slice A' es'.length c'], .int .i64 0]) ∧ OwnE w' w.heap.size A' c' es' ∧ es'.Pairwise (fun a b => ¬ ltE b a) ∧ (∃ L : List (Nat × Nat), L.Nodup ∧ (∀ p, p ∈ L ↔ p ∈ (endsL es).map (gT T)) ∧ (L.map (bagE ((endsL es).map (gT T)))).Perm es') ∧ Below w.heap.size w w' := by
  have GC := Lib.hid (fun (W : World) (hB : Below w.heap.size w W) => gcheck_any n A c es (by omega) W ((h.below hB).more hB.size))
  rw [hG] at GC
  obtain ⟨b, o, rfl, hb, hcx⟩ := h'.2 (by omega)
  have hxc : ∀ (i v : Nat), T[i]? = some v → w.cell? ⟨b, o + i, none⟩ = some (.int .i64 (v : Nat)) := fun i v hv => hcx i _ (by
    have h1 : (nI T)[i]? = some (v : Int) := by unfold nI; rw [List.getElem?_map, hv]; rfl
    exact ints_at h1)
  have CN := Lib.hid (fun (k : Nat) (hk : k < n) (x : Int) (W : World) (hB : Below w.heap.size w W) => contains_any (some ⟨b, o, none⟩) d ((nI T).take k) (by rw [List.length_take]; omega) x W (by
    have := Reads.upto (xs := nI T) (by rw [nI_length, hT]; exact (h'.below hB).more hB.size) k (by rw [nI_length, hT]; exact hk)
    rwa [List.length_take, nI_length, hT, Nat.min_eq_left (by omega)]))
  have hlt' : ∀ k, k < n → ((nI T).take k).length = k := fun k hk => by rw [List.length_take, nI_length, hT]; omega
  have MV := Lib.hid (fun (gb : Nat) (W : World) (hB : Below w.heap.size w W) (hg : Blk W gb 25 #[.slice (some ⟨b, o, none⟩) n d]) => gmoved_any n hn12 A c es hn hok hsz T hT hTb hdis gb b o d W ((h.below hB).more hB.size) (by have := hB.size; omega) (fun i v hv => (hB.cell (p := ⟨b, o + i, none⟩) hb).trans (hxc i v hv)) hg)
  have HTN : Hid (∀ (k v : Nat), T[k]? = some v → (v : Int) ∉ (nI T).take k) := by
    intro k v hv hm
    unfold nI at hm
    rw [← List.map_take] at hm
    obtain ⟨u, hu, he⟩ := List.mem_map.1 hm
    have he : u = v := by omega
    subst he
    obtain ⟨j, hj⟩ := List.getElem?_of_mem hu
    have hjk : j < k := by
      have := (List.getElem?_eq_some_iff.1 hj).1
      rw [List.length_take] at this
      omega
    rw [List.getElem?_take_of_lt hjk] at hj
    obtain ⟨hj1, hj2⟩ := List.getElem?_eq_some_iff.1 hj
    obtain ⟨hk1, hk2⟩ := List.getElem?_eq_some_iff.1 hv
    exact (List.pairwise_iff_getElem.1 hTn) j k hj1 hk1 hjk (hj2.trans hk2.symm)
  have HTB := Lib.hid hTb
  have HT := Lib.hid hT
  have HXC := Lib.hid hxc
  have HLT := Lib.hid hlt'
  obtain ⟨N, hN⟩ : ∃ N, es.length = N := ⟨_, rfl⟩
  obtain ⟨F, hF⟩ : ∃ F, (endsL es).map (gT T) = F := ⟨_, rfl⟩
  rw [hF] at MV ⊢
  rw [hN] at GC MV ⊢
  have hmf : ∀ (fn : Fn) (first cap : Array Value) (w : World), (Instr.makeFunc fn first cap).run Tryz.prog w = .ok (.func fn first cap) w := fun _ _ _ _ => rfl
  obtain ⟨s0, hs0⟩ : ∃ s, w.heap.size = s := ⟨_, rfl⟩
  rw [hs0] at hb GC CN MV
  have hB0 : Below s0 w (((w.alloc (.cells #[.int .i64 n, .slice A N c] 24)).alloc (.cells #[.slice (some ⟨b, o, none⟩) n d] 25)).alloc (.cells #[.int .i64 0, .slice none 0 0] 24)) := by rw [← hs0]; exact (((Below.refl _ _).alloc (Nat.le_refl _) _).alloc (by simp) _).alloc (by simp; omega) _
  have G20 := ((Blk.new w 24 #[.int .i64 n, .slice A N c]).alloc (.cells #[.slice (some ⟨b, o, none⟩) n d] 25)).alloc (.cells #[.int .i64 0, .slice none 0 0] 24)
  have G30 := (Blk.new (w.alloc (.cells #[.int .i64 n, .slice A N c] 24)) 25 #[.slice (some ⟨b, o, none⟩) n d]).alloc (.cells #[.int .i64 0, .slice none 0 0] 24)
  have G40 := Blk.new ((w.alloc (.cells #[.int .i64 n, .slice A N c] 24)).alloc (.cells #[.slice (some ⟨b, o, none⟩) n d] 25)) 24 #[.int .i64 0, .slice none 0 0]
  rw [show (w.alloc (.cells #[.int .i64 n, .slice A N c] 24)).heap.size = s0 + 1 from by simp; omega] at G30
  rw [show ((w.alloc (.cells #[.int .i64 n, .slice A N c] 24)).alloc (.cells #[.slice (some ⟨b, o, none⟩) n d] 25)).heap.size = s0 + 2 from by simp; omega] at G40
  rw [hs0] at G20 ⊢
  have k0 := G20.cell 0
  have k1 := G20.cell 1
  have hi0 : ((n : Int) != (n : Int)) = false := by simp
  clear hG hok hsz hT hTb hTn hdis h h' hcx hxc hlt' hN hF
  go_enter Tryz.func14, Tryz.ntmps14
  go_wp2_with fail
  refine (GC.out _ hB0).mono ?_
  rintro e w1 ⟨rfl, hb1⟩
  have G2 := G20.next hb1
  have G3 := G30.next hb1
  have G4 := G40.next hb1
  have hB := hB0.trans (hb1.mono (by have := hB0.size; omega))
  have hz1 : s0 + 3 ≤ w1.heap.size := by have := G4.lt; omega
  have k0 := G2.cell 0
  have k1 := G2.cell 1
  have j0 := G3.cell 0
  clear hb1 hB0 G20 G30 G40
  go_wp2
  go_loopw [7, 8, 23] (fun _ _ i wr => ∃ k : Nat, k ≤ n ∧ i = .int .i64 k ∧ w1 = wr) (fun _ _ i _ => n - (intOf i).toNat)
  case atStart => exact ⟨0, by omega, rfl, rfl⟩
  case round =>
    obtain ⟨k, hk, rfl, rfl⟩ := hrel
    by_cases hlt : k < n
    · have hi : (k : Int) < (n : Int) := by omega
      obtain ⟨v, hv⟩ : ∃ v, T[k]? = some v := ⟨_, List.getElem?_eq_getElem (by rw [HT.out]; exact hlt)⟩
      have hvn := HTB.out v (List.mem_of_getElem? hv)
      have hc := (hB.cell (p := ⟨b, o + k, none⟩) hb).trans (HXC.out k v hv)
      have hkd : (k : Int) ≤ (d : Int) := by omega
      have VC := Lib.hid (fun W => vertex_any n v W)
      rw [vertB_true.2 ⟨by omega, by omega⟩] at VC
      have CC := Lib.hid (CN.out k hlt v w1 hB)
      rw [decide_eq_false (HTN.out k v hv), HLT.out k hlt] at CC
      clear hv
      go_wp2_with (first
        | (go_at_call 55; refine (VC.out _).mono ?_; rintro e w' ⟨rfl, rfl⟩)
        | (go_at_call 25; refine (CC.out).mono ?_; rintro e w' ⟨rfl, rfl⟩)
        | fail)
      go_roundw
      case rel => exact ⟨k + 1, by omega, by go_num, trivial⟩
      case measure => simp [intOf]; omega
    · obtain rfl : k = n := by omega
      have hf : ¬ (k : Int) < (k : Int) := by omega
      have MC := Lib.hid (MV.out (s0 + 1) w1 hB G3)
      go_wp2_with fail
      refine (MC.out).mono ?_
      rintro e w5 ⟨A5, c5, es5, rfl, hO5, hs5, hL5, hb5⟩
      have G4 := G4.next hb5
      have r0 := G4.cell 0
      have r1 := G4.cell 1
      have f0 := G4.frozen 0
      have f1 := G4.frozen 1
      go_wp2
      refine bodyPost_ret (results_g1 rfl rfl ((G4.set_ 0 _).set_ 1 _) rfl) rfl ?_
      refine ⟨A5, c5, es5, by rfl, ?_, hs5, hL5, ?_⟩
      · exact (hO5.kept fun j hj => (Below.heap_setCell _ ⟨s0 + 2, 1, none⟩ _ j (by have := (hO5.lt j hj).1; show j ≠ s0 + 2; omega)).trans (Below.heap_setCell _ ⟨s0 + 2, 0, none⟩ _ j (by have := (hO5.lt j hj).1; show j ≠ s0 + 2; omega))).mono (by omega)
      · exact ((hB.trans (hb5.mono (by omega))).setCell (p := ⟨s0 + 2, 0, none⟩) (by show s0 ≤ s0 + 2; omega) _).setCell (p := ⟨s0 + 2, 1, none⟩) (by show s0 ≤ s0 + 2; omega) _
end Go.Proofs.YtnbikkcalcpedaaGreatDoor

/-! polynomial.Monomial with the coefficient one; activity.Weight. -/
namespace Go.Proofs.YtnbikkcalcpedaaGreatDoor
open Go.RowKit

theorem exponent_any (x : Nat) (h : x ≤ 256) (w : World) : Calls Tryz.prog 120 #[.int .i64 x] w fun e w' => e = .returned (.bool true) ∧ w' = w := by
  have h0 : (0 : Int) ≤ (x : Int) := by omega
  have h1 : (x : Int) ≤ 256 := by omega
  have h2 : decide ((x : Int) ≤ 256) = true := decide_eq_true h1
  go_enter Tryz.func120, Tryz.ntmps120
  go_wp2
  go_ret
  exact ⟨rfl, rfl⟩
theorem oneT {w : World} {base : Nat} (hb : base ≤ w.heap.size) (x y : Nat) (z : Int) : OwnT (w.alloc (.cells #[.int .i64 x, .int .i64 y, .string (intS z)] 87)) base (some ⟨w.heap.size, 0, none⟩) 1 [((x, y), z)] :=
  World.ownsRow_lit w #[.int .i64 x, .int .i64 y, .string (intS z)] 1 hb (by unfold maxLen; omega) rfl
set_option maxRecDepth 100000 in
set_option maxHeartbeats 2000000 in
theorem monomial_one (x y : Nat) (hx : x ≤ 256) (hy : y ≤ 256) (w : World) :
    Calls Tryz.prog 116 #[.int .i64 x, .int .i64 y, .string (intS 1)] w fun e w' => ∃ A' c', e = .returned (.tuple #[.slice A' 1 c', .int .i64 0]) ∧ OwnT w' w.heap.size A' c' [((x, y), 1)] ∧ Below w.heap.size w w' := by
  have XC := Lib.hid (exponent_any x hx)
  have YC := Lib.hid (exponent_any y hy)
  have CC := Lib.hid (check_int 1 (by decide) w)
  have hz : ((intS 1).toList == [48]) = false := by decide +kernel
  have hO := Lib.hid (fun (W : World) (hb : w.heap.size ≤ W.heap.size) => oneT hb x y 1)
  obtain ⟨S, hS⟩ : ∃ S, intS 1 = S := ⟨_, rfl⟩
  replace CC : Hid (Calls Tryz.prog 65 #[.string S] w fun e w' => e = .returned (.int .i64 0) ∧ Below w.heap.size w w') := by rw [← hS]; exact CC
  rw [hS] at hz hO ⊢
  clear hx hy hS
  go_enter Tryz.func116, Tryz.ntmps116
  go_wp2_with fail
  refine (XC.out _).mono ?_
  rintro e w' ⟨rfl, rfl⟩
  go_wp2_with fail
  refine (YC.out _).mono ?_
  rintro e w' ⟨rfl, rfl⟩
  go_wp2_with fail
  refine (CC.out).mono ?_
  rintro e w' ⟨rfl, hb⟩
  go_wp2
  go_ret2
  exact ⟨_, _, rfl, hO.out _ hb.size, hb.alloc hb.size _⟩

/-- What Weight returns. -/
def weightE (n : Int) (es : List E3) (xs : List Int) : List Tm × Int := if treeErr n es xs = 0 then ([(((intE n es xs).1.length, (extE n es xs).1.length), 1)], 0) else ([], treeErr n es xs)
set_option maxRecDepth 100000 in
set_option maxHeartbeats 2000000 in
theorem weight_any (n : Int) (A : Option Addr) (c : Nat) (es : List E3) (hn : es.length ≤ 10000) (B : Option Addr) (d : Nat) (xs : List Int) (hm : xs.length ≤ 1048576) (hl : (intE n es xs).1.length ≤ 256) (hl2 : (extE n es xs).1.length ≤ 256) (w : World) (h : Reads w w.heap.size 3 A es.length (edgeCells es)) (h' : Reads w w.heap.size 1 B xs.length (ints xs)) :
    Calls Tryz.prog 58 #[.agg #[.int .i64 n, .slice A es.length c], .slice B xs.length d] w fun e w' => ∃ A' c', e = .returned (.tuple #[.slice A' (weightE n es xs).1.length c', .int .i64 (weightE n es xs).2]) ∧ OwnT w' w.heap.size A' c' (weightE n es xs).1 ∧ Below w.heap.size w w' := by
  have BC := Lib.hid (fun (W : World) (hB : Below w.heap.size w W) => both_any n A c es hn B d xs hm W ((h.below hB).more hB.size) ((h'.below hB).more hB.size))
  have g := Blk.new w 24 #[.int .i64 n, .slice A es.length c]
  have hB : Below w.heap.size w (w.alloc (.cells #[.int .i64 n, .slice A es.length c] 24)) := (Below.refl _ _).alloc (Nat.le_refl _) _
  have k0 := g.cell 0
  have k1 := g.cell 1
  have OC := Lib.hid (intOf_any 1 (by omega))
  rw [show numS 1 = intS 1 from numS_int 1] at OC
  have MC := Lib.hid (monomial_one (intE n es xs).1.length (extE n es xs).1.length hl hl2)
  unfold weightE
  obtain ⟨N, hN⟩ : ∃ N, xs.length = N := ⟨_, rfl⟩
  rw [hN] at BC ⊢
  by_cases hz : treeErr n es xs = 0
  · rw [if_pos hz]
    rw [hz] at BC
    dsimp only
    obtain ⟨R, hR⟩ : ∃ R, (intE n es xs).1.length = R := ⟨_, rfl⟩
    obtain ⟨T, hT⟩ : ∃ T, (extE n es xs).1.length = T := ⟨_, rfl⟩
    rw [hR, hT] at BC MC
    rw [hR, hT]
    obtain ⟨S, hS⟩ : ∃ S, intS 1 = S := ⟨_, rfl⟩
    rw [hS] at OC MC
    clear hR hT hS hz hl hl2 hN hm h h'
    go_enter Tryz.func58, Tryz.ntmps58
    go_wp2_with fail
    refine (BC.out _ hB).mono ?_
    rintro e wn ⟨A1, c1, A2, c2, rfl, _, _, hb⟩
    have hB := hB.trans (hb.mono hB.size)
    go_wp2_with fail
    refine (OC.out _).mono ?_
    rintro e wm ⟨rfl, rfl⟩
    go_wp2_with fail
    refine (MC.out _).mono ?_
    rintro e wm ⟨A', c', rfl, o, hb2⟩
    have o' := o.mono (base' := w.heap.size) hB.size
    have hB := hB.trans (hb2.mono hB.size)
    go_wp2
    go_ret2
    exact ⟨A', c', rfl, o', hB⟩
  · rw [if_neg hz]
    dsimp only
    obtain ⟨z, hzz⟩ : ∃ z, treeErr n es xs = z := ⟨_, rfl⟩
    rw [hzz] at BC hz ⊢
    have hzb : (z != 0) = true := by simpa using hz
    clear hz hzz hl hl2 hN hm h h' MC
    go_enter Tryz.func58, Tryz.ntmps58
    go_wp2_with fail
    refine (BC.out _ hB).mono ?_
    rintro e wn ⟨A1, c1, A2, c2, rfl, _, _, hb⟩
    have hB := hB.trans (hb.mono hB.size)
    go_wp2
    go_ret2
    exact ⟨none, 0, rfl, OwnT.nil_ _ _, hB⟩
end Go.Proofs.YtnbikkcalcpedaaGreatDoor

