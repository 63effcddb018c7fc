/-
  ref23.Rounds, Waves, Is, Superstable, Burn.
-/
import Derived.Test.YthbannpmfdflaaaWaves
import Derived.Test.YthbannpmfdflaaaRBurn2
import Derived.Test.YthbannpmfdflaaaRConf2
import Derived.Test.YthbannpmfdflaaaRBlk
import Derived.Test.YthbannpmfdflaaaRSets
import Derived.Deep.RegionHeld3
namespace Go.Proofs.Ythbannpmfdflaaa
open Go.RowKit

theorem row_block_snoc {A6 : Option Addr} {vs : List Value} {A' : Option Addr} {n c k : Nat} (h : rowBlock A6 (vs ++ [.slice A' n c]) k) : blockOf A6 k ∨ (∃ v ∈ vs, v.ownBlock = some k) ∨ blockOf A' k := by
  rcases h with h | ⟨v, hv, h⟩
  · exact .inl h
  · rcases List.mem_append.1 hv with hv | hv
    · exact .inr (.inl ⟨v, hv, h⟩)
    · rw [List.mem_singleton.1 hv] at h
      exact .inr (.inr (blockOf_own.1 h))

set_option maxRecDepth 100000 in
set_option maxHeartbeats 4000000 in
theorem rounds_any (n : Nat) (hn12 : n ≤ 12) (A : Option Addr) (c : Nat) (es : List E3) (hn : es.length ≤ 1048576) (N : Int) (hok : ∀ e ∈ es, okE N e) (q : Nat) (hq : q < n) (B : Option Addr) (d : Nat) (cs : List Int) (hcl : cs.length = n) (w : World)
    (h : Reads w w.heap.size 3 A es.length (edgeCells es)) (h' : Reads w w.heap.size 1 B cs.length (ints cs)) :
    Calls Try.prog 83 #[.agg #[.int .i64 n, .slice A es.length c], .int .i64 q, .slice B cs.length d] w fun e w' => ∃ C c' vs xss, xss = ([q] :: roundsL es cs n n [q]).map natsI ∧ e = .returned (.slice C xss.length c') ∧ OwnRows w' w.heap.size C c' vs xss ∧ Below w.heap.size w w' := by
  have HOK0 : Hid (LOk n [q]) := ⟨by simp, by simpa using hq⟩
  obtain ⟨F, hF⟩ : ∃ xss, xss = ([q] :: roundsL es cs n n [q]).map natsI := ⟨_, rfl⟩
  have hF0 : Hid (F = [[(q : Int)]] ++ (roundsL es cs n (n - 1) [q]).map natsI) := by
    rw [Hid, hF, rounds_more n (n - 1) (l := [q]) HOK0.out (by simp) (by simp; omega)]; rfl
  have HFF := Lib.hid hF
  have RC := Lib.hid (fun l hl D f w h h' h'' => rready_any n hn12 A c es hn N hok B d cs hcl D f l hl w h h' h'')
  have g0 := Blk.new w 24 #[.int .i64 n, .slice A es.length c]
  have hb0 : Below w.heap.size w (w.alloc (.cells #[.int .i64 n, .slice A es.length c] 24)) := (Below.refl _ _).alloc (Nat.le_refl _) _
  obtain ⟨w1, hw1⟩ : ∃ w1, w.alloc (.cells #[.int .i64 n, .slice A es.length c] 24) = w1 := ⟨_, rfl⟩
  rw [hw1] at g0 hb0
  have hs1 := hb0.size
  have e1 : w1.heap.size = w.heap.size + 1 := by rw [← hw1]; simp
  have hR0 := rows_one (base := w.heap.size) hs1 (q : Int)
  have G2 := (g0.alloc (.cells #[.int .i64 q] 3)).alloc (.cells #[.slice (some ⟨w1.heap.size, 0, none⟩) 1 1] 25)
  have B2 := (hb0.alloc hs1 (.cells #[.int .i64 q] 3)).alloc (by simp; omega) (.cells #[.slice (some ⟨w1.heap.size, 0, none⟩) 1 1] 25)
  rw [e1] at hR0 G2 B2
  obtain ⟨w2, hw2⟩ : ∃ w2, ((w1.alloc (.cells #[.int .i64 q] 3)).alloc (.cells #[.slice (some ⟨w.heap.size + 1, 0, none⟩) 1 1] 25)) = w2 := ⟨_, rfl⟩
  have e2 : w2.heap.size = w.heap.size + 1 + 1 + 1 := by rw [← hw2]; simp [e1]
  rw [hw2] at hR0 G2 B2
  have O3 : OwnI (w2.alloc (.cells #[.int .i64 q] 3)) w.heap.size (some ⟨w2.heap.size, 0, none⟩) 1 (natsI [q]) := OwnI.of_blk (l := [(q : Int)]) (Blk.new w2 3 #[.int .i64 q]) B2.size (by simp [maxLen])
  have R3 : OwnRows (w2.alloc (.cells #[.int .i64 q] 3)) w.heap.size (some ⟨w.heap.size + 1 + 1, 0, none⟩) 1 [.slice (some ⟨w.heap.size + 1, 0, none⟩) 1 1] [[(q : Int)]] := hR0.kept fun k hk => Below.heap_alloc _ _ _ (hR0.lt hk).2
  have G3 := G2.alloc (.cells #[.int .i64 q] 3)
  have B3 := B2.alloc B2.size (.cells #[.int .i64 q] 3)
  have HD0 : Hid (∀ k, rowBlock (some ⟨w.heap.size + 1 + 1, 0, none⟩) [.slice (some ⟨w.heap.size + 1, 0, none⟩) 1 1] k → ∀ k', blockOf (some ⟨w2.heap.size, 0, none⟩) k' → k ≠ k') := by
    rintro k hk k' ⟨a, ha, rfl⟩
    injection ha with ha
    subst ha
    have := (hR0.lt hk).2
    show k ≠ w2.heap.size
    omega
  rw [e2] at O3 HD0
  obtain ⟨w3, hw3⟩ : ∃ w3, w2.alloc (.cells #[.int .i64 q] 3) = w3 := ⟨_, rfl⟩
  rw [hw3] at O3 R3 G3 B3
  have HW1 := Lib.hid hw1
  have HW2 := Lib.hid hw2
  have HW3 := Lib.hid hw3
  clear hF hok hcl hw1 hw2 hw3 g0 hb0 G2 hR0 B2 e1 e2 hs1
  go_enter Try.func83, Try.ntmps83
  go_wp2
  rw [HW1.out, HW2.out, HW3.out]
  go_loopw [7, 8, 9, 10] (fun t7 t8 t9 t10 wr => ∃ (k : Nat) (l : List Nat) (ws : List (List Int)) (A1 : Option Addr) (c1 : Nat) (vs : List Value) (A2 : Option Addr) (c2 : Nat), 1 ≤ k ∧ k ≤ n ∧ t9 = .int .i64 k ∧ t7 = .slice A1 ws.length c1 ∧ t8 = .slice A2 (natsI l).length c2 ∧
      Hid (LOk n l) ∧ Hid (F = ws ++ (roundsL es cs n (n - k) l).map natsI) ∧ ws.length ≤ l.length ∧ l.length ≤ n ∧ Below w.heap.size w wr ∧ Blk wr w.heap.size 24 #[.int .i64 n, .slice A es.length c] ∧ OwnRows wr w.heap.size A1 c1 vs ws ∧ OwnI wr w.heap.size A2 c2 (natsI l) ∧
      Hid (∀ k, rowBlock A1 vs k → ∀ k', blockOf A2 k' → k ≠ k')) (fun _ _ i _ _ => n - (intOf i).toNat)
  case atStart => exact ⟨1, [q], [[(q : Int)]], _, 1, _, _, 1, by omega, by omega, rfl, rfl, rfl, HOK0.out, hF0.out, by simp, nodup_len HOK0.out, B3, G3, R3, O3, HD0.out⟩
  case round =>
    obtain ⟨k, l, ws, A1, c1, vs, A2, c2, hk1, hk, rfl, rfl, rfl, HL, HS, hwl, hln, hbel, g4, R4, O4, HD⟩ := hrel
    clear O3 R3 G3 B3 HD0 hF0 HOK0
    have hsz := hbel.size
    have c0 := g4.cell 0
    have c1' := g4.cell 1
    have hnl := natsI_length l
    by_cases hlt : k < n
    · have hi : (k : Int) < (n : Int) := by omega
      have RQ := RC.out l (by omega) A2 c2 wr ((h.below hbel).more hsz) ((h'.below hbel).more hsz) (by have := O4.reads; rwa [hnl] at this)
      have hfu : n - k = n - (k + 1) + 1 := by omega
      have hs' := HS.out
      rw [hfu] at hs'
      obtain ⟨r, hr⟩ : ∃ r, readyL es cs n l = r := ⟨_, rfl⟩
      rw [hr, ← natsI_length r] at RQ
      rw [← hnl] at RQ
      have RQ := Lib.hid RQ
      by_cases hr0 : r = []
      · have HS2 : Hid (F = ws ++ (roundsL es cs n (n - (k + 1)) l).map natsI) := by rw [Hid, HS.out, rounds_none (by rw [hr, hr0]), rounds_none (by rw [hr, hr0])]
        subst hr0
        have hl00 : (natsI ([] : List Nat)).length = 0 := rfl
        clear hr hs' hfu hnl
        go_wp2_with fail
        refine (RQ.out).mono ?_
        rintro e w5 ⟨A5, c5, rfl, o5, hb5⟩
        go_wp2
        go_roundw
        case rel => exact ⟨k + 1, l, ws, A1, c1, vs, A2, c2, by omega, by omega, by go_num, rfl, rfl, HL.out, HS2.out, hwl, hln, hbel.trans (hb5.mono hsz), g4.next hb5, R4.next hb5, O4.next hb5, HD.out⟩
        case measure => simp [intOf]; omega
      · have hl0 : 0 < (natsI r).length := by rw [natsI_length]; exact List.length_pos_iff.2 hr0
        have HS2 : Hid (F = (ws ++ [natsI r]) ++ (roundsL es cs n (n - (k + 1)) (l ++ r)).map natsI) := by
          rw [Hid, hs', rounds_some (by rw [hr]; exact hr0), hr]; simp
        have HL2 : Hid (LOk n (l ++ r)) := by rw [← hr]; exact ready_ok HL.out
        have hnl2 := nodup_len HL2.out
        rw [List.length_append] at hnl2
        have hrl : (natsI r).length ≤ 12 := by rw [natsI_length]; omega
        have hlen : (0 : Int) < ((natsI r).length : Int) := by omega
        have hll : (natsI l).length ≤ 12 := by omega
        have HNR := Lib.hid (natsI_length r)
        have HNL := Lib.hid hnl
        have hwsl : ws.length ≤ 12 := by omega
        clear hr hs' hfu hr0 hnl
        go_wp2_with fail
        refine (RQ.out).mono ?_
        rintro e w5 ⟨A5, c5, rfl, o5, hb5⟩
        have g5 := g4.next hb5
        have R5 := R4.next hb5
        have O5 := O4.next hb5
        have hB5 := hbel.trans (hb5.mono hsz)
        have hs5 := hB5.size
        have o5' := o5.mono (base' := w.heap.size) hsz
        have hgl5 := g5.lt
        go_wp2_with first
          | (at_builtin; refine append_go rfl (.tmp 29) (.tmp 31) _ rfl w.heap.size 25 Try.underlying39 info_row rfl (by omega) A1 c1 ws.length vs rfl (World.ownsRow.alloc R5.1 _) _ [.slice A5 (natsI r).length c5] rfl (Reads.box _ _ _) (by simp [Value.oneCell']) (by omega) (by simp; omega) ?_; intro A6 c6 w6 hown6 hg6 hb6 hw6
             have g5a := g5.alloc (.cells #[.slice A5 (natsI r).length c5] 25)
             have R6 : OwnRows w6 w.heap.size A6 c6 (vs ++ [.slice A5 (natsI r).length c5]) (ws ++ [natsI r]) := OwnRows.push (R5.kept fun k hk => Below.heap_alloc _ _ _ (R5.lt hk).2) (OwnI.alloc o5' _) hown6 hg6
             have O6 : OwnI w6 w.heap.size A2 c2 (natsI l) := own_kept (OwnI.alloc O5 (.cells #[.slice A5 (natsI r).length c5] 25)) fun k hk => hg6.block k (by have := (own_lt O5 hk).2; simp; omega) fun e => own_ne O5 R5.1 (by decide) hk (blockOf_own.1 e.symm) rfl
             have o6 : OwnI w6 wr.heap.size A5 c5 (natsI r) := own_kept (OwnI.alloc o5 (.cells #[.slice A5 (natsI r).length c5] 25)) fun k hk => hg6.block k (by have := (own_lt o5 hk).2; simp; omega) fun e => own_ne o5 R5.1 (by decide) hk (blockOf_own.1 e.symm) rfl
             have g6 := Blk.grown g5a hg6 (own_blk_ne R5.1 g5 (by decide))
             have hB6 := (hB5.alloc hs5 (.cells #[.slice A5 (natsI r).length c5] 25)).trans hb6
             have hs56 : w5.heap.size + 1 ≤ w6.heap.size := by have := hg6.size; simpa using this
             have r6 := o6.reads
             have hs6 := hB6.size)
          | (at_builtin; refine append_go rfl (.tmp 33) (.tmp 34) _ rfl w.heap.size 3 Try.underlying25 info_int rfl (by omega) A2 c2 (natsI l).length (ints (natsI l)) rfl O6 _ (ints (natsI r)) rfl r6 (by simp [ints, Value.oneCell']) (by omega) (by omega) ?_; intro A7 c7 w7 hown7 hg7 hb7 hw7)
        go_roundw
        case rel =>
          have O7 : OwnI w7 w.heap.size A7 c7 (natsI (l ++ r)) := by
            unfold OwnI
            rw [show natsI (l ++ r) = natsI l ++ natsI r from by simp [natsI], List.length_append, show ints (natsI l ++ natsI r) = ints (natsI l) ++ ints (natsI r) from by simp [ints]]
            exact hown7
          have hnew : ∀ k, rowBlock A6 (vs ++ [.slice A5 (natsI r).length c5]) k → k < w6.heap.size ∧ ∀ k', blockOf A2 k' → k ≠ k' := by
            intro k hk
            refine ⟨(R6.lt hk).2, fun k' hk' => ?_⟩
            have hl2 := (own_lt O4 hk').2
            have hs45 := hb5.size
            rcases row_block_snoc hk with h1 | ⟨v, hv, h1⟩ | h1
            · rcases hw6 with h2 | h2
              · exact HD.out k (.inl (blockOf_own.1 (h2.symm.trans (blockOf_own.2 h1)))) k' hk'
              · have := (blockOf_own (n := ws.length + 1) (c := c6)).2 h1
                rw [h2] at this
                injection this with this
                simp at this
                omega
            · exact HD.out k (.inr ⟨v, hv, h1⟩) k' hk'
            · have := (own_lt o5 h1).1
              omega
          have hdis : ∀ k, rowBlock A6 (vs ++ [.slice A5 (natsI r).length c5]) k → (Value.slice A2 (natsI l).length c2).ownBlock ≠ some k := fun k hk e => (hnew k hk).2 k (blockOf_own.1 e) rfl
          have R7 : OwnRows w7 w.heap.size A6 c6 (vs ++ [.slice A5 (natsI r).length c5]) (ws ++ [natsI r]) := R6.kept fun k hk => hg7.block k (hnew k hk).1 fun e => hdis k hk e.symm
          have g7 := Blk.grown g6 hg7 (fun e => own_blk_ne O6 g6 (by decide) e)
          refine ⟨k + 1, l ++ r, ws ++ [natsI r], A6, c6, _, A7, c7, by omega, by omega, by go_num, by simp, by simp [natsI], HL2.out, HS2.out, by rw [List.length_append, List.length_append]; have := HNR.out; simp; omega, by rw [List.length_append]; omega, hB6.trans hb7, g7, R7, O7, ?_⟩
          intro k0 hk0 k1 hk1
          rcases hw7 with h2 | h2
          · exact (hnew k0 hk0).2 k1 (blockOf_own.1 (h2.symm.trans (blockOf_own.2 hk1)))
          · have := (blockOf_own (n := (natsI l).length + (natsI r).length) (c := c7)).2 hk1
            rw [h2] at this
            injection this with this
            have := (hnew k0 hk0).1
            omega
        case measure => simp [intOf]; omega
    · obtain rfl : k = n := by omega
      have hF1 : Hid (F = ws) := by rw [Hid, HS.out, Nat.sub_self]; simp [roundsL]
      go_wp2
      go_ret
      refine ⟨A1, c1, vs, F, HFF.out, ?_, by rw [hF1.out]; exact R4, hbel⟩
      rw [hF1.out]; rfl
end Go.Proofs.Ythbannpmfdflaaa
