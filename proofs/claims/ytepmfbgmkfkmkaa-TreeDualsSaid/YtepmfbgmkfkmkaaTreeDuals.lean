/-
  For every graph and list of single edges the law TreeDuals answers true: a single edge of a tree is on the cycle of another one exactly if this is in its cutset, and exactly then they can be swapped. There are no conditions.
-/
import Derived.Test.YtepmfbgmkfkmkaaK22
import Derived.Test.YtepmfbgmkfkmkaaK23
import Derived.Test.YtepmfbgmkfkmkaaK27
import Derived.Test.YtepmfbgmkfkmkaaK31
import Derived.Test.YtepmfbgmkfkmkaaK32
import Derived.Test.YtepmfbgmkfkmkaaK33
namespace Go.Proofs.Ytepmfbgmkfkmkaa
open Go.RowKit

set_option maxHeartbeats 1000000 in
theorem cycleOf_any (n : Int) (A : Option Addr) (c : Nat) (es : List E3) (hn : es.length ≤ 40) (hok : ∀ e ∈ es, okE n e) (B : Option Addr) (d : Nat) (xs : List Int) (hm : xs.length ≤ 1048576) (he : edgErr (endsL es).length xs = 0) (w : World) (h : Reads w w.heap.size 3 A es.length (edgeCells es)) (h' : Reads w w.heap.size 1 B xs.length (ints xs)) :
    Calls Try.prog 36 #[.agg #[.int .i64 n, .slice A es.length c], .slice B xs.length d] w fun e w' => e = .returned (.slice B xs.length d) ∧ Below w.heap.size w w' := by
  have EC := Lib.hid (fun (W : World) (hB : Below w.heap.size w W) => redges_any n A c es hn hok B d xs hm W ((h.below hB).more hB.size) ((h'.below hB).more hB.size))
  have g := Blk.new w 24 #[.int .i64 n, .slice A es.length c]
  have hB := (Below.refl w.heap.size w).alloc (Nat.le_refl _) (.cells #[.int .i64 n, .slice A es.length c] 24)
  have k0 := g.cell 0
  have k1 := g.cell 1
  rw [he] at EC
  clear he hok
  go_enter Try.func36, Try.ntmps36
  go_wp2_with fail
  refine (EC.out _ hB).mono ?_
  rintro e w1 ⟨rfl, hb⟩
  have hB := hB.trans (hb.mono hB.size)
  go_wp2
  go_ret
  exact ⟨rfl, hB⟩

set_option maxRecDepth 100000 in
set_option maxHeartbeats 16000000 in
theorem treeDuals_walk (w : World) (n : Int) (A : Option Addr) (c : Nat) (es : List E3) (_hm : es.length ≤ maxLen) (_hw : (Lit.int .i64 n).wf = true) (h : Reads w w.heap.size 3 A es.length (edgeCells es))
    (B : Option Addr) (d : Nat) (xs : List Int) (_hm' : xs.length ≤ maxLen) (_hw' : ∀ x ∈ xs, (Lit.int .i64 x).wf = true) (h' : Reads w w.heap.size 1 B xs.length (ints xs)) :
    Calls Try.prog 9 #[.agg #[.int .i64 n, .slice A es.length c], .slice B xs.length d] w fun e w' => e = .returned (.bool true) ∧ Below w.heap.size w w' := by
  have FC := Lib.hid (fun w h => few13_any n A c es B xs.length d w h)
  have AW := Lib.hid (fun w => awake13_any w)
  have g := Blk.new w 24 #[.int .i64 n, .slice A es.length c]
  have hB := (Below.refl w.heap.size w).alloc (Nat.le_refl _) (.cells #[.int .i64 n, .slice A es.length c] 24)
  have k0 := g.cell 0
  have k1 := g.cell 1
  by_cases hf : few13 n es xs.length = true
  · obtain ⟨hlen, hxl, _⟩ := few13_parts hf
    rw [hf] at FC
    have RC := Lib.hid (fun w h h' => rtcheck_any n A c es hlen B d xs (by omega) w h h')
    clear hf
    by_cases hz : treeErr n es xs = 0
    · obtain ⟨m, t, rfl, hxt, hR⟩ := treeR_of hz
      rw [hz] at RC
      have hG := hR.hG
      have hjo : joinErr m es = 0 := by obtain ⟨_, _, hm1, _, _, _, _, _, _, hj⟩ := tree_zero hz; exact hj
      have hz2 : treeErr m es (nI t) = 0 := hxt ▸ hz
      have hnl := nI_length t
      have hEl : (endsL es).length ≤ 2000 := endsL_len40 hG.ok hlen
      have hxtl : xs.length = t.length := by rw [hxt, hnl]
      have htl := hR.len
      have SC : Hid (∀ (W : World) (h : Reads W W.heap.size 3 A es.length (edgeCells es)), Calls Try.prog 34 #[.agg #[.int .i64 m, .slice A es.length c]] W fun e w' => e = .returned (.int .i64 ((endsL es).length : Nat)) ∧ Below W.heap.size W w') := by
        intro W h
        have := rsize_any m A c es hlen m hG.ok W h
        rw [size_ends] at this
        exact this
      have HCT : Hid (∀ (e : Nat) (W : World) (_ : Reads W W.heap.size 1 B xs.length (ints xs)), Calls Try.prog 31 #[.slice B xs.length d, .int .i64 e] W fun en w' => en = .returned (.bool (decide (e ∈ t))) ∧ W = w') := by
        intro e W hr
        refine (contains_any B d xs (by omega) e W hr).mono ?_
        rintro en w' ⟨rfl, he⟩
        exact ⟨by simp only [hxt, mem_nI], he⟩
      have CYC : Hid (∀ e : Nat, e < (endsL es).length → e ∉ t → ∃ s : List Nat, s.length ≤ 13 ∧ (∀ f ∈ t, f ∈ s ↔ Sep (endsL es) t ((endsL es).getD e (0, 0)).1 ((endsL es).getD e (0, 0)).2 f) ∧
          (∀ (W : World) (_ : Reads W W.heap.size 3 A es.length (edgeCells es)) (_ : Reads W W.heap.size 1 B xs.length (ints xs)), Calls Try.prog 22 #[.agg #[.int .i64 m, .slice A es.length c], .slice B xs.length d, .int .i64 e] W fun en w' => ∃ A' c', en = .returned (.tuple #[.slice A' s.length c', .int .i64 0]) ∧ Reads w' w'.heap.size 1 A' s.length (ints (nI s)) ∧ Below W.heap.size W w') ∧
          (∀ (A' : Option Addr) (c' : Nat) (W : World) (_ : Reads W W.heap.size 3 A es.length (edgeCells es)) (_ : Reads W W.heap.size 1 A' s.length (ints (nI s))), Calls Try.prog 36 #[.agg #[.int .i64 m, .slice A es.length c], .slice A' s.length c'] W fun en w' => en = .returned (.slice A' s.length c') ∧ Below W.heap.size W w') ∧
          (∀ (A' : Option Addr) (c' : Nat) (W : World) (_ : Reads W W.heap.size 3 A es.length (edgeCells es)) (_ : Reads W W.heap.size 1 A' s.length (ints (nI s))), Calls Try.prog 35 #[.agg #[.int .i64 m, .slice A es.length c], .slice A' s.length c'] W fun en w' => en = .returned (.bool true) ∧ Below W.heap.size W w')) := by
        intro e hel he
        obtain ⟨s, hs, hset, hp, hm⟩ := cycle_dual hR hz2 he hel
        have hbe := hR.hT.bd _ (List.mem_of_getElem? (getD_some hel))
        have hc := hR.cn hbe.1 hbe.2
        have hpl := path_len hR.hT hc
        have hsl : s.length ≤ 13 := by rw [hp.length_eq, List.length_cons]; omega
        obtain ⟨d1, d2, d3⟩ := cycle_dg hR.hT hc hbe.1 hp
        refine ⟨s, hsl, hm, fun W h h' => ?_, fun A' c' W h h' => ?_, fun A' c' W h h' => ?_⟩
        · refine (tcycle_all m A c es (by omega) B d xs (by omega) e W h h').mono ?_
          rintro en w' ⟨A', c', rfl, o, hb⟩
          rw [hxt, hs] at o ⊢
          have o := o.reads
          dsimp only at o ⊢
          rw [nI_length] at o ⊢
          exact ⟨A', c', rfl, o, hb⟩
        · have := cycleOf_any m A c es hlen hG.ok A' c' (nI s) (by rw [nI_length]; omega) (edg_ok hset) W h (by rw [nI_length]; exact h')
          rw [nI_length] at this
          exact this
        · refine riscyc_any m A c es hlen hG A' c' s hset.2 (by omega) (by rw [hp.length_eq]; simp) (fun v _ => d1 v) ?_ W h h'
          unfold twoL; rw [d2]; exact d3
      have DUA : Hid (∀ (e f : Nat), e < (endsL es).length → e ∉ t → f ∈ t → ∀ b, decide (Sep (endsL es) t ((endsL es).getD e (0, 0)).1 ((endsL es).getD e (0, 0)).2 f) = b →
          (∃ k : List Nat, k.length ≤ 2000 ∧ decide (e ∈ k) = b ∧ ∀ (W : World) (_ : Reads W W.heap.size 3 A es.length (edgeCells es)) (_ : Reads W W.heap.size 1 B xs.length (ints xs)), Calls Try.prog 24 #[.agg #[.int .i64 m, .slice A es.length c], .slice B xs.length d, .int .i64 f] W fun en w' => ∃ A' c', en = .returned (.tuple #[.slice A' k.length c', .int .i64 0]) ∧ Reads w' w'.heap.size 1 A' k.length (ints (nI k)) ∧ Below W.heap.size W w') ∧
          (b = true → ∃ u : List Nat, u.length ≤ 12 ∧ treeErr m es (nI u) = 0 ∧ ∀ (W : World) (_ : Reads W W.heap.size 3 A es.length (edgeCells es)) (_ : Reads W W.heap.size 1 B xs.length (ints xs)), Calls Try.prog 26 #[.agg #[.int .i64 m, .slice A es.length c], .slice B xs.length d, .int .i64 f, .int .i64 e] W fun en w' => ∃ A' c', en = .returned (.tuple #[.slice A' u.length c', .int .i64 0]) ∧ Reads w' w'.heap.size 1 A' u.length (ints (nI u)) ∧ Below W.heap.size W w') ∧
          (b = false → ∀ (W : World) (_ : Reads W W.heap.size 3 A es.length (edgeCells es)) (_ : Reads W W.heap.size 1 B xs.length (ints xs)), Calls Try.prog 26 #[.agg #[.int .i64 m, .slice A es.length c], .slice B xs.length d, .int .i64 f, .int .i64 e] W fun en w' => ∃ A' c', en = .returned (.tuple #[.slice A' 0 c', .int .i64 15]) ∧ Below W.heap.size W w')) := by
        intro e f hel he hf b hb
        obtain ⟨k1, k2⟩ := cut_dual hR hz2 hf
        obtain ⟨u, s1, s2, s3⟩ := swap_dual hR hz2 hf he hel
        refine ⟨⟨cutL (endsL es) t f, ?_, ?_, fun W h h' => ?_⟩, fun hbt => ⟨u, s2, ?_, fun W h h' => ?_⟩, fun hbf W h h' => ?_⟩
        · refine Nat.le_trans (List.length_filter_le _ _) ?_
          rw [List.length_range]; exact hEl
        · rw [← hb, Bool.eq_iff_iff, decide_eq_true_eq, decide_eq_true_eq, k2 e hel]
        · refine (tcutset_all m A c es hlen B d xs (by omega) f W h h').mono ?_
          rintro en w' ⟨A', c', rfl, o, hb⟩
          rw [hxt, k1] at o ⊢
          have o := o.reads
          dsimp only at o ⊢
          rw [nI_length] at o ⊢
          exact ⟨A', c', rfl, o, hb⟩
        · rw [hbt, decide_eq_true_eq] at hb
          exact tree_ok hjo (s3 hb)
        · rw [hbt, decide_eq_true_eq] at hb
          rw [if_pos hb] at s1
          refine (tswap_all m A c es hlen B d xs (by omega) f e W h h').mono ?_
          rintro en w' ⟨A', c', rfl, o, hb⟩
          rw [hxt, s1] at o ⊢
          have o := o.reads
          dsimp only at o ⊢
          rw [nI_length] at o ⊢
          exact ⟨A', c', rfl, o, hb⟩
        · rw [hbf, decide_eq_false_iff_not] at hb
          rw [if_neg hb] at s1
          refine (tswap_all m A c es hlen B d xs (by omega) f e W h h').mono ?_
          rintro en w' ⟨A', c', rfl, o, hb⟩
          rw [hxt, s1]
          exact ⟨A', c', rfl, hb⟩
      have HAS : Hid (∀ (s : List Nat) (v : Nat) (b : Bool) (_ : s.length ≤ 2000) (_ : decide (v ∈ s) = b) (A' : Option Addr) (c' : Nat) (W : World) (_ : Reads W W.heap.size 1 A' s.length (ints (nI s))), Calls Try.prog 31 #[.slice A' s.length c', .int .i64 v] W fun en w' => en = .returned (.bool b) ∧ W = w') := by
        rintro s v b hl rfl A' c' W hr
        have := contains_any A' c' (nI s) (by rw [nI_length]; omega) v W (by rw [nI_length]; exact hr)
        rw [nI_length] at this
        refine this.mono ?_
        rintro en w' ⟨rfl, he⟩
        exact ⟨by simp only [mem_nI], he⟩
      have CHK : Hid (∀ (u : List Nat) (_ : u.length ≤ 12) (_ : treeErr m es (nI u) = 0) (A' : Option Addr) (c' : Nat) (W : World) (_ : Reads W W.heap.size 3 A es.length (edgeCells es)) (_ : Reads W W.heap.size 1 A' u.length (ints (nI u))), Calls Try.prog 14 #[.agg #[.int .i64 m, .slice A es.length c], .slice A' u.length c'] W fun en w' => en = .returned (.int .i64 0) ∧ Below W.heap.size W w') := by
        intro u hl hz A' c' W h hr
        have := tcheck_any m A c es (by omega) A' c' (nI u) (by rw [nI_length]; omega) W h (by rw [nI_length]; exact hr)
        rw [hz, nI_length] at this
        exact this
      have HXT : Hid (∀ (j f : Nat), t[j]? = some f → (ints xs)[j]? = some (Value.int .i64 (f : Int))) := fun j f hj => by rw [hxt]; exact ints_at (nI_at hj)
      obtain ⟨L, hL⟩ : ∃ L, (endsL es).length = L := ⟨_, rfl⟩
      rw [hL] at SC CYC DUA
      have HL : Hid (L ≤ 2000) := hL ▸ hEl
      have HXL := Lib.hid hxtl
      have hxl30 : xs.length ≤ 30 := hxl
      clear hz hz2 hjo hR hG hnl hEl hxt hL htl hxl hlen hxtl
      go_enter Try.func9, Try.ntmps9
      go_wp2_with fail
      refine (FC.out _ ((h.below hB).more hB.size)).mono ?_
      rintro e wn ⟨rfl, hb⟩
      have g := g.next hb
      have hB := hB.trans (hb.mono hB.size)
      have k0 := g.cell 0
      have k1 := g.cell 1
      clear hb
      go_wp2_with fail
      refine (RC.out _ ((h.below hB).more hB.size) ((h'.below hB).more hB.size)).mono ?_
      rintro e wn ⟨rfl, hb⟩
      have g := g.next hb
      have hB := hB.trans (hb.mono hB.size)
      have k0 := g.cell 0
      have k1 := g.cell 1
      clear hb
      go_wp2_with fail
      refine (SC.out _ ((h.below hB).more hB.size)).mono ?_
      rintro e wn ⟨rfl, hb⟩
      have g := g.next hb
      have hB := hB.trans (hb.mono hB.size)
      have k0 := g.cell 0
      have k1 := g.cell 1
      clear hb
      have HB := Lib.hid hB
      have HGr := Lib.hid g
      obtain ⟨w0, rfl⟩ : ∃ w0 : World, w0 = wn := ⟨_, rfl⟩
      clear hB g k0 k1 FC RC SC
      go_wp2_with fail
      go_loopw [28] (fun i wr => ∃ e : Nat, i = .int .i64 e ∧ e ≤ L ∧ Hid (Below w.heap.size w wr) ∧ Hid (Blk wr w.heap.size 24 #[.int .i64 m, .slice A es.length c])) (fun i _ => L - (intOf i).toNat)
      case atStart => exact ⟨0, rfl, by omega, HB, HGr⟩
      case round =>
        obtain ⟨e, rfl, he, HB, HGr⟩ := hrel
        have hL2 := HL.out
        have k0 := HGr.out.cell 0
        have k1 := HGr.out.cell 1
        have hR1 : Hid (Reads wr wr.heap.size 1 B xs.length (ints xs)) := (h'.below HB.out).more HB.out.size
        by_cases hlt : e < L
        · have hi : (e : Int) < (L : Int) := by omega
          have HC := Lib.hid (HCT.out e wr hR1.out)
          by_cases het : e ∈ t
          · rw [decide_eq_true het] at HC
            clear het
            go_wp2_with fail
            refine (HC.out).mono ?_
            rintro en w5 ⟨rfl, rfl⟩
            go_wp2
            go_roundw
            case rel => exact ⟨e + 1, by go_num, by omega, HB, HGr⟩
            case measure => simp [intOf]; omega
          · rw [decide_eq_false het] at HC
            obtain ⟨s, hsl, hsm, C1, C2, C3⟩ := CYC.out e hlt het
            have HSM := Lib.hid hsm
            have C1 := Lib.hid C1
            have C2 := Lib.hid C2
            have C3 := Lib.hid C3
            have HET := Lib.hid het
            have g := HGr.out
            have hB := HB.out
            clear het hsm
            go_wp2_with fail
            refine (HC.out).mono ?_
            rintro en w5 ⟨rfl, rfl⟩
            go_wp2_with fail
            refine (C1.out _ ((h.below hB).more hB.size) ((h'.below hB).more hB.size)).mono ?_
            rintro e wn ⟨AC, cC, rfl, rS, hb⟩
            have g := g.next hb
            have hB := hB.trans (hb.mono hB.size)
            have k0 := g.cell 0
            have k1 := g.cell 1
            clear hb
            go_wp2_with fail
            have g := g.drew
            have hB := hB.drew
            have k0 := g.cell 0
            have k1 := g.cell 1
            have rS : Reads wn.drew wn.drew.heap.size 1 AC s.length (ints (nI s)) := rS
            go_region_held3 (fun W => W.cell? ⟨w.heap.size, 0, none⟩ = some (.int .i64 m) ∧ W.cell? ⟨w.heap.size, 1, none⟩ = some (.slice A es.length c)) (go_keep) (first
              | (go_at_call 36; refine (C2.out _ _ _ ((h.below hB).more hB.size) (by exact rS)).mono ?_; rintro en wx ⟨rfl, hb⟩; have rS := rS.next hb; have g := g.next hb; have hB := hB.trans (hb.mono hB.size); have k0 := g.cell 0; have k1 := g.cell 1)
              | (go_at_call 35; refine (C3.out _ _ _ ((h.below hB).more hB.size) (by exact rS)).mono ?_; rintro en wx ⟨rfl, hb⟩; have rS := rS.next hb; have g := g.next hb; have hB := hB.trans (hb.mono hB.size); have k0 := g.cell 0; have k1 := g.cell 1))
            all_goals (
              have HB := Lib.hid hB
              have HGr := Lib.hid g
              have HRS := Lib.hid rS
              obtain ⟨wo, rfl⟩ : ∃ wo : World, wo = wx := ⟨_, rfl⟩
              clear hB g k0 k1 rS hb C1 C2 C3 HC
              go_wp2_with fail
              go_loopw [53] (fun i wl => ∃ j : Nat, i = .int .i64 j ∧ j ≤ xs.length ∧ Hid (Below w.heap.size w wl) ∧ Hid (Blk wl w.heap.size 24 #[.int .i64 m, .slice A es.length c]) ∧ Hid (Reads wl wl.heap.size 1 AC s.length (ints (nI s)))) (fun i _ => xs.length - (intOf i).toNat)
              case atStart => exact ⟨0, rfl, by omega, HB, HGr, HRS⟩
              case round =>
                obtain ⟨j, rfl, hj, HB, HGr, HRS⟩ := hrel
                by_cases hlj : j < xs.length
                · have hij : (j : Int) < (xs.length : Int) := by omega
                  obtain ⟨f, hfj⟩ := get_of_lt (xs := t) (k := j) (by rw [← HXL.out]; exact hlj)
                  have hft := List.mem_of_getElem? hfj
                  have g := HGr.out
                  have hB := HB.out
                  have rS := HRS.out
                  have k0 := g.cell 0
                  have k1 := g.cell 1
                  obtain ⟨bB, oB, eB, hbB, qB⟩ := ((h'.below hB).more hB.size).at_ (HXT.out j f hfj)
                  subst eB
                  obtain ⟨b, hb⟩ : ∃ b, decide (Sep (endsL es) t ((endsL es).getD e (0, 0)).1 ((endsL es).getD e (0, 0)).2 f) = b := ⟨_, rfl⟩
                  obtain ⟨⟨k, kl, kb, KC⟩, DT, DF⟩ := DUA.out e f hlt HET.out hft b hb
                  have S1 := Lib.hid (HAS.out s f b (by omega) (by rw [← hb, Bool.eq_iff_iff, decide_eq_true_eq, decide_eq_true_eq]; exact HSM.out f hft))
                  have S2 := Lib.hid (HAS.out k e b kl kb)
                  have KC := Lib.hid KC
                  clear hb kb hfj hft
                  rcases b with _ | _
                  · have SW := Lib.hid (DF rfl)
                    clear DT DF
                    go_wp2_with fail
                    refine (KC.out _ ((h.below hB).more hB.size) ((h'.below hB).more hB.size)).mono ?_
                    rintro e wn ⟨A5, c5, rfl, o5, hb⟩
                    have rS := rS.next hb
                    have g := g.next hb
                    have hB := hB.trans (hb.mono hB.size)
                    have k0 := g.cell 0
                    have k1 := g.cell 1
                    clear hb
                    go_wp2_with fail
                    refine (SW.out _ ((h.below hB).more hB.size) ((h'.below hB).more hB.size)).mono ?_
                    rintro e wn ⟨A6, c6, rfl, hb⟩
                    have rS := rS.next hb
                    have o5 := o5.next hb
                    have g := g.next hb
                    have hB := hB.trans (hb.mono hB.size)
                    have k0 := g.cell 0
                    have k1 := g.cell 1
                    clear hb
                    go_wp2_with fail
                    refine (S1.out _ _ _ rS).mono ?_
                    rintro en w9 ⟨rfl, rfl⟩
                    go_wp2_with fail
                    refine (S2.out _ _ _ o5).mono ?_
                    rintro en w9 ⟨rfl, rfl⟩
                    go_wp2
                    go_roundw
                    case rel => exact ⟨j + 1, by go_num, by omega, hB, g, rS⟩
                    case measure => simp [intOf]; omega
                  · obtain ⟨u, ul, uz, SW⟩ := DT rfl
                    have SW := Lib.hid SW
                    have CK := Lib.hid (CHK.out u ul uz)
                    clear DT DF uz
                    go_wp2_with fail
                    refine (KC.out _ ((h.below hB).more hB.size) ((h'.below hB).more hB.size)).mono ?_
                    rintro e wn ⟨A5, c5, rfl, o5, hb⟩
                    have rS := rS.next hb
                    have g := g.next hb
                    have hB := hB.trans (hb.mono hB.size)
                    have k0 := g.cell 0
                    have k1 := g.cell 1
                    clear hb
                    go_wp2_with fail
                    refine (SW.out _ ((h.below hB).more hB.size) ((h'.below hB).more hB.size)).mono ?_
                    rintro e wn ⟨A6, c6, rfl, o6, hb⟩
                    have rS := rS.next hb
                    have o5 := o5.next hb
                    have g := g.next hb
                    have hB := hB.trans (hb.mono hB.size)
                    have k0 := g.cell 0
                    have k1 := g.cell 1
                    clear hb
                    go_wp2_with fail
                    refine (S1.out _ _ _ rS).mono ?_
                    rintro en w9 ⟨rfl, rfl⟩
                    go_wp2_with fail
                    refine (S2.out _ _ _ o5).mono ?_
                    rintro en w9 ⟨rfl, rfl⟩
                    go_wp2_with fail
                    refine (CK.out _ _ _ ((h.below hB).more hB.size) o6).mono ?_
                    rintro e wn ⟨rfl, hb⟩
                    have rS := rS.next hb
                    have g := g.next hb
                    have hB := hB.trans (hb.mono hB.size)
                    have k0 := g.cell 0
                    have k1 := g.cell 1
                    clear hb
                    go_wp2
                    go_roundw
                    case rel => exact ⟨j + 1, by go_num, by omega, hB, g, rS⟩
                    case measure => simp [intOf]; omega
                · obtain rfl : j = xs.length := by omega
                  go_wp2
                  go_roundw
                  case rel => exact ⟨e + 1, by go_num, by omega, HB, HGr⟩
                  case measure => simp [intOf]; omega)
        · obtain rfl : e = L := by omega
          have hB := HB.out
          go_wp2_with fail
          refine (AW.out _).mono ?_
          rintro en wn ⟨rfl, hb⟩
          have hB := hB.trans (hb.mono hB.size)
          go_wp2
          go_ret
          exact ⟨rfl, hB⟩
    · obtain ⟨z, hzz⟩ : ∃ z, treeErr n es xs = z := ⟨_, rfl⟩
      rw [hzz] at RC hz
      have hz2 : (z != 0) = true := by simpa using hz
      clear hzz hz hxl hlen
      go_enter Try.func9, Try.ntmps9
      go_wp2_with fail
      refine (FC.out _ ((h.below hB).more hB.size)).mono ?_
      rintro e wn ⟨rfl, hb⟩
      have g := g.next hb
      have hB := hB.trans (hb.mono hB.size)
      have k0 := g.cell 0
      have k1 := g.cell 1
      clear hb
      go_wp2_with fail
      refine (RC.out _ ((h.below hB).more hB.size) ((h'.below hB).more hB.size)).mono ?_
      rintro e wn ⟨rfl, hb⟩
      have g := g.next hb
      have hB := hB.trans (hb.mono hB.size)
      have k0 := g.cell 0
      have k1 := g.cell 1
      clear hb
      go_wp2_with fail
      refine (AW.out _).mono ?_
      rintro e wn ⟨rfl, hb⟩
      have g := g.next hb
      have hB := hB.trans (hb.mono hB.size)
      have k0 := g.cell 0
      have k1 := g.cell 1
      clear hb
      go_wp2
      go_ret
      exact ⟨rfl, hB⟩
  · have hf' : few13 n es xs.length = false := by simpa using hf
    rw [hf'] at FC
    clear hf hf'
    go_enter Try.func9, Try.ntmps9
    go_wp2_with fail
    refine (FC.out _ ((h.below hB).more hB.size)).mono ?_
    rintro e wn ⟨rfl, hb⟩
    have g := g.next hb
    have hB := hB.trans (hb.mono hB.size)
    have k0 := g.cell 0
    have k1 := g.cell 1
    clear hb
    go_wp2_with fail
    refine (AW.out _).mono ?_
    rintro e wn ⟨rfl, hb⟩
    have g := g.next hb
    have hB := hB.trans (hb.mono hB.size)
    have k0 := g.cell 0
    have k1 := g.cell 1
    clear hb
    go_wp2
    go_ret
    exact ⟨rfl, hB⟩

namespace lawTreeDuals
open Go.ChangeShapes Go.WideShapes Go.ChangeAt Go.RowKit
set_option linter.unusedVariables false
set_option maxRecDepth 100000 in
theorem lifted (os : Os) (started : os.Started) (H : Type) (enc : TypeId × Value → H) :
    ReturnsInHanded {} Try.checked os 9 .any (Rows.treeDualsSpec.pre6 enc Try.prog Try.f9 Rows.treeDualsRow.domain false) (Rows.treeDualsSpec.post enc Try.prog Try.f9 false true false false) := by
  refine returnsInHanded_of_change (C := Try.checked) own started (by kernel_rfl) Try.func9
    (ChangeSpec.witness6 (enc := enc) (C := Try.checked) false ⟨#[], #[.agg #[.int .i64 0, .slice none 0 0], .slice none 0 0], []⟩ 8 (by kernel_rfl) (by kernel_rfl) (by kernel_rfl) (by kernel_rfl)) ?_
  intro W base args ds gs before hval0 hW hcnd _
  have hval : ∀ (j : Nat) t v, Try.f9.params[j]? = some t → args[j]? = some v → Value.okWide Try.prog W .any base t v := hval0
  have hW' := hW
  obtain ⟨p, q, hA0, hV, rfl, hfz, hnd⟩ := hW
  have hA : DataW.TrodAll enc Try.prog W 0 (fun _ => true) true Try.f9.params.toList args.toList ds p := hA0
  rw [Try.params9] at hA hval
  obtain ⟨v0, vs0, d0, ds0, p0, q0, hargs, rfl, rfl, h0, r0⟩ := trodAll_cons hA
  obtain ⟨v1, vs1, d1, ds1, p1, q1, rfl, rfl, rfl, h1, r1⟩ := trodAll_cons r0
  obtain ⟨rfl, rfl, rfl⟩ := trodAll_nil r1
  obtain rfl : args = #[v0, v1] := by cases args; simp_all
  obtain ⟨rfl, rfl⟩ := trodVars_none hV
  obtain ⟨cs0, rfl, _⟩ := okWide_struct Try.underlying24 (hval 0 24 v0 rfl rfl)
  have k0 := h0
  have lt0 : ∀ x ∈ p0, x.block < W.heap.size := by obtain ⟨m, hm⟩ := k0; exact DataW.trod_lt m _ _ _ hm
  obtain ⟨_, hf0⟩ := h0
  obtain ⟨n0, a0, cap0, xs0, hcs0, hm0, hr0, hw0⟩ := open_graph hf0
  obtain rfl : cs0 = #[.int .i64 n0, .slice a0 xs0.length cap0] := Array.toList_inj.1 hcs0
  obtain ⟨a1, len1, cap1, rfl⟩ := okWide_slice Try.underlying25 (hval 1 25 v1 rfl rfl)
  have k1 := h1
  have lt1 : ∀ x ∈ p1, x.block < W.heap.size := by obtain ⟨m, hm⟩ := k1; exact DataW.trod_lt m _ _ _ hm
  obtain ⟨z1, w1⟩ : ∃ zs, IsRow .i64 W a1 len1 cap1 zs := by
    obtain ⟨fuel, hf⟩ := h1
    rcases open_ints Try.underlying25 Try.underlying3 (by kernel_rfl) hf with ⟨hcs, _⟩ | ⟨x, l, c, zs, hcs, _, hl, hm, hz, _, hcell, hwz⟩
    · simp [Value.cells] at hcs
      obtain ⟨rfl, rfl, rfl⟩ := hcs
      exact ⟨[], .inl ⟨rfl, rfl, rfl, rfl⟩⟩
    · simp [Value.cells] at hcs
      obtain ⟨rfl, rfl, rfl⟩ := hcs
      exact ⟨zs, .inr ⟨_, rfl, hl, hm, by simpa using hz, hcell, hwz⟩⟩
  obtain ⟨xs1, rfl, hm1, hr1, hw1⟩ := w1.reads
  clear hA0 hval0
  refine (treeDuals_walk W n0 a0 cap0 xs0 hm0 hw0 hr0 a1 cap1 xs1 hm1 hw1 hr1).mono fun e W' ⟨he, bel⟩ => ?_
  subst he
  exact ⟨_, rfl, _, _, _, [], _, [], hW', trodAll_mk1 (shut_bool Try.underlying4 _), (trodAll_cons_mk (Below.trod laidOut (by kernel_rfl) (of_decide_eq_true (by kernel_rfl)) k0 bel lt0) (trodAll_cons_mk (Below.trod laidOut (by kernel_rfl) (of_decide_eq_true (by kernel_rfl)) k1 bel lt1) trodAll_mk0)), rfl, bel.frame _, fun h => by cases h⟩

theorem over : Rows.treeDualsRow.holds Try.pinned (OpenSpec.ofChange Rows.treeDualsSpec) :=
  OpenClaim.holds_of_wide 9 Try.f9 rfl rfl rfl rfl rfl rfl rfl ⟨rfl, rfl, rfl, rfl, rfl⟩ rfl rfl rfl rfl rfl (by kernel_rfl) Try.func9 (by kernel_rfl)
    (of_decide_eq_true (by kernel_rfl)) (by unfold Func.isWrapper; first | (rw [if_pos (by decide +kernel)]; kernel_rfl) | (rw [if_neg (by decide +kernel)]; exact ⟨rfl, rfl⟩))
    (fun os started H enc _ => lifted os started H enc)

/-- For every graph and list of single edges the law answers true: a single edge of a tree is on the cycle of another one exactly if this is in its cutset, and exactly then they can be swapped. -/
theorem proved : Rows.TreeDualsSaid := over
#print axioms proved
end lawTreeDuals
end Go.Proofs.Ytepmfbgmkfkmkaa
