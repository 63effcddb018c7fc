/-
  Texts of this claim, put together: RIn31, RFound31, RIntv31.
-/
import Derived.Test.YtplgbapbgcipdaaGreatDoorK39
import Derived.Test.YtplgbapbgcipdaaGreatDoorK15
import Derived.Test.YtplgbapbgcipdaaGreatDoorK35
import Derived.Test.YtplgbapbgcipdaaGreatDoorK30
import Derived.Test.YtplgbapbgcipdaaGreatDoorK28
import Derived.Test.YtplgbapbgcipdaaGreatDoorK38
/-! The reference's In: whether a set is in the interval of a tree. -/
namespace Go.Proofs.YtplgbapbgcipdaaGreatDoor
open Go.RowKit

/-- Whether a single edge is as the interval wants it. -/
def goodE (t ins outs S : List Nat) (e : Nat) : Prop := (e ∈ t → e ∈ ins ∨ e ∈ S) ∧ (e ∉ t → e ∈ outs ∨ e ∉ S)
theorem good_iv {E : List (Nat × Nat)} {t S : List Nat} (ht : ∀ f ∈ t, f < E.length) : (∀ e, e < E.length → goodE t (insA E t) (outA E t) S e) ↔ InIv E S t := by
  constructor
  · intro h
    refine ⟨fun f hf hn => ?_, fun e he hS hn => ?_⟩
    · rcases (h f (ht f hf)).1 hf with h1 | h1
      · exact of_decide_eq_true (List.mem_filter.1 h1).2
      · exact absurd h1 hn
    · rcases (h e he).2 hn with h1 | h1
      · have := (List.mem_filter.1 h1).2
        rw [Bool.and_eq_true] at this
        exact of_decide_eq_true this.2
      · exact absurd hS h1
  · intro h e he
    refine ⟨fun hf => ?_, fun hn => ?_⟩
    · by_cases hS : e ∈ S
      · exact .inr hS
      · exact .inl (List.mem_filter.2 ⟨hf, decide_eq_true (h.1 e hf hS)⟩)
    · by_cases hS : e ∈ S
      · exact .inl (List.mem_filter.2 ⟨List.mem_range.2 he, by rw [decide_eq_false hn, decide_eq_true (h.2 e he hS hn)]; rfl⟩)
      · exact .inr hS
set_option maxRecDepth 100000 in
set_option maxHeartbeats 8000000 in
theorem rin31_any (m : Nat) (A : Option Addr) (c : Nat) (es : List E3) (hn : es.length ≤ 40) (B : Option Addr) (d : Nat) (t : List Nat) (hR : TreeR m es t) (C : Option Addr) (f : Nat) (S : List Nat) (hS : S.length ≤ 1048576) (w : World) (h : Reads w w.heap.size 3 A es.length (edgeCells es)) (h' : Reads w w.heap.size 1 B t.length (ints (nI t))) (h'' : Reads w w.heap.size 1 C S.length (ints (nI S))) :
    Calls Tryz.prog 102 #[.agg #[.int .i64 m, .slice A es.length c], .slice B t.length d, .slice C S.length f] w fun e w' => e = .returned (.bool (decide (InIv (endsL es) S t))) ∧ Below w.heap.size w w' := by
  have g := Blk.new w 24 #[.int .i64 m, .slice A es.length c]
  have hB0 : Below w.heap.size w (w.alloc (.cells #[.int .i64 m, .slice A es.length c] 24)) := (Below.refl _ _).alloc (Nat.le_refl _) _
  obtain ⟨w0, hw0⟩ : ∃ w0, w.alloc (.cells #[.int .i64 m, .slice A es.length c] 24) = w0 := ⟨_, rfl⟩
  rw [hw0] at g hB0
  obtain ⟨MM, hMM⟩ : ∃ M, (endsL es).length = M := ⟨_, rfl⟩
  have hm2 := endsL_length hR.hG.ok
  have SZ : Hid (∀ W, Below w.heap.size w W → Calls Tryz.prog 28 #[.agg #[.int .i64 m, .slice A es.length c]] W fun e w' => e = .returned (.int .i64 (MM : Nat)) ∧ Below W.heap.size W w') := fun W hB => by
    have := rsize_any m A c es hn m hR.hG.ok W ((h.below hB).more hB.size)
    rw [size_ends, hMM] at this
    exact this
  have HOL : ∀ (D : Option Addr) (k : Nat) (l : List Nat) (_ : l.length ≤ 1048576) (x : Nat) (W : World), Reads W W.heap.size 1 D l.length (ints (nI l)) → Calls Tryz.prog 68 #[.slice D l.length k, .int .i64 x] W fun e w' => e = .returned (.bool (decide (x ∈ l))) ∧ W = w' := fun D k l hl x W hr => by
    have := holds_any D k (nI l) (by rw [nI_length]; exact hl) x W (by rw [nI_length]; exact hr)
    rw [nI_length] at this
    rw [show decide (x ∈ l) = decide ((x : Int) ∈ nI l) from decide_eq_decide.2 mem_nI9.symm]
    exact this
  have ht12 : t.length ≤ 12 := by have := hR.tr.len; have := hR.hi; omega
  have hIV := good_iv (S := S) hR.tr.set.2
  rw [hMM] at hIV
  have HD : decide (InIv (endsL es) S t) = true ↔ ∀ e, e < MM → goodE t (insA (endsL es) t) (outA (endsL es) t) S e := by rw [decide_eq_true_eq, ← hIV]
  obtain ⟨R, hRR⟩ : ∃ R, decide (InIv (endsL es) S t) = R := ⟨_, rfl⟩
  rw [hRR] at HD ⊢
  have IC := Lib.hid (fun (W : World) (hB : Below w.heap.size w W) => rinside_any m A c es hn B d t hR W ((h.below hB).more hB.size) ((h'.below hB).more hB.size))
  have OC := Lib.hid (fun (W : World) (hB : Below w.heap.size w W) => routside_any m A c es hn B d t hR W ((h.below hB).more hB.size) ((h'.below hB).more hB.size))
  have hil : (insA (endsL es) t).length ≤ 1048576 := by
    have h1 : (insA (endsL es) t).length ≤ t.length := List.length_filter_le _ _
    omega
  have hol : (outA (endsL es) t).length ≤ 1048576 := by
    have h2 : (outA (endsL es) t).length ≤ (List.range (endsL es).length).length := List.length_filter_le _ _
    rw [List.length_range] at h2
    omega
  obtain ⟨ins, hins⟩ : ∃ l, insA (endsL es) t = l := ⟨_, rfl⟩
  obtain ⟨outs, houts⟩ : ∃ l, outA (endsL es) t = l := ⟨_, rfl⟩
  rw [hins] at HD IC hil
  rw [houts] at HD OC hol
  have H1 := Lib.hid (fun (x : Nat) (W : World) (hB : Below w.heap.size w W) => HOL B d t (by omega) x W ((h'.below hB).more hB.size))
  have H2 := Lib.hid (fun (D : Option Addr) (k x : Nat) (W : World) (hr : Reads W W.heap.size 1 D ins.length (ints (nI ins))) => HOL D k ins hil x W hr)
  have H3 := Lib.hid (fun (x : Nat) (W : World) (hB : Below w.heap.size w W) => HOL C f S hS x W ((h''.below hB).more hB.size))
  have H4 := Lib.hid (fun (D : Option Addr) (k x : Nat) (W : World) (hr : Reads W W.heap.size 1 D outs.length (ints (nI outs))) => HOL D k outs hol x W hr)
  obtain ⟨nt, hnt⟩ : ∃ n, t.length = n := ⟨_, rfl⟩
  obtain ⟨ni, hni⟩ : ∃ n, ins.length = n := ⟨_, rfl⟩
  obtain ⟨ns, hns⟩ : ∃ n, S.length = n := ⟨_, rfl⟩
  obtain ⟨no, hno⟩ : ∃ n, outs.length = n := ⟨_, rfl⟩
  rw [hnt] at IC OC H1
  rw [hni] at IC H2
  rw [hns] at H3
  rw [hno] at OC H4
  rw [hnt, hns]
  have HDH := Lib.hid HD
  have hMb : MM ≤ 100000 := by omega
  have HNI := Lib.hid hni
  have HNO := Lib.hid hno
  have IC : Hid (∀ (W : World), Below w.heap.size w W → Calls Tryz.prog 46 #[.agg #[.int .i64 m, .slice A es.length c], .slice B nt d] W fun e w' => ∃ A' c', e = .returned (.slice A' ni c') ∧ Reads w' w'.heap.size 1 A' ni (ints (nI ins)) ∧ Below W.heap.size W w') := fun W hB => (IC.out W hB).mono fun e w' ⟨A', c', he, o, hb⟩ => ⟨A', c', he, by have := o.reads; rw [nI_length, HNI.out] at this; exact this, hb⟩
  have OC : Hid (∀ (W : World), Below w.heap.size w W → Calls Tryz.prog 49 #[.agg #[.int .i64 m, .slice A es.length c], .slice B nt d] W fun e w' => ∃ A' c', e = .returned (.slice A' no c') ∧ Reads w' w'.heap.size 1 A' no (ints (nI outs)) ∧ Below W.heap.size W w') := fun W hB => (OC.out W hB).mono fun e w' ⟨A', c', he, o, hb⟩ => ⟨A', c', he, by have := o.reads; rw [nI_length, HNO.out] at this; exact this, hb⟩
  have HW0 := Lib.hid hw0
  clear HD hIV hMM hm2 hRR hil hol hins houts hnt hni hns hno HOL hS hR h h' h'' ht12 hw0
  have k0 := g.cell 0
  have k1 := g.cell 1
  go_enter Tryz.func102, Tryz.ntmps102
  go_wp2
  rw [HW0.out]
  go_region_held3 (fun W => W.cell? ⟨w.heap.size, 0, none⟩ = some (.int .i64 m) ∧ W.cell? ⟨w.heap.size, 1, none⟩ = some (.slice A es.length c)) (go_keep) (first
    | (go_at_call 46; refine (IC.out _ hB0.drew).mono ?_; rintro e w5 ⟨A5, c5, rfl, r5, hb5⟩; have g5 := g.drew.next hb5; have k0' := g5.cell 0; have k1' := g5.cell 1; have hB5 := hB0.drew.trans (hb5.mono hB0.size))
    | (go_at_call 49; refine (OC.out _ hB5).mono ?_; rintro e w7 ⟨A6, c6, rfl, r6, hb6⟩; have r5 := r5.next hb6; have k0'' := (g5.next hb6).cell 0; have k1'' := (g5.next hb6).cell 1; have hB7 := hB5.trans (hb6.mono hB5.size))
    | (go_at_call 49; refine (OC.out _ hB0.drew).mono ?_; rintro e w6 ⟨A6, c6, rfl, r6, hb6⟩; have g6 := g.drew.next hb6; have k0' := g6.cell 0; have k1' := g6.cell 1; have hB6 := hB0.drew.trans (hb6.mono hB0.size))
    | (go_at_call 46; refine (IC.out _ hB6).mono ?_; rintro e w7 ⟨A5, c5, rfl, r5, hb5⟩; have r6 := r6.next hb5; have k0'' := (g6.next hb5).cell 0; have k1'' := (g6.next hb5).cell 1; have hB7 := hB6.trans (hb5.mono hB6.size))
    | fail)
  all_goals
    have g7 : Blk w7 w.heap.size 24 #[.int .i64 m, .slice A es.length c] := by first | exact g5.next hb6 | exact g6.next hb5
    go_wp2
    go_loopw [9] (fun i wr => ∃ k : Nat, k ≤ MM ∧ i = .int .i64 k ∧ Below w7.heap.size w7 wr ∧ Hid (∀ e, e < k → goodE t ins outs S e)) (fun i _ => MM - (intOf i).toNat)
    case atStart => exact ⟨0, by omega, rfl, Below.refl _ _, fun e he => by omega⟩
    case round =>
      obtain ⟨k, hk, rfl, hbk, HG⟩ := hrel
      have hBr := hB7.trans (hbk.mono hB7.size)
      have gk := g7.next hbk
      have q0 := gk.cell 0
      have q1 := gk.cell 1
      have SW := Lib.hid (SZ.out wr hBr)
      go_wp2_with fail
      refine (SW.out).mono ?_
      rintro e w8 ⟨rfl, hb8⟩
      have hbk := hbk.trans (hb8.mono hbk.size)
      have hB8 := hBr.trans (hb8.mono hBr.size)
      by_cases hlt : k < MM
      · have hi : (k : Int) < (MM : Int) := by omega
        have h1 := Lib.hid (H1.out k w8 hB8)
        have h2 := Lib.hid (H2.out A5 c5 k w8 (r5.next hbk))
        have h3 := Lib.hid (H3.out k w8 hB8)
        have h4 := Lib.hid (H4.out A6 c6 k w8 (r6.next hbk))
        have HBAD : Hid (¬ goodE t ins outs S k → R = false) := fun hng => Bool.eq_false_iff.2 fun hc => hng (HDH.out.1 hc k hlt)
        by_cases p1 : k ∈ t
        · rw [decide_eq_true p1] at h1
          by_cases p2 : k ∈ ins
          · rw [decide_eq_true p2] at h2
            have HGK : Hid (goodE t ins outs S k) := ⟨fun _ => .inl p2, fun hc => absurd p1 hc⟩
            clear p1 p2 h3 h4 HBAD
            go_wp2_with fail
            refine (h1.out).mono ?_
            rintro e wh ⟨rfl, rfl⟩
            go_wp2_with fail
            refine (h2.out).mono ?_
            rintro e wh ⟨rfl, rfl⟩
            go_wp2_with fail
            refine (h1.out).mono ?_
            rintro e wh ⟨rfl, rfl⟩
            go_wp2
            go_roundw
            case rel => exact ⟨k + 1, by omega, by go_num, hbk, fun e he => by
              rcases Nat.lt_succ_iff_lt_or_eq.1 he with he | rfl
              · exact HG.out e he
              · exact HGK.out⟩
            case measure => simp [intOf]; omega
          · rw [decide_eq_false p2] at h2
            by_cases p3 : k ∈ S
            · rw [decide_eq_true p3] at h3
              have HGK : Hid (goodE t ins outs S k) := ⟨fun _ => .inr p3, fun hc => absurd p1 hc⟩
              clear p1 p2 p3 h4 HBAD
              go_wp2_with fail
              refine (h1.out).mono ?_
              rintro e wh ⟨rfl, rfl⟩
              go_wp2_with fail
              refine (h2.out).mono ?_
              rintro e wh ⟨rfl, rfl⟩
              go_wp2_with fail
              refine (h3.out).mono ?_
              rintro e wh ⟨rfl, rfl⟩
              go_wp2_with fail
              refine (h1.out).mono ?_
              rintro e wh ⟨rfl, rfl⟩
              go_wp2
              go_roundw
              case rel => exact ⟨k + 1, by omega, by go_num, hbk, fun e he => by
                rcases Nat.lt_succ_iff_lt_or_eq.1 he with he | rfl
                · exact HG.out e he
                · exact HGK.out⟩
              case measure => simp [intOf]; omega
            · rw [decide_eq_false p3] at h3
              have HRF : Hid (R = false) := HBAD.out fun hg => by
                rcases hg.1 p1 with h | h
                · exact p2 h
                · exact p3 h
              clear p1 p2 p3 h4 HBAD
              go_wp2_with fail
              refine (h1.out).mono ?_
              rintro e wh ⟨rfl, rfl⟩
              go_wp2_with fail
              refine (h2.out).mono ?_
              rintro e wh ⟨rfl, rfl⟩
              go_wp2_with fail
              refine (h3.out).mono ?_
              rintro e wh ⟨rfl, rfl⟩
              go_wp2
              go_ret
              exact ⟨by rw [HRF.out]; rfl, hB8⟩
        · rw [decide_eq_false p1] at h1
          by_cases p2 : k ∈ outs
          · rw [decide_eq_true p2] at h4
            have HGK : Hid (goodE t ins outs S k) := ⟨fun hc => absurd hc p1, fun _ => .inl p2⟩
            clear p1 p2 h3 h2 HBAD
            go_wp2_with fail
            refine (h1.out).mono ?_
            rintro e wh ⟨rfl, rfl⟩
            go_wp2_with fail
            refine (h1.out).mono ?_
            rintro e wh ⟨rfl, rfl⟩
            go_wp2_with fail
            refine (h4.out).mono ?_
            rintro e wh ⟨rfl, rfl⟩
            go_wp2
            go_roundw
            case rel => exact ⟨k + 1, by omega, by go_num, hbk, fun e he => by
              rcases Nat.lt_succ_iff_lt_or_eq.1 he with he | rfl
              · exact HG.out e he
              · exact HGK.out⟩
            case measure => simp [intOf]; omega
          · rw [decide_eq_false p2] at h4
            by_cases p3 : k ∈ S
            · rw [decide_eq_true p3] at h3
              have HRF : Hid (R = false) := HBAD.out fun hg => by
                rcases hg.2 p1 with h | h
                · exact p2 h
                · exact h p3
              clear p1 p2 p3 h2 HBAD
              go_wp2_with fail
              refine (h1.out).mono ?_
              rintro e wh ⟨rfl, rfl⟩
              go_wp2_with fail
              refine (h1.out).mono ?_
              rintro e wh ⟨rfl, rfl⟩
              go_wp2_with fail
              refine (h4.out).mono ?_
              rintro e wh ⟨rfl, rfl⟩
              go_wp2_with fail
              refine (h3.out).mono ?_
              rintro e wh ⟨rfl, rfl⟩
              go_wp2
              go_ret
              exact ⟨by rw [HRF.out]; rfl, hB8⟩
            · rw [decide_eq_false p3] at h3
              have HGK : Hid (goodE t ins outs S k) := ⟨fun hc => absurd hc p1, fun _ => .inr p3⟩
              clear p1 p2 p3 h2 HBAD
              go_wp2_with fail
              refine (h1.out).mono ?_
              rintro e wh ⟨rfl, rfl⟩
              go_wp2_with fail
              refine (h1.out).mono ?_
              rintro e wh ⟨rfl, rfl⟩
              go_wp2_with fail
              refine (h4.out).mono ?_
              rintro e wh ⟨rfl, rfl⟩
              go_wp2_with fail
              refine (h3.out).mono ?_
              rintro e wh ⟨rfl, rfl⟩
              go_wp2
              go_roundw
              case rel => exact ⟨k + 1, by omega, by go_num, hbk, fun e he => by
                rcases Nat.lt_succ_iff_lt_or_eq.1 he with he | rfl
                · exact HG.out e he
                · exact HGK.out⟩
              case measure => simp [intOf]; omega
      · obtain rfl : k = MM := by omega
        have hf : ¬ (k : Int) < (k : Int) := by omega
        have HRT : Hid (R = true) := HDH.out.2 fun e he => HG.out e he
        go_wp2
        go_ret
        exact ⟨by rw [HRT.out]; rfl, hB8⟩
end Go.Proofs.YtplgbapbgcipdaaGreatDoor

/-! The reference's Found and Interval. -/
namespace Go.Proofs.YtplgbapbgcipdaaGreatDoor
open Go.RowKit

theorem withinB_nI {l o b : List Nat} : withinB (nI l) (nI o) (nI b) = true ↔ ∀ f ∈ l, f ∈ o ∨ f ∈ b := by
  unfold withinB
  rw [Bool.not_eq_true', List.any_eq_false]
  constructor
  · intro h f hf
    have h1 := h (f : Int) (mem_nI9.2 hf)
    by_cases h2 : f ∈ o
    · exact .inl h2
    · by_cases h3 : f ∈ b
      · exact .inr h3
      · refine absurd ?_ h1
        rw [decide_eq_false (fun hc => h2 (mem_nI9.1 hc)), decide_eq_false (fun hc => h3 (mem_nI9.1 hc))]
        rfl
  · intro h x hx
    obtain ⟨f, hf, rfl⟩ := List.mem_map.1 hx
    rcases h f hf with h1 | h1
    · rw [decide_eq_true (mem_nI9.2 h1)]; simp
    · rw [decide_eq_true (p := (f : Int) ∈ nI b) (mem_nI9.2 h1)]; simp
/-- The program's choice is the interval. -/
theorem pick_iv {m : Nat} {es : List E3} {t S : List Nat} (hz : treeErr m es (nI t) = 0) (hS : SetN (endsL es).length S) : pickB m es (nI S) (nI t) = decide (InIv (endsL es) S t) := by
  have e1 : intE m es (nI t) = (nI (insA (endsL es) t), 0) := by unfold intE; rw [if_pos hz, toN_nI]
  have e2 : extE m es (nI t) = (nI (outA (endsL es) t), 0) := by unfold extE; rw [if_pos hz, toN_nI]
  unfold pickB
  rw [e1, e2, Bool.eq_iff_iff, Bool.and_eq_true, withinB_nI, withinB_nI, decide_eq_true_eq]
  constructor
  · rintro ⟨h1, h2⟩
    refine ⟨fun f hf hn => ?_, fun e he hs hn => ?_⟩
    · rcases h1 f hf with h | h
      · exact absurd h hn
      · exact of_decide_eq_true (List.mem_filter.1 h).2
    · rcases h2 e hs with h | h
      · exact absurd h hn
      · have := (List.mem_filter.1 h).2
        rw [Bool.and_eq_true] at this
        exact of_decide_eq_true this.2
  · rintro ⟨h1, h2⟩
    refine ⟨fun f hf => ?_, fun e hs => ?_⟩
    · by_cases h : f ∈ S
      · exact .inl h
      · exact .inr (List.mem_filter.2 ⟨hf, decide_eq_true (h1 f hf h)⟩)
    · by_cases h : e ∈ t
      · exact .inl h
      · exact .inr (List.mem_filter.2 ⟨List.mem_range.2 (hS.2 e hs), by rw [decide_eq_false h, decide_eq_true (h2 e (hS.2 e hs) hs h)]; rfl⟩)
/-- The tree in whose interval a set is. -/
def foundL (n : Nat) (E : List (Nat × Nat)) (S : List Nat) : List Nat := ((treesT n E).find? fun t => decide (InIv E S t)).getD []
theorem found_spec {n : Nat} {E : List (Nat × Nat)} (hb : BdP n E) (hn : 0 < n) (hx : ∃ t, IsTr n E t) (S : List Nat) : (treesT n E).find? (fun t => decide (InIv E S t)) = some (foundL n E S) ∧ IsTr n E (foundL n E S) ∧ InIv E S (foundL n E S) := by
  obtain ⟨t, ht, hi⟩ := iv_ex hb hx S
  have hm := ((treesT_spec hb hn).1 t).2 ht
  unfold foundL
  cases hf : (treesT n E).find? fun t => decide (InIv E S t) with
  | none => exact absurd (decide_eq_true hi) (List.find?_eq_none.1 hf t hm)
  | some u =>
    have h1 := List.find?_some hf
    have h2 := List.mem_of_find?_eq_some hf
    exact ⟨rfl, ((treesT_spec hb hn).1 u).1 h2, of_decide_eq_true h1⟩
/-- What Interval finds. -/
theorem intv_found {m : Nat} {es : List E3} {S : List Nat} (hj : joinErr m es = 0) (hS : SetN (endsL es).length S) (hx : ∃ t, IsTr m (endsL es) t) : intvE m es (nI S) = (nI (foundL m (endsL es) S), 0) := by
  obtain ⟨_, hG, _⟩ := join_zero hj
  have hb := bd_ends hG
  have hlo := hG.lo
  have hb' : BdP m (endsL es) := hb
  have hE : (tallE m es).1 = (treesT m (endsL es)).map nI := by unfold tallE; rw [if_neg (fun hc => hc hj), Int.toNat_natCast]
  unfold intvE
  rw [if_neg (fun hc => hc hj), if_neg (fun hc => hc (edg_ok hS)), hE, List.find?_map]
  have hf : (treesT m (endsL es)).find? (pickB m es (nI S) ∘ nI) = (treesT m (endsL es)).find? fun t => decide (InIv (endsL es) S t) := by
    have hc : ∀ l : List (List Nat), (∀ t ∈ l, (pickB m es (nI S) ∘ nI) t = decide (InIv (endsL es) S t)) → l.find? (pickB m es (nI S) ∘ nI) = l.find? fun t => decide (InIv (endsL es) S t) := by
      intro l
      induction l with
      | nil => intro _; rfl
      | cons a l ih =>
        intro h
        rw [List.find?_cons, List.find?_cons, h a (by simp), ih fun t ht => h t (by simp [ht])]
    refine hc _ fun t ht => ?_
    have hT := ((treesT_spec hb' (by omega)).1 t).1 ht
    exact pick_iv (tree_ok hj hT) hS
  rw [hf, (found_spec hb' (by omega) hx S).1]
  rfl
set_option maxRecDepth 100000 in
set_option maxHeartbeats 4000000 in
theorem rfound_any (m : Nat) (A : Option Addr) (c : Nat) (es : List E3) (hn : es.length ≤ 40) (hj : joinErr m es = 0) (hsz : (endsL es).length ≤ 8) (C : Option Addr) (f : Nat) (S : List Nat) (hS : S.length ≤ 1048576) (w : World) (h : Reads w w.heap.size 3 A es.length (edgeCells es)) (h'' : Reads w w.heap.size 1 C S.length (ints (nI S))) :
    Calls Tryz.prog 61 #[.agg #[.int .i64 m, .slice A es.length c], .slice C S.length f] w fun e w' => ∃ A' c', e = .returned (.slice A' (foundL m (endsL es) S).length c') ∧ Reads w' w'.heap.size 1 A' (foundL m (endsL es) S).length (ints (nI (foundL m (endsL es) S))) ∧ Below w.heap.size w w' := by
  obtain ⟨_, hG, _⟩ := join_zero hj
  have hlo := hG.lo
  have hbd := bd_ends hG
  have AC := Lib.hid (fun (W : World) (hB : Below w.heap.size w W) => rall13_any m A c es hn hG hsz W ((h.below hB).more hB.size))
  have hTR : ∀ t ∈ treesT m (endsL es), TreeR m es t := fun t ht => by
    have hT := ((treesT_spec hbd (by omega)).1 t).1 ht
    obtain ⟨m', t', e1, e2, hR⟩ := treeR_of (tree_ok hj hT)
    have e3 : m' = m := by omega
    have e4 : t' = t := by have := congrArg toN e2; rw [toN_nI, toN_nI] at this; exact this.symm
    rw [e3, e4] at hR
    exact hR
  have RC := Lib.hid (fun (t : List Nat) (ht : t ∈ treesT m (endsL es)) (B : Option Addr) (d : Nat) (W : World) (hB : Below w.heap.size w W) (hr : Reads W W.heap.size 1 B t.length (ints (nI t))) => rin31_any m A c es hn B d t (hTR t ht) C f S hS W ((h.below hB).more hB.size) hr ((h''.below hB).more hB.size))
  obtain ⟨T, hTT⟩ : ∃ T, treesT m (endsL es) = T := ⟨_, rfl⟩
  unfold foundL
  rw [hTT] at AC RC ⊢
  obtain ⟨q, hq⟩ : ∃ q : List Nat → Bool, (fun t => decide (InIv (endsL es) S t)) = q := ⟨_, rfl⟩
  have RC : Hid (∀ (t : List Nat) (_ : t ∈ T) (B : Option Addr) (d : Nat) (W : World), Below w.heap.size w W → Reads W W.heap.size 1 B t.length (ints (nI t)) → Calls Tryz.prog 102 #[.agg #[.int .i64 m, .slice A es.length c], .slice B t.length d, .slice C S.length f] W fun e w' => e = .returned (.bool (q t)) ∧ Below W.heap.size W w') := fun t ht B d W hB hr => by
    have := RC.out t ht B d W hB hr
    rwa [show decide (InIv (endsL es) S t) = q t by rw [← hq]] at this
  rw [hq]
  have hTl : T.length ≤ 256 := by
    have h1 := treesT_length hbd (show 0 < m by omega)
    rw [hTT] at h1
    have h2 : 2 ^ (endsL es).length ≤ 2 ^ 8 := Nat.pow_le_pow_right (by omega) hsz
    omega
  obtain ⟨N, hN⟩ : ∃ N, T.length = N := ⟨_, rfl⟩
  obtain ⟨ns, hns⟩ : ∃ n, S.length = n := ⟨_, rfl⟩
  rw [hN] at AC hTl
  rw [hns] at RC
  rw [hns]
  have HN := Lib.hid hN
  obtain ⟨FR, hFR⟩ : ∃ R, T.find? q = R := ⟨_, rfl⟩
  rw [hFR]
  have HFR := Lib.hid hFR
  have g := Blk.new w 24 #[.int .i64 m, .slice A es.length c]
  have hB : Below w.heap.size w (w.alloc (.cells #[.int .i64 m, .slice A es.length c] 24)) := (Below.refl _ _).alloc (Nat.le_refl _) _
  have k0 := g.cell 0
  have k1 := g.cell 1
  clear hG hlo hbd hTR hTT hq hN hns hFR h h'' hS hsz hj
  go_enter Tryz.func61, Tryz.ntmps61
  go_wp2_with fail
  refine (AC.out _ hB).mono ?_
  rintro e w1 ⟨Ar, cr, rfl, hRo, hb⟩
  have g := g.next hb
  have hB := hB.trans (hb.mono hB.size)
  clear hb k0 k1
  go_wp2
  go_loopw [6] (fun i wr => ∃ k : Nat, k ≤ N ∧ i = .int .i64 k ∧ Below w1.heap.size w1 wr ∧ Hid (∀ t ∈ T.take k, q t = false)) (fun i _ => N - (intOf i).toNat)
  case atStart => exact ⟨0, by omega, rfl, Below.refl _ _, by simp [Hid]⟩
  case round =>
    obtain ⟨k, hk, rfl, hb1, HSE⟩ := hrel
    have hBr : Below w.heap.size w wr := hB.trans (hb1.mono hB.size)
    by_cases hlt : k < N
    · have hi : (k : Int) < (N : Int) := by omega
      obtain ⟨t, ht⟩ : ∃ t, T[k]? = some t := ⟨_, List.getElem?_eq_getElem (by rw [HN.out]; exact hlt)⟩
      obtain ⟨b', off', A0, c0, rfl, hc', hr0, hb'⟩ := (hRo.below hb1).row ht
      have hr0 := hr0.more hb1.size
      have gk := g.below hb1 g.lt
      have k0 := gk.cell 0
      have k1 := gk.cell 1
      have HT := Lib.hid ht
      have RK := Lib.hid (RC.out t (List.mem_of_getElem? ht) A0 c0 wr.drew hBr.drew hr0)
      have htk := Lib.hid (take_snoc ht)
      obtain ⟨tl, htl⟩ : ∃ n, t.length = n := ⟨_, rfl⟩
      rw [htl] at RK hc' hr0
      have HTL := Lib.hid htl
      have HR0 := Lib.hid hr0
      clear ht htl hr0
      cases hq : q t
      · rw [hq] at RK
        have HF : Hid (∀ y ∈ T.take (k + 1), q y = false) := by
          rw [htk.out]
          intro y hy
          rcases List.mem_append.1 hy with hy | hy
          · exact HSE.out y hy
          · rw [List.mem_singleton] at hy; rw [hy]; exact hq
        clear hq
        go_wp2
        go_region_held3 (fun W => W.cell? ⟨w.heap.size, 0, none⟩ = some (.int .i64 m) ∧ W.cell? ⟨w.heap.size, 1, none⟩ = some (.slice A es.length c) ∧ W.cell? ⟨b', off' + k, none⟩ = some (.slice A0 tl c0)) (go_keep) (first
          | (go_at_call 102; refine (RK.out).mono ?_; rintro e w5 ⟨rfl, hb5⟩; have k0' := (gk.drew.next hb5).cell 0; have k1' := (gk.drew.next hb5).cell 1; have hc5 := (hb5.cell (p := ⟨b', off' + k, none⟩) (by show b' < _; exact Nat.lt_of_lt_of_le hb' hb1.size)).trans hc')
          | fail)
        have hbn := hb1.trans (((Below.refl _ wr).drew.trans hb5).mono hb1.size)
        go_wp2
        go_roundw
        case rel => exact ⟨k + 1, by omega, by go_num, hbn, HF⟩
        case measure => simp [intOf]; omega
      · rw [hq] at RK
        have HE : Hid (FR = some t) := by rw [Hid, ← HFR.out]; exact find_at HSE.out HT.out hq
        clear hq
        go_wp2
        go_region_held3 (fun W => W.cell? ⟨w.heap.size, 0, none⟩ = some (.int .i64 m) ∧ W.cell? ⟨w.heap.size, 1, none⟩ = some (.slice A es.length c) ∧ W.cell? ⟨b', off' + k, none⟩ = some (.slice A0 tl c0)) (go_keep) (first
          | (go_at_call 102; refine (RK.out).mono ?_; rintro e w5 ⟨rfl, hb5⟩; have k0' := (gk.drew.next hb5).cell 0; have k1' := (gk.drew.next hb5).cell 1; have hc5 := (hb5.cell (p := ⟨b', off' + k, none⟩) (by show b' < _; exact Nat.lt_of_lt_of_le hb' hb1.size)).trans hc')
          | fail)
        have hb6 := (Below.refl _ wr).drew.trans hb5
        have hbn := hBr.trans (hb6.mono hBr.size)
        have HR5 := Lib.hid (HR0.out.next hb6)
        have hc6 := hc5
        go_wp2
        go_ret
        rw [HE.out]
        refine ⟨A0, c0, ?_, ?_, hbn⟩
        · show _ = Ending.returned (.slice A0 t.length c0); rw [HTL.out]; rfl
        · show Reads w5 w5.heap.size 1 A0 t.length (ints (nI t)); rw [HTL.out]; exact HR5.out
    · obtain rfl : k = N := by omega
      have hf : ¬ (k : Int) < (k : Int) := by omega
      have HE : Hid (FR = none) := by
        rw [Hid, ← HFR.out]
        exact List.find?_eq_none.2 fun y hy => by
          rw [HSE.out y (by rw [List.take_of_length_le (by rw [HN.out]; exact Nat.le_refl _)]; exact hy)]; decide
      go_wp2
      go_ret
      rw [HE.out]
      exact ⟨none, ⟨0, rfl⟩, Reads.nil_, hBr⟩
end Go.Proofs.YtplgbapbgcipdaaGreatDoor

/-! The reference's Interval. -/
namespace Go.Proofs.YtplgbapbgcipdaaGreatDoor
open Go.RowKit

theorem join_tree {m : Nat} {es : List E3} (hj : joinErr m es = 0) : ∃ t, IsTr m (endsL es) t := by
  obtain ⟨_, hG, hc⟩ := join_zero hj
  have hbd := bd_ends hG
  rw [Int.toNat_natCast, connB_parts hG, decide_eq_true_eq] at hc
  exact tree_ex hbd hc
set_option maxRecDepth 100000 in
set_option maxHeartbeats 4000000 in
theorem rintv_any (n : Int) (A : Option Addr) (c : Nat) (es : List E3) (hn : es.length ≤ 40) (hsz : joinErr n es = 0 → (endsL es).length ≤ 8) (C : Option Addr) (f : Nat) (set : List Int) (hS : set.length ≤ 1048576) (w : World) (h : Reads w w.heap.size 3 A es.length (edgeCells es)) (h' : Reads w w.heap.size 1 C set.length (ints set)) :
    Calls Tryz.prog 22 #[.agg #[.int .i64 n, .slice A es.length c], .slice C set.length f] w fun e w' => ∃ A' c', e = .returned (.tuple #[.slice A' (intvE n es set).1.length c', .int .i64 (intvE n es set).2]) ∧ Reads w' w'.heap.size 1 A' (intvE n es set).1.length (ints (intvE n es set).1) ∧ Below w.heap.size w w' := by
  have JC := Lib.hid (fun (W : World) (hB : Below w.heap.size w W) => rjoinedErr_any n A c es (by omega) W ((h.below hB).more hB.size))
  have g := Blk.new w 24 #[.int .i64 n, .slice A es.length c]
  have hB : Below w.heap.size w (w.alloc (.cells #[.int .i64 n, .slice A es.length c] 24)) := (Below.refl _ _).alloc (Nat.le_refl _) _
  have k0 := g.cell 0
  have k1 := g.cell 1
  obtain ⟨M, hM⟩ : ∃ M, set.length = M := ⟨_, rfl⟩
  by_cases hj : joinErr n es = 0
  · obtain ⟨hck, hG, _⟩ := join_zero hj
    have hlo := hG.lo
    obtain ⟨m, rfl⟩ := Int.eq_ofNat_of_zero_le (show 0 ≤ n by omega)
    rw [hj] at JC
    have EC := Lib.hid (fun (W : World) (hB : Below w.heap.size w W) => redges_any m A c es hn hG.ok C f set hS W ((h.below hB).more hB.size) ((h'.below hB).more hB.size))
    by_cases hz : edgErr (endsL es).length set = 0
    · obtain ⟨S, rfl, hSet⟩ := edg_set hz
      rw [intv_found hj hSet (join_tree hj)]
      dsimp only
      have FC := Lib.hid (fun (W : World) (hB : Below w.heap.size w W) => rfound_any m A c es hn hj (hsz hj) C f S (by rw [nI_length] at hS; exact hS) W ((h.below hB).more hB.size) (by have := (h'.below hB).more hB.size; rw [nI_length] at this; exact this))
      rw [hz] at EC
      rw [nI_length] at hM
      rw [nI_length] at EC
      rw [nI_length, nI_length]
      obtain ⟨R, hR⟩ : ∃ R, foundL m (endsL es) S = R := ⟨_, rfl⟩
      rw [hR] at FC ⊢
      rw [hM] at EC FC ⊢
      clear hck hG hlo hj hz hSet hR hM hS h h' hsz
      go_enter Tryz.func22, Tryz.ntmps22
      go_wp2_with fail
      refine (JC.out _ hB).mono ?_
      rintro e wn ⟨rfl, hb⟩
      have g := g.next hb
      have hB := hB.trans (hb.mono hB.size)
      have k0 := g.cell 0
      have k1 := g.cell 1
      clear hb
      go_wp2_with fail
      refine (EC.out _ hB).mono ?_
      rintro e wn ⟨rfl, hb⟩
      have g := g.next hb
      have hB := hB.trans (hb.mono hB.size)
      have k0 := g.cell 0
      have k1 := g.cell 1
      clear hb
      go_wp2_with fail
      refine (FC.out _ hB).mono ?_
      rintro e wn ⟨A', c', rfl, r, hb⟩
      have hB := hB.trans (hb.mono hB.size)
      go_wp2
      go_ret2
      exact ⟨A', c', rfl, r, hB⟩
    · have hE : intvE m es set = ([], edgErr (endsL es).length set) := by unfold intvE; rw [if_neg (fun hc => hc hj), if_pos hz]
      rw [hE, hM]
      rw [hM] at EC
      obtain ⟨z, hzz⟩ : ∃ z, edgErr (endsL es).length set = z := ⟨_, rfl⟩
      rw [hzz] at EC hz ⊢
      have hzb : (z != 0) = true := by simpa using hz
      dsimp only
      clear hck hG hlo hj hz hzz hE hM hS h h' hsz
      go_enter Tryz.func22, Tryz.ntmps22
      go_wp2_with fail
      refine (JC.out _ hB).mono ?_
      rintro e wn ⟨rfl, hb⟩
      have g := g.next hb
      have hB := hB.trans (hb.mono hB.size)
      have k0 := g.cell 0
      have k1 := g.cell 1
      clear hb
      go_wp2_with fail
      refine (EC.out _ hB).mono ?_
      rintro e wn ⟨rfl, hb⟩
      have hB := hB.trans (hb.mono hB.size)
      go_wp2
      go_ret2
      exact ⟨none, 0, rfl, Reads.nil_, hB⟩
  · have hE : intvE n es set = ([], joinErr n es) := by unfold intvE; rw [if_pos hj]
    rw [hE, hM]
    obtain ⟨z, hzz⟩ : ∃ z, joinErr n es = z := ⟨_, rfl⟩
    rw [hzz] at JC hj ⊢
    have hzb : (z != 0) = true := by simpa using hj
    dsimp only
    clear hj hzz hE hM hS h h' hsz
    go_enter Tryz.func22, Tryz.ntmps22
    go_wp2_with fail
    refine (JC.out _ hB).mono ?_
    rintro e wn ⟨rfl, hb⟩
    have hB := hB.trans (hb.mono hB.size)
    go_wp2
    go_ret2
    exact ⟨none, 0, rfl, Reads.nil_, hB⟩
end Go.Proofs.YtplgbapbgcipdaaGreatDoor

