/-
  Texts of this claim, put together: RSubset13, RAll13, TFirst, TCount.
-/
import Derived.Test.YtepmfbgmkfkmkaaK03
import Derived.Test.YtepmfbgmkfkmkaaK10
import Derived.Test.YtepmfbgmkfkmkaaK17
import Derived.Test.YtepmfbgmkfkmkaaK30
import Derived.Test.YtepmfbgmkfkmkaaK27
import Derived.Test.YtepmfbgmkfkmkaaK21
/-! ref10.Subset: the set with a number. -/
namespace Go.Proofs.Ytepmfbgmkfkmkaa
open Go.RowKit

set_option maxHeartbeats 1000000 in
theorem rsubset10_any (n D : Nat) (hn : n ≤ 1000) (hD : D ≤ 1048576) (w : World) :
    Calls Try.prog 75 #[.int .i64 n, .int .i64 D] w fun en w' => ∃ A' c', en = .returned (.slice A' (bitsL n D).length c') ∧ OwnI w' w.heap.size A' c' (nI (bitsL n D)) ∧ Below w.heap.size w w' := by
  have hA0 : Hid (OwnI w w.heap.size none 0 (nI (bitsL 0 D))) := OwnI.nil_ _ _
  have hDD : Hid (D / 2 ^ 0 = D) := by simp [Hid]
  go_enter Try.func75, Try.ntmps75
  go_wp2_with fail
  go_loopw [1, 5, 6] (fun d o i wr => ∃ (k : Nat) (Ao : Option Addr) (co : Nat), k ≤ n ∧ i = .int .i64 k ∧ d = .int .i64 ((D / 2 ^ k : Nat) : Int) ∧ o = .slice Ao (nI (bitsL k D)).length co ∧ Hid (OwnI wr w.heap.size Ao co (nI (bitsL k D))) ∧ Hid (Below w.heap.size w wr)) (fun _ _ i _ => n - (intOf i).toNat)
  case atStart => exact ⟨0, none, 0, by omega, rfl, by rw [hDD.out], rfl, hA0, Below.refl _ _⟩
  case round =>
    obtain ⟨k, Ao, co, hk, rfl, rfl, rfl, HO, HW⟩ := hrel
    have hwz := HW.out.size
    by_cases hlt : k < n
    · have hi : (k : Int) < (n : Int) := by omega
      have hbl : (nI (bitsL k D)).length ≤ k := by rw [nI_length]; exact bitsL_length k D
      have hyes := bitsL_yes (k := k) (D := D)
      have hno := bitsL_no (k := k) (D := D)
      have hdiv : D / 2 ^ (k + 1) = D / 2 ^ k / 2 := by rw [Nat.pow_succ, Nat.div_div_eq_div_mul]
      have hle : D / 2 ^ k ≤ D := Nat.div_le_self _ _
      obtain ⟨L, hL⟩ : ∃ L, bitsL k D = L := ⟨_, rfl⟩
      obtain ⟨q, hq⟩ : ∃ q, D / 2 ^ k = q := ⟨_, rfl⟩
      rw [hL] at HO hyes hno hbl ⊢
      rw [hq] at hyes hno hdiv hle ⊢
      have HDV := Lib.hid hdiv
      have hquo : ((q : Int)).tdiv 2 = ((q / 2 : Nat) : Int) := by simp [Int.tdiv]
      have hrem : ((q : Int)).tmod 2 = ((q % 2 : Nat) : Int) := by simp [Int.tmod]
      have hwq : IntKind.i64.wrap ((q / 2 : Nat) : Int) = ((q / 2 : Nat) : Int) := IntWalk.i64_in _ (by omega)
      by_cases hb : q % 2 = 1
      · have HY := Lib.hid (hyes hb)
        have hrem2 : ((q : Int)).tmod 2 = 1 := by rw [hrem, hb]; rfl
        clear hyes hno hL hq hdiv hrem
        go_wp2_with (at_builtin; refine push_int rfl (.tmp 15) (.tmp 17) _ rfl Try.underlying25 w.heap.size Ao co (nI L) (k : Int) rfl HO.out rfl rfl (by omega) hwz ?_; intro A5 c5 w5 hown5 _ hb5)
        go_roundw
        case rel => exact ⟨k + 1, A5, c5, by omega, by go_num, by rw [HDV.out]; rfl, by rw [HY.out, nI_snoc, List.length_append]; rfl, by rw [Hid, HY.out, nI_snoc]; exact hown5, HW.out.trans hb5⟩
        case measure => simp [intOf]; omega
      · have HN := Lib.hid (hno hb)
        have hrem2 : ((q : Int)).tmod 2 = 0 := by rw [hrem, show q % 2 = 0 from by omega]; rfl
        clear hyes hno hL hq hdiv hrem
        go_wp2
        go_roundw
        case rel => exact ⟨k + 1, Ao, co, by omega, by go_num, by rw [HDV.out]; rfl, by rw [HN.out], by rw [Hid, HN.out]; exact HO.out, HW.out⟩
        case measure => simp [intOf]; omega
    · obtain rfl : k = n := by omega
      go_wp2
      go_ret
      exact ⟨Ao, co, by simp [nI_length], HO.out, HW.out⟩
end Go.Proofs.Ytepmfbgmkfkmkaa

/-! ref13.All: the spanning trees among all sets, in order. -/
namespace Go.Proofs.Ytepmfbgmkfkmkaa
open Go.RowKit

theorem spansB_eq {n : Nat} {E : List (Nat × Nat)} (hE : BdP n E) {t : List Nat} (ht : ∀ e ∈ t, e < E.length) : spansB n E t = (decide (t.length + 1 = n) && decide (partsP n (pk E t) = 1)) := by
  by_cases hl : t.length + 1 = n
  · rw [spans_parts hE ht hl, decide_eq_true hl, Bool.true_and]
  · unfold spansB
    rw [decide_eq_false hl, Bool.and_false, Bool.false_and]
/-- The trees among the first sets. -/
def treesTo (n : Nat) (E : List (Nat × Nat)) (k : Nat) : List (List Nat) := ((List.range k).map (bitsL E.length)).filter fun t => spansB n E t
theorem treesTo_succ {n : Nat} {E : List (Nat × Nat)} {k : Nat} : treesTo n E (k + 1) = if spansB n E (bitsL E.length k) = true then treesTo n E k ++ [bitsL E.length k] else treesTo n E k := by
  unfold treesTo
  rw [List.range_succ, List.map_append, List.filter_append]
  by_cases h : spansB n E (bitsL E.length k) = true
  · rw [if_pos h, List.map_cons, List.map_nil, List.filter_cons, if_pos h]; rfl
  · rw [if_neg h, List.map_cons, List.map_nil, List.filter_cons, if_neg h]; simp
theorem treesTo_len {n : Nat} {E : List (Nat × Nat)} {k : Nat} : (treesTo n E k).length ≤ k := Nat.le_trans (List.length_filter_le _ _) (by simp)
theorem treesTo_ref {n : Nat} {E : List (Nat × Nat)} (hE : BdP n E) : treesTo n E (2 ^ E.length) = refTs n E := by
  unfold treesTo refTs
  apply List.filter_congr
  intro t ht
  obtain ⟨D, _, rfl⟩ := List.mem_map.1 ht
  exact spansB_eq hE bits_lt
theorem sort_bfN (l : List (List Nat)) : sortG bfI (l.map nI) = (sortG bfN l).map nI := by
  have hK : ∀ (x : List Nat) (L : List (List Nat)) (k : Nat), insK bfI (nI x) (L.map nI) k = insK bfN x L k := by
    intro x L k
    induction k with
    | zero => rfl
    | succ k ih =>
      rw [insK, insK, List.getElem?_map]
      cases L[k]? with
      | none => rfl
      | some y => simp only [Option.map_some]; rw [ih]; rfl
  have hS : ∀ (L : List (List Nat)) (x : List Nat), insS bfI (L.map nI) (nI x) = (insS bfN L x).map nI := by
    intro L x
    unfold insS
    rw [List.map_append, List.map_cons, List.map_take, List.map_drop, hK, List.length_map]
  unfold sortG
  suffices H : ∀ (l L : List (List Nat)), (l.map nI).foldl (insS bfI) (L.map nI) = (l.foldl (insS bfN) L).map nI from H l []
  intro l
  induction l with
  | nil => intro L; rfl
  | cons x l ih => intro L; rw [List.map_cons, List.foldl_cons, List.foldl_cons, hS, ih]
/-- A slice of slices of the call's own, as pairs. -/
theorem rows_pairs {w : World} {base : Nat} {A : Option Addr} {c : Nat} {vs : List Value} {xss : List (List Int)} (h : OwnRows w base A c vs xss) : ∃ ps : List RowV, vals ps = vs ∧ ps.map Prod.snd = xss ∧ ∀ p ∈ ps, ∃ A' c', p.1 = .slice A' p.2.length c' ∧ Reads w w.heap.size 1 A' p.2.length (ints p.2) := by
  have hl := h.len
  have e1 : (vs.zip xss).map Prod.fst = vs := by rw [List.map_fst_zip]; omega
  have e2 : (vs.zip xss).map Prod.snd = xss := by rw [List.map_snd_zip]; omega
  refine ⟨vs.zip xss, e1, e2, fun p hp => ?_⟩
  obtain ⟨i, hi⟩ := List.getElem?_of_mem hp
  obtain ⟨v, x⟩ := p
  obtain ⟨h1, h2⟩ := List.getElem?_zip_eq_some.1 hi
  dsimp only at h1 h2 ⊢
  obtain ⟨A', c', hv, ho⟩ := h.2.2 i x h2
  rw [hv] at h1
  injection h1 with h1
  exact ⟨A', c', h1.symm, ho.reads⟩
theorem RowsR.of_pairs {w : World} {base : Nat} {A : Option Addr} {c : Nat} {ps : List RowV} (h : w.ownsRow base 25 1 (.slice A ps.length c) ps.length (vals ps)) (hv : ∀ p ∈ ps, ∃ A' c', p.1 = .slice A' p.2.length c' ∧ Reads w w.heap.size 1 A' p.2.length (ints p.2)) : RowsR w w.heap.size A (ps.map Prod.snd) := by
  refine ⟨vals ps, by rw [List.length_map]; exact Reads.of_own h, fun i xs hi => ?_⟩
  rw [List.getElem?_map] at hi
  rcases hp : ps[i]? with _ | p
  · rw [hp] at hi; cases hi
  · rw [hp] at hi
    injection hi with hi
    obtain ⟨A', c', e, hr⟩ := hv p (List.mem_of_getElem? hp)
    subst hi
    exact ⟨A', c', by simp [vals, hp, e], hr⟩

set_option maxRecDepth 100000 in
set_option maxHeartbeats 8000000 in
theorem rall13_any (m : Nat) (A : Option Addr) (c : Nat) (es : List E3) (hn : es.length ≤ 40) (hG : RightG m es) (hsz : (endsL es).length ≤ 8) (w : World) (h : Reads w w.heap.size 3 A es.length (edgeCells es)) :
    Calls Try.prog 42 #[.agg #[.int .i64 m, .slice A es.length c]] w fun e w' => ∃ A' c', e = .returned (.slice A' (treesT m (endsL es)).length c') ∧ RowsR w' w'.heap.size A' ((treesT m (endsL es)).map nI) ∧ Below w.heap.size w w' := by
  have hm1 : 0 < m := by have := hG.lo; omega
  have hbe := bd_ends hG
  have SC : Hid (∀ (W : World) (hB : Below w.heap.size w W), Calls Try.prog 34 #[.agg #[.int .i64 m, .slice A es.length c]] W fun e w' => e = .returned (.int .i64 ((endsL es).length : Nat)) ∧ Below W.heap.size W w') := by
    intro W hB
    have := rsize_any m A c es hn m hG.ok W ((h.below hB).more hB.size)
    rw [size_ends] at this
    exact this
  have IC : Hid (∀ (A' : Option Addr) (c' : Nat) (D : Nat) (W : World) (hB : Below w.heap.size w W) (hr : Reads W W.heap.size 1 A' (bitsL (endsL es).length D).length (ints (nI (bitsL (endsL es).length D)))), Calls Try.prog 51 #[.agg #[.int .i64 m, .slice A es.length c], .slice A' (bitsL (endsL es).length D).length c'] W fun e w' => e = .returned (.bool (spansB m (endsL es) (bitsL (endsL es).length D))) ∧ Below W.heap.size W w') := by
    intro A' c' D W hB hr
    exact ris13_any m A c es hn hG A' c' _ bits_lt (by have := bitsL_length (endsL es).length D; omega) W ((h.below hB).more hB.size) hr
  have HREF := Lib.hid (treesTo_ref hbe)
  have HSRT := Lib.hid (trees_sorted hbe hm1)
  obtain ⟨E, hE⟩ : ∃ E, endsL es = E := ⟨_, rfl⟩
  rw [hE] at SC IC HREF HSRT hsz ⊢
  have HN : Hid (2 ^ E.length ≤ 256) := Nat.pow_le_pow_right (by omega) (show E.length ≤ 8 from hsz)
  have UC := Lib.hid (fun (D : Nat) (hD : D ≤ 1048576) (W : World) => rsubset10_any E.length D (by omega) hD W)
  have g := Blk.new w 24 #[.int .i64 m, .slice A es.length c]
  have hB := (Below.refl w.heap.size w).alloc (Nat.le_refl _) (.cells #[.int .i64 m, .slice A es.length c] 24)
  have k0 := g.cell 0
  have k1 := g.cell 1
  clear hG hbe hE hm1
  go_enter Try.func42, Try.ntmps42
  go_wp2_with fail
  refine (SC.out _ hB).mono ?_
  rintro e w1 ⟨rfl, hb⟩
  have HG1 := Lib.hid (g.next hb)
  have HB1 := Lib.hid (hB.trans (hb.mono hB.size))
  have hz1 := HB1.out.size
  clear g hB hb k0 k1 SC
  go_wp2_with fail
  go_loop [4, 5] (fun a i => ∃ k : Nat, k ≤ E.length ∧ i = .int .i64 k ∧ a = .int .i64 ((2 ^ k : Nat) : Int)) (fun _ i => E.length - (intOf i).toNat)
  case atStart => exact ⟨0, by omega, rfl, rfl⟩
  case round =>
    obtain ⟨k, hk, rfl, rfl⟩ := hrel
    by_cases hlt : k < E.length
    · have hi : (k : Int) < (E.length : Int) := by omega
      have hp : 2 ^ k ≤ 256 := Nat.le_trans (Nat.pow_le_pow_right (by omega) hk) HN.out
      have hps : 2 ^ (k + 1) = 2 ^ k * 2 := Nat.pow_succ 2 k
      obtain ⟨p, hpp⟩ : ∃ p, 2 ^ k = p := ⟨_, rfl⟩
      rw [hpp] at hp hps ⊢
      have HPS := Lib.hid hps
      clear hpp hps
      go_wp2
      go_round
      case rel => exact ⟨k + 1, by omega, by go_num, by rw [HPS.out]; go_num⟩
      case measure => simp [intOf]; omega
    · obtain rfl : k = E.length := by omega
      obtain ⟨N, hN⟩ : ∃ N, 2 ^ E.length = N := ⟨_, rfl⟩
      have hNb : N ≤ 256 := hN ▸ HN.out
      rw [hN] at HREF
      rw [hN]
      clear hN HN
      go_wp2_with fail
      go_loopw [6, 7, 8] (fun o i _ wr => ∃ (k : Nat) (Ao : Option Addr) (co : Nat) (vs : List Value), k ≤ N ∧ i = .int .i64 k ∧ o = .slice Ao (treesTo m E k).length co ∧ Hid (OwnRows wr w1.heap.size Ao co vs ((treesTo m E k).map nI)) ∧ Hid (Below w1.heap.size w1 wr)) (fun _ i _ _ => N - (intOf i).toNat)
      case atStart => exact ⟨0, none, 0, [], by omega, rfl, rfl, OwnRows.nil_ _ _, Below.refl _ _⟩
      case round =>
        obtain ⟨k, Ao, co, vs, hk, rfl, rfl, HO, HW⟩ := hrel
        have hwz := HW.out.size
        have g2 := HG1.out.next HW.out
        have k0 := g2.cell 0
        have k1 := g2.cell 1
        by_cases hlt : k < N
        · have hi2 : (k : Int) < (N : Int) := by omega
          have hst := treesTo_succ (n := m) (E := E) (k := k)
          have htl := treesTo_len (n := m) (E := E) (k := k)
          have UK := Lib.hid (UC.out k (by omega) wr)
          obtain ⟨b, hb⟩ : ∃ b, spansB m E (bitsL E.length k) = b := ⟨_, rfl⟩
          have IK := Lib.hid (fun A' c' => IC.out A' c' k)
          rw [hb] at hst IK
          obtain ⟨T, hT⟩ : ∃ T, bitsL E.length k = T := ⟨_, rfl⟩
          rw [hT] at UK IK hst
          obtain ⟨L, hL⟩ : ∃ L, treesTo m E k = L := ⟨_, rfl⟩
          rw [hL] at HO hst htl ⊢
          have HST := Lib.hid hst
          have HLN : Hid ((L.map nI).length = L.length) := List.length_map _
          have HTN : Hid ((nI T).length = T.length) := nI_length T
          clear hst hb hT hL
          go_wp2_with fail
          refine (UK.out).mono ?_
          rintro e w5 ⟨A5, c5, rfl, o5, hb5⟩
          have HB5 := Lib.hid (HW.out.trans (hb5.mono hwz))
          have g5 := g2.next hb5
          have k0 := g5.cell 0
          have k1 := g5.cell 1
          have HO5 := Lib.hid (HO.out.next hb5)
          have R5 : Reads w5 w5.heap.size 1 A5 T.length (ints (nI T)) := by have := o5.reads; rw [HTN.out] at this; exact this
          go_wp2_with fail
          refine (IK.out _ _ _ (HB1.out.trans (HB5.out.mono hz1)) R5).mono ?_
          rintro e w6 ⟨rfl, hb6⟩
          have HB6 := Lib.hid (HB5.out.trans (hb6.mono HB5.out.size))
          have HO6 := Lib.hid (HO5.out.next hb6)
          have O6 := Lib.hid ((o5.mono hwz).next hb6)
          clear hb5 hb6 R5 o5 HO5 g5 k0 k1
          have hwz6 := HB6.out.size
          rcases b with _ | _
          · have HF := Lib.hid (HST.out.trans (if_neg (by decide)))
            go_wp2
            go_roundw
            case rel => exact ⟨k + 1, Ao, co, vs, by omega, by go_num, by rw [HF.out], by rw [Hid, HF.out]; exact HO6.out, HB6⟩
            case measure => simp [intOf]; omega
          · have HF := Lib.hid (HST.out.trans (if_pos rfl))
            have own6 : w6.ownsRow w1.heap.size 25 1 (.slice Ao L.length co) L.length vs := by have := HO6.out.1; rw [HLN.out] at this; exact this
            go_wp2_with (first | (at_builtin; refine append_go rfl (.tmp 29) (.tmp 31) _ rfl w1.heap.size 25 Try.underlying57 info_row rfl (by omega) Ao co L.length vs rfl (World.ownsRow.alloc own6 _) (w6.heap.size + 1) [.slice A5 T.length c5] rfl (Reads.box1 w6 _ _) (by simp [Value.oneCell']) (by omega) (Nat.le_trans hwz6 (by simp)) ?_; intro A7 c7 w7 hown7 hg7 hb7 _) | fail)
            have HB7 := Lib.hid ((HB6.out.alloc hwz6 (.cells #[.slice A5 T.length c5] 25)).trans hb7)
            have O7 : Hid (OwnRows w7 w1.heap.size A7 c7 (vs ++ [.slice A5 T.length c5]) ((L ++ [T]).map nI)) := by
              have k2 := OwnRows.push (A8 := A5) (c8 := c5) (x := nI T) (w' := w7) (A' := A7) (c' := c7) (HO6.out.kept (w' := w6.alloc (.cells #[.slice A5 T.length c5] 25)) fun k hk => Below.heap_alloc _ _ _ (HO6.out.lt hk).2) (OwnI.alloc O6.out _) (by rw [HLN.out, HTN.out]; exact hown7) (by rw [HLN.out]; exact hg7)
              rw [HTN.out] at k2
              rw [Hid, List.map_append]; exact k2
            go_wp2
            go_roundw
            case rel => exact ⟨k + 1, A7, c7, _, by omega, by go_num, by rw [HF.out, List.length_append]; rfl, by rw [Hid, HF.out]; exact O7.out, HB7⟩
            case measure => simp [intOf]; omega
        · obtain rfl : k = N := by omega
          obtain ⟨ps, e1, e2, hv⟩ := rows_pairs HO.out
          have HEQ : Hid (sortG bfI ((treesTo m E k).map nI) = (treesT m E).map nI) := by
            rw [Hid, sort_bfN, HREF.out, HSRT.out]
          have hpl : ps.length = (treesTo m E k).length := by have := congrArg List.length e2; simpa using this
          have htl := treesTo_len (n := m) (E := E) (k := k)
          have hown := HO.out.1
          rw [List.length_map, ← hpl, ← e1] at hown
          have hsm : ∀ p ∈ ps, p.2.length ≤ 1048576 := by
            intro p hp
            have : p.2 ∈ (treesTo m E k).map nI := by rw [← e2]; exact List.mem_map_of_mem hp
            obtain ⟨t, ht, e⟩ := List.mem_map.1 this
            rw [← e, nI_length]
            obtain ⟨D, _, rfl⟩ := List.mem_map.1 (List.mem_filter.1 ht).1
            have := bitsL_length E.length D
            omega
          have OC := Lib.hid (rordered_any Ao co ps (by omega) hsm wr (Reads.of_own hown) hv)
          have HV := Lib.hid hv
          have HMP : Hid ((sortG ltP ps).map Prod.snd = (treesT m E).map nI) := by rw [Hid, sortG_map, e2, HEQ.out]
          have HPL : Hid (ps.length = (treesT m E).length) := by
            have h1 := congrArg List.length HMP.out
            rw [List.length_map, List.length_map, sortG_length] at h1
            exact h1
          rw [← hpl]
          have HWW := HW
          clear hpl htl hown hsm e1 e2 hv
          go_wp2_with fail
          refine (OC.out).mono ?_
          rintro e w7 ⟨A7, c7, rfl, o7, hb7⟩
          have HB7 := Lib.hid ((HB1.out.trans (HW.out.mono hz1)).trans (hb7.mono (HB1.out.trans (HW.out.mono hz1)).size))
          have R7 : Hid (RowsR w7 w7.heap.size A7 ((treesT m E).map nI)) := by
            rw [Hid, ← HMP.out]
            refine RowsR.of_pairs (c := c7) (by rw [sortG_length]; exact o7) fun p hp => ?_
            obtain ⟨A', c', e, hr⟩ := HV.out p ((sortG_perm (lt := ltP) ps).mem_iff.1 hp)
            exact ⟨A', c', e, hr.next hb7⟩
          clear hb7 o7
          go_wp2
          go_ret
          exact ⟨A7, c7, by rw [← HPL.out]; rfl, R7.out, HB7.out⟩
end Go.Proofs.Ytepmfbgmkfkmkaa

/-! Package tree: First. -/
namespace Go.Proofs.Ytepmfbgmkfkmkaa
open Go.RowKit Go.Shelf
attribute [local go_sem] Oper.semAt_some

set_option maxRecDepth 100000 in
set_option maxHeartbeats 8000000 in
theorem tfirst_ok (n : Nat) (A : Option Addr) (c : Nat) (es : List E3) (hlen : es.length ≤ 10000) (hj : joinErr n es = 0) (x0 : List Nat) (xr : List (List Nat)) (hxs : treesT n (endsL es) = x0 :: xr) (w : World) (h : Reads w w.heap.size 3 A es.length (edgeCells es)) :
    Calls Try.prog 40 #[.agg #[.int .i64 n, .slice A es.length c]] w fun e w' => ∃ A' c', e = .returned (.tuple #[.slice A' x0.length c', .int .i64 0]) ∧ OwnI w' w.heap.size A' c' (nI x0) ∧ Below w.heap.size w w' := by
  obtain ⟨hz, hG, _⟩ := join_zero hj
  have hn12 : n ≤ 12 := by have := hG.hi; omega
  have hn1 : 1 ≤ n := by have := hG.lo; omega
  have HX := Lib.hid hxs
  have HBD := Lib.hid (bd_ends hG)
  have HEL : Hid ((endsL es).length ≤ 1000000) := by have := endsL_length hG.ok; unfold Hid; omega
  have GC := Lib.hid (fun (W : World) (hB : Below w.heap.size w W) => tgiven_any n A c es hlen W ((h.below hB).more hB.size))
  rw [hj] at GC
  obtain ⟨E, hE⟩ : ∃ E, endsL es = E := ⟨_, rfl⟩
  rw [hE] at HX HBD HEL GC
  clear hxs hz hG hj hE h
  have g0 := Blk.new w 24 #[.int .i64 n, .slice A es.length c]
  obtain ⟨w0, hw0⟩ : ∃ w0, ((w.alloc (.cells #[.int .i64 n, .slice A es.length c] 24)).alloc (.cells #[.slice none 0 0] 25)).alloc (.cells #[.int .i64 0] 28) = w0 := ⟨_, rfl⟩
  have hs0 : w0.heap.size = w.heap.size + 3 := by rw [← hw0]; simp
  have hB0 : Below w.heap.size w w0 := by rw [← hw0]; exact (((Below.refl _ _).alloc (Nat.le_refl _) _).alloc (by simp) _).alloc (by simp; omega) _
  have rg : Blk w0 w.heap.size 24 #[.int .i64 n, .slice A es.length c] := by rw [← hw0]; exact (g0.alloc _).alloc _
  have r1 : Blk w0 (w.heap.size + 1) 25 #[.slice none 0 0] := by rw [← hw0]; exact (Blk.newAt (by simp)).alloc _
  have r2 : Blk w0 (w.heap.size + 2) 28 #[.int .i64 0] := by rw [← hw0]; exact Blk.newAt (by simp)
  have c0 := rg.cell 0
  have c1 := rg.cell 1
  refine (callsIn_wide (n := 3)).1 ?_
  refine callsIn_of_wp_marks Try.func40 rfl trivial ?_
  simp only [Try.ntmps40, List.size_toArray, List.length_cons, List.length_nil, Nat.reduceAdd, Nat.reduceSub, Array.replicate_succ, Array.replicate_zero, List.push_toArray, List.append_toArray, List.nil_append, List.cons_append]
  gi_wp2_with fail
  refine ⟨trivial, ?_⟩
  refine (inW (GC.out _ hB0)).mono ?_
  rintro e w1 ⟨Aq, lq, cq, rfl, hg1, _, hb1⟩
  obtain ⟨rfl, HQ⟩ := hg1 rfl
  have HQ := Lib.hid HQ
  have hs1 := hb1.size
  have g1 := rg.next hb1
  have hB1 : Below w.heap.size w w1 := hB0.trans (hb1.mono hB0.size)
  have r1' := r1.next hb1
  have r2' := r2.next hb1
  have c0' := g1.cell 0
  obtain ⟨p, hp⟩ : ∃ p, w1.heap.size = p := ⟨_, rfl⟩
  have HPP := Lib.hid hp
  clear hw0 rg r1 r2 hb1 g0 hB0 GC c0 c1
  gi_wp2_with fail
  refine ⟨trivial, ?_⟩
  refine (inW (ftrees_any n Aq E.length cq _)).mono ?_
  rintro e wF ⟨rfl, hwF⟩
  have hsF : wF.heap.size = p + 2 := by rw [← hwF]; simp [hp]
  have hB12 : Below w1.heap.size w1 wF := by rw [← hwF]; exact ((Below.refl _ _).alloc (Nat.le_refl _) _).alloc (by simp) _
  have hpz : w.heap.size + 3 ≤ p := by omega
  have HS0 := Lib.hid hs0
  have hB2 : Below w.heap.size w wF := hB1.trans (hB12.mono hB1.size)
  have s1 := r1'.next hB12
  have s2 := r2'.next hB12
  have HQF : Hid (OwnQ wF w0.heap.size Aq cq E) := own_kept2 HQ.out fun j hj => hB12.block j (World.ownsRow.lt HQ.out j (blockOf_own.2 hj)).2
  have bN : Blk wF p 3 #[.int .i64 n] := by rw [← hwF]; exact (Blk.newAt hp.symm).alloc _
  have bE : Blk wF (p + 1) 45 #[.slice Aq E.length cq] := by rw [← hwF]; exact Blk.newAt (by simp [hp])
  have HKA : Hid (∀ k, blockOf Aq k → k < p) := fun k hk => by have := (World.ownsRow.lt HQ.out k (blockOf_own.2 hk)).2; omega
  try rw [hp]
  have HIT := Lib.hid (trees_iter n hn1 hn12 E HBD.out HEL.out Aq cq p (p + 1) (OwnQ.cap_ HQF.out) wF bN bE (OwnQ.reads HQF.out) (fun k hk => by have := HKA.out k hk; omega))
  rw [HX.out] at HIT
  clear hwF r1' r2' hB12 hB1 hs0 hs1 g1 c0' bN bE HQ
  gi_wp2_with fail
  refine range_outer (n := 3) (gf := 90) (lb := #[.pointer (some ⟨p, 0, none⟩), .pointer (some ⟨p + 1, 0, none⟩)]) rfl (enters_of Try.func90 (by kernel_rfl) rfl)
    (K := KT p (p + 1) Aq) (xs := x0 :: xr) HIT.out ?hK (fun k => k = w.heap.size + 1 ∨ k = w.heap.size + 2) ?hC
    (fun pre C W => pre = [] ∧ Blk W (w.heap.size + 1) 25 #[.slice none 0 0] ∧ Blk W (w.heap.size + 2) 28 #[.int .i64 0] ∧ C (w.heap.size + 1) ∧ C (w.heap.size + 2) ∧ Below w.heap.size w W ∧ (∀ k, C k → w.heap.size + 1 ≤ k))
    (fun cd pre C W => cd = .ret ∧ ∃ A c x, pre = [x] ∧ Blk W (w.heap.size + 1) 25 #[.slice A x.length c] ∧ Blk W (w.heap.size + 2) 28 #[.int .i64 0] ∧ OwnI W w.heap.size A c (nI x) ∧ C (w.heap.size + 1) ∧ C (w.heap.size + 2) ∧ (∀ k, blockOf A k → C k) ∧ Below w.heap.size w W ∧ (∀ k, C k → w.heap.size + 1 ≤ k))
    ?hI ?hIx ?h0 ?hps ?round ?done ?stop
  case hK =>
    rintro k (rfl | rfl | h1)
    · omega
    · omega
    · have := HKA.out k h1; omega
  case hC =>
    rintro k hk
    refine ⟨by omega, ?_⟩
    rintro (e | e | h1)
    · omega
    · omega
    · have h2 := (World.ownsRow.lt HQF.out k (blockOf_own.2 h1)).1; have h3 := HS0.out; omega
  case hI =>
    rintro pre C a b ⟨i1, i2, i3, i4, i5, i6, i7⟩ hst
    exact ⟨i1, i2.stays hst (.inl i4), i3.stays hst (.inl i5), i4, i5, i6.trans (hst.below (fun k hk => .inr ⟨by omega, id⟩) i6.size), i7⟩
  case hIx =>
    rintro cd pre C a b ⟨i0, A, c, x, i1, i2, i3, i4, i5, i6, i7, i8, i9⟩ hst
    exact ⟨i0, A, c, x, i1, i2.stays hst (.inl i5), i3.stays hst (.inl i6), i4.stays hst (fun k hk => .inl (i7 k hk)), i5, i6, i7, i8.trans (hst.below (fun k hk => .inr ⟨by omega, id⟩) i8.size), i9⟩
  case h0 => exact ⟨rfl, s1, s2, .inl rfl, .inr rfl, hB2, fun k hk => by omega⟩
  case hps => rintro x' args O W' ⟨A', c', rfl, _⟩; rfl
  case round =>
    intro l pre x args C O W hpre hI hl hC hO harg hlW hnC hnO T hT
    obtain ⟨rfl, i2, i3, i4, i5, i6, i7⟩ := hI
    obtain ⟨A8, c8, rfl, hown8, hO8⟩ := harg
    have hown8' : OwnI W w.heap.size A8 c8 (nI x) := own_rebase hown8 fun k hk => by have := (hO k (hO8 k hk)).2.2; omega
    clear hown8
    gi_wp2
    refine hT _ _ (Only.refl _ _) ?_
    intro w5 h5 _
    have hl5 : ∀ k, C k → k ≠ l := fun k hk e => hnC (e ▸ hk)
    have j2 := i2.only h5 (hl5 _ i4)
    have j3 := i3.only h5 (hl5 _ i5)
    have j6 : Below w.heap.size w w5 := i6.trans (h5.below (fun k hk e => by omega) i6.size)
    have j8 : OwnI w5 w.heap.size A8 c8 (nI x) := own_kept hown8' fun k hk => h5.block k (own_lt hown8' hk).2 fun e => hnO (e ▸ hO8 k hk)
    have e1 := j2.cell 0
    have e2 := j3.cell 0
    have f1 := j2.frozen 0
    have f2 := j3.frozen 0
    have hO5 : ∀ k, O k → p + 2 ≤ k ∧ k < w5.heap.size := fun k hk => ⟨by have := (hO k hk).2.2; omega, Nat.lt_of_lt_of_le (hO k hk).2.1 h5.size⟩
    clear i2 i3 i6 hown8' hC hO
    gi_wp2
    have k1 : Only (fun k => C k ∨ O k) w5 ((w5.setCell ⟨w.heap.size + 1, 0, none⟩ (.slice A8 x.length c8)).setCell ⟨w.heap.size + 2, 0, none⟩ (.int .i64 0)) := ((Only.refl _ w5).setCell (p := ⟨w.heap.size + 1, 0, none⟩) (.inl (.inl i4)) _).setCell (p := ⟨w.heap.size + 2, 0, none⟩) (.inl (.inl i5)) _
    refine ⟨fun k => C k ∨ O k, k1, fun k hk => hk.elim .inl fun h => .inr (.inl h), rfl, A8, c8, x, rfl, ?_, ?_, ?_, .inl i4, .inl i5, fun k hk => .inr (hO8 k hk), ?_, ?_⟩
    · have := (j2.set_ 0 (.slice A8 x.length c8)).far (p := ⟨w.heap.size + 2, 0, none⟩) (by simp) (.int .i64 0)
      simpa using this
    · have := (j3.far (p := ⟨w.heap.size + 1, 0, none⟩) (by simp) (.slice A8 x.length c8)).set_ 0 (.int .i64 0)
      simpa using this
    · have q1 : OwnI (w5.setCell ⟨w.heap.size + 1, 0, none⟩ (.slice A8 x.length c8)) w.heap.size A8 c8 (nI x) := own_kept j8 fun k hk => Below.heap_setCell _ _ _ _ (fun e => by have := (hO5 k (hO8 k hk)).1; simp at e; omega)
      exact own_kept q1 fun k hk => Below.heap_setCell _ _ _ _ (fun e => by have := (hO5 k (hO8 k hk)).1; simp at e; omega)
    · exact (j6.setCell (by show w.heap.size ≤ w.heap.size + 1; omega) _).setCell (by show w.heap.size ≤ w.heap.size + 2; omega) _
    · rintro k (hk | hk)
      · exact i7 k hk
      · have := (hO5 k hk).1; omega
  case done =>
    rintro C W ⟨i1, _⟩ _ _
    cases i1
  case stop =>
    rintro cd pre C W hpre ⟨rfl, A, c, x, rfl, i2, i3, i4, i5, i6, i7, i8, i9⟩ hnD hD
    obtain rfl : x = x0 := by
      obtain ⟨z, hz⟩ := hpre
      simpa using (List.cons.inj hz).1
    have e1 := i2.cell 0
    have e2 := i3.cell 0
    gi_wp2_with fail
    have p1 := Only.put_one W wF.heap.size (.deferred none)
    have p2 := (i2.only p1 (by omega)).cell 0
    have p3 := (i3.only p1 (by omega)).cell 0
    refine end_mark (v := .tuple #[.slice A x.length c, .int .i64 0]) hD (by simp [results, Try.results40, go_sem, p2, p3]) ⟨A, c, rfl, own_kept i4 fun k hk => p1.block k (own_lt i4 hk).2 (fun e => hnD (e ▸ i7 k hk)), i8.trans (p1.below (fun k hk e => by omega) i8.size)⟩
set_option maxRecDepth 100000 in
set_option maxHeartbeats 4000000 in
theorem tfirst_err (n : Int) (A : Option Addr) (c : Nat) (es : List E3) (hn : es.length ≤ 10000) (w : World) (h : Reads w w.heap.size 3 A es.length (edgeCells es)) (hj : joinErr n es ≠ 0) :
    Calls Try.prog 40 #[.agg #[.int .i64 n, .slice A es.length c]] w fun e w' => ∃ Ar cr, e = .returned (.tuple #[.slice Ar 0 cr, .int .i64 (joinErr n es)]) ∧ Below w.heap.size w w' := by
  have GC := Lib.hid (fun (W : World) (hB : Below w.heap.size w W) => tgiven_any n A c es hn W ((h.below hB).more hB.size))
  obtain ⟨z, hzz⟩ : ∃ z, joinErr n es = z := ⟨_, rfl⟩
  rw [hzz] at GC hj ⊢
  have hb : (z != 0) = true := by simpa using hj
  have HZ := Lib.hid hj
  have g0 := Blk.new w 24 #[.int .i64 n, .slice A es.length c]
  obtain ⟨w0, hw0⟩ : ∃ w0, ((w.alloc (.cells #[.int .i64 n, .slice A es.length c] 24)).alloc (.cells #[.slice none 0 0] 25)).alloc (.cells #[.int .i64 0] 28) = w0 := ⟨_, rfl⟩
  have hB0 : Below w.heap.size w w0 := by rw [← hw0]; exact (((Below.refl _ _).alloc (Nat.le_refl _) _).alloc (by simp) _).alloc (by simp; omega) _
  have rg : Blk w0 w.heap.size 24 #[.int .i64 n, .slice A es.length c] := by rw [← hw0]; exact (g0.alloc _).alloc _
  have r1 : Blk w0 (w.heap.size + 1) 25 #[.slice none 0 0] := by rw [← hw0]; exact (Blk.newAt (by simp)).alloc _
  have r2 : Blk w0 (w.heap.size + 2) 28 #[.int .i64 0] := by rw [← hw0]; exact Blk.newAt (by simp)
  have c0 := rg.cell 0
  have c1 := rg.cell 1
  clear hj hzz g0
  refine (callsIn_wide (n := 3)).1 ?_
  refine callsIn_of_wp_marks Try.func40 rfl trivial ?_
  simp only [Try.ntmps40, List.size_toArray, List.length_cons, List.length_nil, Nat.reduceAdd, Nat.reduceSub, Array.replicate_succ, Array.replicate_zero, List.push_toArray, List.append_toArray, List.nil_append, List.cons_append]
  gi_wp2_with fail
  refine ⟨trivial, ?_⟩
  refine (inW (GC.out _ hB0)).mono ?_
  rintro e w1 ⟨Ar, lr, cr, rfl, _, hg2, hb1⟩
  obtain ⟨rfl, rfl⟩ := hg2 HZ.out
  have s1 := r1.next hb1
  have s2 := r2.next hb1
  have e4 := s1.cell 0
  have e5 := s2.cell 0
  have f4 := s1.frozen 0
  have f5 := s2.frozen 0
  have BB := Lib.hid (hB0.trans (hb1.mono hB0.size))
  clear hw0 hB0 hb1 c0 c1 rg r1 r2
  gi_wp2
  have g1 : Blk ((w1.setCell ⟨w.heap.size + 1, 0, none⟩ (.slice none 0 0)).setCell ⟨w.heap.size + 2, 0, none⟩ (.int .i64 z)) (w.heap.size + 1) 25 #[.slice none 0 0] := by
    have := (s1.set_ 0 (.slice none 0 0)).far (p := ⟨w.heap.size + 2, 0, none⟩) (by simp) (.int .i64 z)
    simpa using this
  have g2 : Blk ((w1.setCell ⟨w.heap.size + 1, 0, none⟩ (.slice none 0 0)).setCell ⟨w.heap.size + 2, 0, none⟩ (.int .i64 z)) (w.heap.size + 2) 28 #[.int .i64 z] := by
    have := (s2.far (p := ⟨w.heap.size + 1, 0, none⟩) (by simp) (.slice none 0 0)).set_ 0 (.int .i64 z)
    simpa using this
  have p2 := g1.cell 0
  have p3 := g2.cell 0
  refine end_none (v := .tuple #[.slice none 0 0, .int .i64 z]) (by simp [results, Try.results40, go_sem, p2, p3]) ⟨none, 0, rfl, (BB.out.setCell (by show w.heap.size ≤ w.heap.size + 1; omega) _).setCell (by show w.heap.size ≤ w.heap.size + 2; omega) _⟩

end Go.Proofs.Ytepmfbgmkfkmkaa

/-! Package tree: All for all graphs; Count. -/
namespace Go.Proofs.Ytepmfbgmkfkmkaa
open Go.RowKit

theorem tall_any (n : Int) (A : Option Addr) (c : Nat) (es : List E3) (hn : es.length ≤ 10000) (hl : (tallE n es).1.length ≤ 16384) (w : World) (h : Reads w w.heap.size 3 A es.length (edgeCells es)) :
    Calls Try.prog 38 #[.agg #[.int .i64 n, .slice A es.length c]] w fun e w' => ∃ Ar cr vs, e = .returned (.tuple #[.slice Ar (tallE n es).1.length cr, .int .i64 (tallE n es).2]) ∧ OwnRows w' w.heap.size Ar cr vs (tallE n es).1 ∧ Below w.heap.size w w' := by
  by_cases hj : joinErr n es = 0
  · obtain ⟨_, hG, _⟩ := join_zero hj
    obtain ⟨m, rfl⟩ := Int.eq_ofNat_of_zero_le (show 0 ≤ n by have := hG.lo; omega)
    have hE : tallE m es = ((treesT m (endsL es)).map nI, 0) := by unfold tallE; rw [if_neg (fun hc => hc hj), Int.toNat_natCast]
    rw [hE] at hl ⊢
    dsimp only at hl ⊢
    rw [List.length_map] at hl ⊢
    exact tall_ok m A c es hn hj _ rfl hl w h
  · exact tall_err n A c es hn w h hj

set_option maxHeartbeats 1000000 in
theorem tcount_any (n : Int) (A : Option Addr) (c : Nat) (es : List E3) (hn : es.length ≤ 10000) (hl : (tallE n es).1.length ≤ 16384) (w : World) (h : Reads w w.heap.size 3 A es.length (edgeCells es)) :
    Calls Try.prog 39 #[.agg #[.int .i64 n, .slice A es.length c]] w fun e w' => e = .returned (.tuple #[.int .i64 ((tallE n es).1.length : Nat), .int .i64 (tallE n es).2]) ∧ Below w.heap.size w w' := by
  have AC := Lib.hid (fun (W : World) (hB : Below w.heap.size w W) => tall_any n A c es hn hl W ((h.below hB).more hB.size))
  have g0 := Blk.new w 24 #[.int .i64 n, .slice A es.length c]
  have hb0 : Below w.heap.size w (w.alloc (.cells #[.int .i64 n, .slice A es.length c] 24)) := (Below.refl _ _).alloc (Nat.le_refl _) _
  have c0 := g0.cell 0
  have c1 := g0.cell 1
  obtain ⟨X, hX⟩ : ∃ X, tallE n es = X := ⟨_, rfl⟩
  rw [hX] at AC ⊢
  clear hX hl
  go_enter Try.func39, Try.ntmps39
  go_wp2_with fail
  refine (AC.out _ hb0).mono ?_
  rintro e w1 ⟨Ar, cr, vs, rfl, _, hb1⟩
  go_wp2
  go_ret2
  exact ⟨rfl, hb0.trans (hb1.mono hb0.size)⟩
end Go.Proofs.Ytepmfbgmkfkmkaa

