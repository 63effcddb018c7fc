/-
  Texts of this claim, put together: RAll13, ActP.
-/
import Derived.Test.YtplgbapbgcipdaaGreatDoorK17
import Derived.Test.YtplgbapbgcipdaaGreatDoorK34
import Derived.Test.YtplgbapbgcipdaaGreatDoorK32
import Derived.Test.YtplgbapbgcipdaaGreatDoorK15
import Derived.Test.YtplgbapbgcipdaaGreatDoorK31
/-! ref13.All: the spanning trees among all sets, in order. -/
namespace Go.Proofs.YtplgbapbgcipdaaGreatDoor
open Go.RowKit

theorem spansB_eq {n : Nat} {E : List (Nat × Nat)} (hE : BdP n E) {t : List Nat} (ht : ∀ e ∈ t, e < E.length) : spansB n E t = (decide (t.length + 1 = n) && decide (partsP n (pk E t) = 1)) := by
  by_cases hl : t.length + 1 = n
  · rw [spans_parts hE ht hl, decide_eq_true hl, Bool.true_and]
  · unfold spansB
    rw [decide_eq_false hl, Bool.and_false, Bool.false_and]
/-- The trees among the first sets. -/
def treesTo (n : Nat) (E : List (Nat × Nat)) (k : Nat) : List (List Nat) := ((List.range k).map (bitsL E.length)).filter fun t => spansB n E t
theorem treesTo_succ {n : Nat} {E : List (Nat × Nat)} {k : Nat} : treesTo n E (k + 1) = if spansB n E (bitsL E.length k) = true then treesTo n E k ++ [bitsL E.length k] else treesTo n E k := by
  unfold treesTo
  rw [List.range_succ, List.map_append, List.filter_append]
  by_cases h : spansB n E (bitsL E.length k) = true
  · rw [if_pos h, List.map_cons, List.map_nil, List.filter_cons, if_pos h]; rfl
  · rw [if_neg h, List.map_cons, List.map_nil, List.filter_cons, if_neg h]; simp
theorem treesTo_len {n : Nat} {E : List (Nat × Nat)} {k : Nat} : (treesTo n E k).length ≤ k := Nat.le_trans (List.length_filter_le _ _) (by simp)
theorem treesTo_ref {n : Nat} {E : List (Nat × Nat)} (hE : BdP n E) : treesTo n E (2 ^ E.length) = refTs n E := by
  unfold treesTo refTs
  apply List.filter_congr
  intro t ht
  obtain ⟨D, _, rfl⟩ := List.mem_map.1 ht
  exact spansB_eq hE bits_lt
theorem sort_bfN (l : List (List Nat)) : sortG bfI (l.map nI) = (sortG bfN l).map nI := by
  have hK : ∀ (x : List Nat) (L : List (List Nat)) (k : Nat), insK bfI (nI x) (L.map nI) k = insK bfN x L k := by
    intro x L k
    induction k with
    | zero => rfl
    | succ k ih =>
      rw [insK, insK, List.getElem?_map]
      cases L[k]? with
      | none => rfl
      | some y => simp only [Option.map_some]; rw [ih]; rfl
  have hS : ∀ (L : List (List Nat)) (x : List Nat), insS bfI (L.map nI) (nI x) = (insS bfN L x).map nI := by
    intro L x
    unfold insS
    rw [List.map_append, List.map_cons, List.map_take, List.map_drop, hK, List.length_map]
  unfold sortG
  suffices H : ∀ (l L : List (List Nat)), (l.map nI).foldl (insS bfI) (L.map nI) = (l.foldl (insS bfN) L).map nI from H l []
  intro l
  induction l with
  | nil => intro L; rfl
  | cons x l ih => intro L; rw [List.map_cons, List.foldl_cons, List.foldl_cons, hS, ih]
/-- A slice of slices of the call's own, as pairs. -/
theorem rows_pairs {w : World} {base : Nat} {A : Option Addr} {c : Nat} {vs : List Value} {xss : List (List Int)} (h : OwnRows w base A c vs xss) : ∃ ps : List RowV, vals ps = vs ∧ ps.map Prod.snd = xss ∧ ∀ p ∈ ps, ∃ A' c', p.1 = .slice A' p.2.length c' ∧ Reads w w.heap.size 1 A' p.2.length (ints p.2) := by
  have hl := h.len
  have e1 : (vs.zip xss).map Prod.fst = vs := by rw [List.map_fst_zip]; omega
  have e2 : (vs.zip xss).map Prod.snd = xss := by rw [List.map_snd_zip]; omega
  refine ⟨vs.zip xss, e1, e2, fun p hp => ?_⟩
  obtain ⟨i, hi⟩ := List.getElem?_of_mem hp
  obtain ⟨v, x⟩ := p
  obtain ⟨h1, h2⟩ := List.getElem?_zip_eq_some.1 hi
  dsimp only at h1 h2 ⊢
  obtain ⟨A', c', hv, ho⟩ := h.2.2 i x h2
  rw [hv] at h1
  injection h1 with h1
  exact ⟨A', c', h1.symm, ho.reads⟩
theorem RowsR.of_pairs {w : World} {base : Nat} {A : Option Addr} {c : Nat} {ps : List RowV} (h : w.ownsRow base 25 1 (.slice A ps.length c) ps.length (vals ps)) (hv : ∀ p ∈ ps, ∃ A' c', p.1 = .slice A' p.2.length c' ∧ Reads w w.heap.size 1 A' p.2.length (ints p.2)) : RowsR w w.heap.size A (ps.map Prod.snd) := by
  refine ⟨vals ps, by rw [List.length_map]; exact Reads.of_own h, fun i xs hi => ?_⟩
  rw [List.getElem?_map] at hi
  rcases hp : ps[i]? with _ | p
  · rw [hp] at hi; cases hi
  · rw [hp] at hi
    injection hi with hi
    obtain ⟨A', c', e, hr⟩ := hv p (List.mem_of_getElem? hp)
    subst hi
    exact ⟨A', c', by simp [vals, hp, e], hr⟩

set_option maxRecDepth 100000 in
set_option maxHeartbeats 8000000 in
theorem rall13_any (m : Nat) (A : Option Addr) (c : Nat) (es : List E3) (hn : es.length ≤ 40) (hG : RightG m es) (hsz : (endsL es).length ≤ 8) (w : World) (h : Reads w w.heap.size 3 A es.length (edgeCells es)) :
    Calls Tryz.prog 97 #[.agg #[.int .i64 m, .slice A es.length c]] w fun e w' => ∃ A' c', e = .returned (.slice A' (treesT m (endsL es)).length c') ∧ RowsR w' w'.heap.size A' ((treesT m (endsL es)).map nI) ∧ Below w.heap.size w w' := by
  have hm1 : 0 < m := by have := hG.lo; omega
  have hbe := bd_ends hG
  have SC : Hid (∀ (W : World) (hB : Below w.heap.size w W), Calls Tryz.prog 28 #[.agg #[.int .i64 m, .slice A es.length c]] W fun e w' => e = .returned (.int .i64 ((endsL es).length : Nat)) ∧ Below W.heap.size W w') := by
    intro W hB
    have := rsize_any m A c es hn m hG.ok W ((h.below hB).more hB.size)
    rw [size_ends] at this
    exact this
  have IC : Hid (∀ (A' : Option Addr) (c' : Nat) (D : Nat) (W : World) (hB : Below w.heap.size w W) (hr : Reads W W.heap.size 1 A' (bitsL (endsL es).length D).length (ints (nI (bitsL (endsL es).length D)))), Calls Tryz.prog 78 #[.agg #[.int .i64 m, .slice A es.length c], .slice A' (bitsL (endsL es).length D).length c'] W fun e w' => e = .returned (.bool (spansB m (endsL es) (bitsL (endsL es).length D))) ∧ Below W.heap.size W w') := by
    intro A' c' D W hB hr
    exact ris13_any m A c es hn hG A' c' _ bits_lt (by have := bitsL_length (endsL es).length D; omega) W ((h.below hB).more hB.size) hr
  have HREF := Lib.hid (treesTo_ref hbe)
  have HSRT := Lib.hid (trees_sorted hbe hm1)
  obtain ⟨E, hE⟩ : ∃ E, endsL es = E := ⟨_, rfl⟩
  rw [hE] at SC IC HREF HSRT hsz ⊢
  have HN : Hid (2 ^ E.length ≤ 256) := Nat.pow_le_pow_right (by omega) (show E.length ≤ 8 from hsz)
  have UC := Lib.hid (fun (D : Nat) (hD : D ≤ 1048576) (W : World) => rsubset10_any E.length D (by omega) hD W)
  have g := Blk.new w 24 #[.int .i64 m, .slice A es.length c]
  have hB := (Below.refl w.heap.size w).alloc (Nat.le_refl _) (.cells #[.int .i64 m, .slice A es.length c] 24)
  have k0 := g.cell 0
  have k1 := g.cell 1
  clear hG hbe hE hm1
  go_enter Tryz.func97, Tryz.ntmps97
  go_wp2_with fail
  refine (SC.out _ hB).mono ?_
  rintro e w1 ⟨rfl, hb⟩
  have HG1 := Lib.hid (g.next hb)
  have HB1 := Lib.hid (hB.trans (hb.mono hB.size))
  have hz1 := HB1.out.size
  clear g hB hb k0 k1 SC
  go_wp2_with fail
  go_loop [4, 5] (fun a i => ∃ k : Nat, k ≤ E.length ∧ i = .int .i64 k ∧ a = .int .i64 ((2 ^ k : Nat) : Int)) (fun _ i => E.length - (intOf i).toNat)
  case atStart => exact ⟨0, by omega, rfl, rfl⟩
  case round =>
    obtain ⟨k, hk, rfl, rfl⟩ := hrel
    by_cases hlt : k < E.length
    · have hi : (k : Int) < (E.length : Int) := by omega
      have hp : 2 ^ k ≤ 256 := Nat.le_trans (Nat.pow_le_pow_right (by omega) hk) HN.out
      have hps : 2 ^ (k + 1) = 2 ^ k * 2 := Nat.pow_succ 2 k
      obtain ⟨p, hpp⟩ : ∃ p, 2 ^ k = p := ⟨_, rfl⟩
      rw [hpp] at hp hps ⊢
      have HPS := Lib.hid hps
      clear hpp hps
      go_wp2
      go_round
      case rel => exact ⟨k + 1, by omega, by go_num, by rw [HPS.out]; go_num⟩
      case measure => simp [intOf]; omega
    · obtain rfl : k = E.length := by omega
      obtain ⟨N, hN⟩ : ∃ N, 2 ^ E.length = N := ⟨_, rfl⟩
      have hNb : N ≤ 256 := hN ▸ HN.out
      rw [hN] at HREF
      rw [hN]
      clear hN HN
      go_wp2_with fail
      go_loopw [6, 7, 8] (fun o i _ wr => ∃ (k : Nat) (Ao : Option Addr) (co : Nat) (vs : List Value), k ≤ N ∧ i = .int .i64 k ∧ o = .slice Ao (treesTo m E k).length co ∧ Hid (OwnRows wr w1.heap.size Ao co vs ((treesTo m E k).map nI)) ∧ Hid (Below w1.heap.size w1 wr)) (fun _ i _ _ => N - (intOf i).toNat)
      case atStart => exact ⟨0, none, 0, [], by omega, rfl, rfl, OwnRows.nil_ _ _, Below.refl _ _⟩
      case round =>
        obtain ⟨k, Ao, co, vs, hk, rfl, rfl, HO, HW⟩ := hrel
        have hwz := HW.out.size
        have g2 := HG1.out.next HW.out
        have k0 := g2.cell 0
        have k1 := g2.cell 1
        by_cases hlt : k < N
        · have hi2 : (k : Int) < (N : Int) := by omega
          have hst := treesTo_succ (n := m) (E := E) (k := k)
          have htl := treesTo_len (n := m) (E := E) (k := k)
          have UK := Lib.hid (UC.out k (by omega) wr)
          obtain ⟨b, hb⟩ : ∃ b, spansB m E (bitsL E.length k) = b := ⟨_, rfl⟩
          have IK := Lib.hid (fun A' c' => IC.out A' c' k)
          rw [hb] at hst IK
          obtain ⟨T, hT⟩ : ∃ T, bitsL E.length k = T := ⟨_, rfl⟩
          rw [hT] at UK IK hst
          obtain ⟨L, hL⟩ : ∃ L, treesTo m E k = L := ⟨_, rfl⟩
          rw [hL] at HO hst htl ⊢
          have HST := Lib.hid hst
          have HLN : Hid ((L.map nI).length = L.length) := List.length_map _
          have HTN : Hid ((nI T).length = T.length) := nI_length T
          clear hst hb hT hL
          go_wp2_with fail
          refine (UK.out).mono ?_
          rintro e w5 ⟨A5, c5, rfl, o5, hb5⟩
          have HB5 := Lib.hid (HW.out.trans (hb5.mono hwz))
          have g5 := g2.next hb5
          have k0 := g5.cell 0
          have k1 := g5.cell 1
          have HO5 := Lib.hid (HO.out.next hb5)
          have R5 : Reads w5 w5.heap.size 1 A5 T.length (ints (nI T)) := by have := o5.reads; rw [HTN.out] at this; exact this
          go_wp2_with fail
          refine (IK.out _ _ _ (HB1.out.trans (HB5.out.mono hz1)) R5).mono ?_
          rintro e w6 ⟨rfl, hb6⟩
          have HB6 := Lib.hid (HB5.out.trans (hb6.mono HB5.out.size))
          have HO6 := Lib.hid (HO5.out.next hb6)
          have O6 := Lib.hid ((o5.mono hwz).next hb6)
          clear hb5 hb6 R5 o5 HO5 g5 k0 k1
          have hwz6 := HB6.out.size
          rcases b with _ | _
          · have HF := Lib.hid (HST.out.trans (if_neg (by decide)))
            go_wp2
            go_roundw
            case rel => exact ⟨k + 1, Ao, co, vs, by omega, by go_num, by rw [HF.out], by rw [Hid, HF.out]; exact HO6.out, HB6⟩
            case measure => simp [intOf]; omega
          · have HF := Lib.hid (HST.out.trans (if_pos rfl))
            have own6 : w6.ownsRow w1.heap.size 25 1 (.slice Ao L.length co) L.length vs := by have := HO6.out.1; rw [HLN.out] at this; exact this
            go_wp2_with (first | (at_builtin; refine append_go rfl (.tmp 29) (.tmp 31) _ rfl w1.heap.size 25 Tryz.underlying50 info_row rfl (by omega) Ao co L.length vs rfl (World.ownsRow.alloc own6 _) (w6.heap.size + 1) [.slice A5 T.length c5] rfl (Reads.box1 w6 _ _) (by simp [Value.oneCell']) (by omega) (Nat.le_trans hwz6 (by simp)) ?_; intro A7 c7 w7 hown7 hg7 hb7 _) | fail)
            have HB7 := Lib.hid ((HB6.out.alloc hwz6 (.cells #[.slice A5 T.length c5] 25)).trans hb7)
            have O7 : Hid (OwnRows w7 w1.heap.size A7 c7 (vs ++ [.slice A5 T.length c5]) ((L ++ [T]).map nI)) := by
              have k2 := OwnRows.push (A8 := A5) (c8 := c5) (x := nI T) (w' := w7) (A' := A7) (c' := c7) (HO6.out.kept (w' := w6.alloc (.cells #[.slice A5 T.length c5] 25)) fun k hk => Below.heap_alloc _ _ _ (HO6.out.lt hk).2) (OwnI.alloc O6.out _) (by rw [HLN.out, HTN.out]; exact hown7) (by rw [HLN.out]; exact hg7)
              rw [HTN.out] at k2
              rw [Hid, List.map_append]; exact k2
            go_wp2
            go_roundw
            case rel => exact ⟨k + 1, A7, c7, _, by omega, by go_num, by rw [HF.out, List.length_append]; rfl, by rw [Hid, HF.out]; exact O7.out, HB7⟩
            case measure => simp [intOf]; omega
        · obtain rfl : k = N := by omega
          obtain ⟨ps, e1, e2, hv⟩ := rows_pairs HO.out
          have HEQ : Hid (sortG bfI ((treesTo m E k).map nI) = (treesT m E).map nI) := by
            rw [Hid, sort_bfN, HREF.out, HSRT.out]
          have hpl : ps.length = (treesTo m E k).length := by have := congrArg List.length e2; simpa using this
          have htl := treesTo_len (n := m) (E := E) (k := k)
          have hown := HO.out.1
          rw [List.length_map, ← hpl, ← e1] at hown
          have hsm : ∀ p ∈ ps, p.2.length ≤ 1048576 := by
            intro p hp
            have : p.2 ∈ (treesTo m E k).map nI := by rw [← e2]; exact List.mem_map_of_mem hp
            obtain ⟨t, ht, e⟩ := List.mem_map.1 this
            rw [← e, nI_length]
            obtain ⟨D, _, rfl⟩ := List.mem_map.1 (List.mem_filter.1 ht).1
            have := bitsL_length E.length D
            omega
          have OC := Lib.hid (rordered_any Ao co ps (by omega) hsm wr (Reads.of_own hown) hv)
          have HV := Lib.hid hv
          have HMP : Hid ((sortG ltP ps).map Prod.snd = (treesT m E).map nI) := by rw [Hid, sortG_map, e2, HEQ.out]
          have HPL : Hid (ps.length = (treesT m E).length) := by
            have h1 := congrArg List.length HMP.out
            rw [List.length_map, List.length_map, sortG_length] at h1
            exact h1
          rw [← hpl]
          have HWW := HW
          clear hpl htl hown hsm e1 e2 hv
          go_wp2_with fail
          refine (OC.out).mono ?_
          rintro e w7 ⟨A7, c7, rfl, o7, hb7⟩
          have HB7 := Lib.hid ((HB1.out.trans (HW.out.mono hz1)).trans (hb7.mono (HB1.out.trans (HW.out.mono hz1)).size))
          have R7 : Hid (RowsR w7 w7.heap.size A7 ((treesT m E).map nI)) := by
            rw [Hid, ← HMP.out]
            refine RowsR.of_pairs (c := c7) (by rw [sortG_length]; exact o7) fun p hp => ?_
            obtain ⟨A', c', e, hr⟩ := HV.out p ((sortG_perm (lt := ltP) ps).mem_iff.1 hp)
            exact ⟨A', c', e, hr.next hb7⟩
          clear hb7 o7
          go_wp2
          go_ret
          exact ⟨A7, c7, by rw [← HPL.out]; rfl, R7.out, HB7.out⟩
end Go.Proofs.YtplgbapbgcipdaaGreatDoor

/-! Active single edges, by the first one of a cutset or a cycle, and by all of it. No program is in sight. -/
namespace Go.Proofs.YtplgbapbgcipdaaGreatDoor
section
variable {n : Nat} {E : List (Nat × Nat)} {t : List Nat} {e f : Nat}
theorem head_least {l : List Int} {x : Int} (hs : l.Pairwise (· ≤ ·)) (hx : x ∈ l) : l.head? = some x ↔ ∀ y ∈ l, x ≤ y := by
  cases l with
  | nil => cases hx
  | cons a l =>
    rw [List.head?_cons, List.pairwise_cons] at *
    constructor
    · intro h
      injection h with h
      subst h
      intro y hy
      rcases List.mem_cons.1 hy with rfl | hy
      · exact Int.le_refl _
      · exact hs.1 y hy
    · intro h
      have h1 := h a (by simp)
      rcases List.mem_cons.1 hx with rfl | hx
      · rfl
      · have h2 := hs.1 x hx
        congr 1; omega
theorem mem_cutL {i : Nat} : i ∈ cutL E t f ↔ i < E.length ∧ Sep E t (E.getD i (0, 0)).1 (E.getD i (0, 0)).2 f := by
  unfold cutL; rw [List.mem_filter, List.mem_range, decide_eq_true_eq]
theorem nI_asc {l : List Nat} (h : l.Pairwise (· < ·)) : (nI l).Pairwise (· ≤ ·) := by
  unfold nI
  rw [List.pairwise_map]
  exact h.imp fun h => by omega
theorem cutL_asc : (cutL E t f).Pairwise (· < ·) := List.pairwise_lt_range.sublist List.filter_sublist
/-- The list that a search tells is least at f: as the program and the reference ask. -/
theorem cut_least : (∀ y ∈ nI (cutL E t f), (f : Int) ≤ y) ↔ IAct E t f := by
  constructor
  · intro h i hi hs
    have := h (i : Int) (mem_nI9.2 (mem_cutL.2 ⟨hi, hs⟩))
    omega
  · intro h y hy
    obtain ⟨i, hi, rfl⟩ := List.mem_map.1 hy
    obtain ⟨h1, h2⟩ := mem_cutL.1 hi
    have := h i h1 h2
    omega
theorem cut_head (hT : FoE n E t) (hf : f ∈ t) : (nI (cutL E t f)).head? = some (f : Int) ↔ IAct E t f := by
  rw [head_least (nI_asc cutL_asc) (mem_nI9.2 (mem_cutL.2 ⟨hT.lt f hf, sep_self hT hf⟩)), cut_least]
theorem cyc_least (hT : FoE n E t) (hc : Cn (pk E t) (E.getD e (0, 0)).1 (E.getD e (0, 0)).2) {l : List Int} (hl : ∀ y, y ∈ l ↔ y = (e : Int) ∨ y ∈ nI (pathL E t (E.getD e (0, 0)).1 (E.getD e (0, 0)).2)) : (∀ y ∈ l, (e : Int) ≤ y) ↔ EAct E t e := by
  constructor
  · intro h f hf hs
    have := h (f : Int) ((hl _).2 (.inr (mem_nI9.2 ((path_mem hT hc f).2 ⟨hf, hs⟩))))
    omega
  · intro h y hy
    rcases (hl y).1 hy with rfl | hy
    · omega
    · obtain ⟨f, hf, rfl⟩ := List.mem_map.1 hy
      obtain ⟨h1, h2⟩ := (path_mem hT hc f).1 hf
      have := h f h1 h2
      omega
theorem cyc_head (hT : FoE n E t) (hc : Cn (pk E t) (E.getD e (0, 0)).1 (E.getD e (0, 0)).2) : (sortG ltI (nI (pathL E t (E.getD e (0, 0)).1 (E.getD e (0, 0)).2) ++ [(e : Int)])).head? = some (e : Int) ↔ EAct E t e := by
  have hp := sortG_perm (lt := ltI) (nI (pathL E t (E.getD e (0, 0)).1 (E.getD e (0, 0)).2) ++ [(e : Int)])
  rw [head_least ((sortG_sorted ltI_tr ltI_as _).imp fun {a b} h => by simp [ltI] at h; omega) (hp.mem_iff.2 (by simp))]
  refine cyc_least hT hc fun y => ?_
  rw [hp.mem_iff, List.mem_append, List.mem_singleton]
  exact Or.comm
end
end Go.Proofs.YtplgbapbgcipdaaGreatDoor

