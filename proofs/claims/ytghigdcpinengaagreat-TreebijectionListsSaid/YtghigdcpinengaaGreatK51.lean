/-
  Texts of this claim, put together: PrsV, RMin24, FewS, DualT, MatchP, RBefore.
-/
import Derived.Test.YtghigdcpinengaaGreatK39
import Derived.Test.YtghigdcpinengaaGreatK40
import Derived.Test.YtghigdcpinengaaGreatK43
import Derived.Test.YtghigdcpinengaaGreatK50
import Derived.Deep.QuietTactic
import Derived.BigQuiet
import Derived.Deep.RegionHeld3
import Derived.Test.YtghigdcpinengaaGreatK42
import Derived.Test.YtghigdcpinengaaGreatK36
import Derived.Test.YtghigdcpinengaaGreatK38
import Derived.Test.YtghigdcpinengaaGreatK30
import Derived.Test.YtghigdcpinengaaGreatK01
import Derived.Test.YtghigdcpinengaaGreatK03
/-! sandpilelaw30.own, ref30.SamePairs (at equal lists), ref30.Pairs. -/
namespace Go.Proofs.YtghigdcpinengaaGreat
open Go.RowKit

theorem own_keptN {w w' : World} {base n size : Nat} {e : TypeId} {v : Value} {vs : List Value} (h : w.ownsRow base e size v n vs) (hk : ∀ k, v.ownBlock = some k → w'.heap[k]? = w.heap[k]?) : w'.ownsRow base e size v n vs := by
  obtain ⟨h1, h2⟩ := h
  refine ⟨h1, ?_⟩
  rcases h2 with h2 | ⟨g, cap, cur, hv, hg, hh, r⟩
  · exact .inl h2
  · exact .inr ⟨g, cap, cur, hv, hg, (hk g (by rw [hv]; rfl)).trans hh, r⟩
/-- A slice of pairs of the call's own, whose lists lie below. -/
structure PrsV (T : TypeId) (w : World) (base : Nat) (A : Option Addr) (c : Nat) (vs : List Value) (ps : List (List Int × List Int)) : Prop where
  own : w.ownsRow base T 2 (.slice A ps.length c) ps.length vs
  one : ∀ u ∈ vs, u.oneCell' = true
  rows : ∀ (i : Nat) (p : List Int × List Int), ps[i]? = some p → ∃ A1 c1 A2 c2, vs[2 * i]? = some (.slice A1 p.1.length c1) ∧ vs[2 * i + 1]? = some (.slice A2 p.2.length c2) ∧ Reads w base 1 A1 p.1.length (ints p.1) ∧ Reads w base 1 A2 p.2.length (ints p.2)
section
variable {T : TypeId} {w w' : World} {base B : Nat} {A A' A1 A2 : Option Addr} {c c' c1 c2 : Nat} {vs : List Value} {ps : List (List Int × List Int)} {x y : List Int}
theorem PrsV.nil_ (T : TypeId) (w : World) (base : Nat) : PrsV T w base none 0 [] [] := ⟨World.ownsRow_nil _ _ _ _, by simp, by simp⟩
theorem PrsV.len (h : PrsV T w base A c vs ps) : vs.length = ps.length * 2 := h.own.1
theorem PrsV.push (h : PrsV T w base A c vs ps) (h1 : Reads w base 1 A1 x.length (ints x)) (h2 : Reads w base 1 A2 y.length (ints y))
    (hown : w'.ownsRow base T 2 (.slice A' (ps.length + 1) c') (ps.length + 1) (vs ++ [.slice A1 x.length c1, .slice A2 y.length c2])) (hb : Below base w w') :
    PrsV T w' base A' c' (vs ++ [.slice A1 x.length c1, .slice A2 y.length c2]) (ps ++ [(x, y)]) := by
  refine ⟨by rw [List.length_append]; exact hown, ?_, fun i p hi => ?_⟩
  · intro u hu
    rcases List.mem_append.1 hu with hu | hu
    · exact h.one u hu
    · simp at hu; rcases hu with rfl | rfl <;> rfl
  · have hl := h.len
    rcases Nat.lt_trichotomy i ps.length with hlt | rfl | hgt
    · rw [List.getElem?_append_left hlt] at hi
      obtain ⟨A3, c3, A4, c4, v1, v2, r1, r2⟩ := h.rows i p hi
      exact ⟨A3, c3, A4, c4, by rw [List.getElem?_append_left (by omega)]; exact v1, by rw [List.getElem?_append_left (by omega)]; exact v2, r1.below hb, r2.below hb⟩
    · have : p = (x, y) := by simpa using hi.symm
      subst this
      refine ⟨A1, c1, A2, c2, ?_, ?_, h1.below hb, h2.below hb⟩
      · rw [List.getElem?_append_right (by omega), hl, Nat.mul_comm, Nat.sub_self]; rfl
      · rw [List.getElem?_append_right (by omega), hl, show 2 * ps.length + 1 - ps.length * 2 = 1 from by omega]; rfl
    · rw [List.getElem?_eq_none (by simp; omega)] at hi; cases hi
theorem PrsV.reads (h : PrsV T w base A c vs ps) (hs : base ≤ w.heap.size) : PrsR w w.heap.size A ps :=
  ⟨vs, Reads.of_own h.own, fun i p hp => by
    obtain ⟨A1, c1, A2, c2, h1, h2, h3, h4⟩ := h.rows i p hp
    exact ⟨A1, c1, A2, c2, h1, h2, h3.more hs, h4.more hs⟩⟩
end

set_option maxRecDepth 100000 in
set_option maxHeartbeats 4000000 in
theorem own30_any (A : Option Addr) (c : Nat) (ps : List (List Int × List Int)) (hn : ps.length ≤ 1000000) (w : World) (h : PrsR w w.heap.size A ps) :
    Calls Tryz.prog 42 #[.slice A ps.length c] w fun e w' => ∃ A' c', e = .returned (.slice A' ps.length c') ∧ PrsR w' w'.heap.size A' ps ∧ Below w.heap.size w w' := by
  have H := Lib.hid h
  obtain ⟨N, hN⟩ : ∃ N, ps.length = N := ⟨_, rfl⟩
  rw [hN] at hn ⊢
  have HN := Lib.hid hN
  clear h hN
  go_enter Tryz.func42, Tryz.ntmps42
  go_wp2_with fail
  go_loopw [3, 8] (fun o i wr => ∃ (k : Nat) (A : Option Addr) (c : Nat) (vs : List Value) (qs : List (List Int × List Int)), k ≤ N ∧ i = .int .i64 k ∧ o = .slice A k c ∧ qs.length = k ∧ Hid (ps.take k = qs) ∧ Hid (PrsV 105 wr w.heap.size A c vs qs) ∧ Hid (Below w.heap.size w wr)) (fun _ i _ => N - (intOf i).toNat)
  case atStart => exact ⟨0, none, 0, [], [], by omega, rfl, rfl, rfl, by simp [Hid], PrsV.nil_ _ _ _, Below.refl _ _⟩
  case round =>
    obtain ⟨k, Ao, co, vs, qs, hk, rfl, rfl, hql, HR, HO, HB⟩ := hrel
    have hsz := HB.out.size
    by_cases hlt : k < N
    · have hi : (k : Int) < (N : Int) := by omega
      obtain ⟨p, hp⟩ := get_of_lt (xs := ps) (k := k) (by rw [HN.out]; exact hlt)
      obtain ⟨b, off, A1, c1, A2, c2, hA, hb, e1, e2, r1, r2⟩ := (H.out.below HB.out).at_ hp
      subst hA
      have hts : Hid (ps.take (k + 1) = qs ++ [p]) := by rw [Hid, take_snoc hp, HR.out]
      have R1 := Lib.hid r1
      have R2 := Lib.hid r2
      have hq2 : (qs ++ [p]) = qs ++ [(p.1, p.2)] := rfl
      have HQ2 := Lib.hid hq2
      obtain ⟨L1, hL1⟩ : ∃ L, p.1.length = L := ⟨_, rfl⟩
      obtain ⟨L2, hL2⟩ : ∃ L, p.2.length = L := ⟨_, rfl⟩
      rw [hL1] at e1
      rw [hL2] at e2
      have HL1 := Lib.hid hL1
      have HL2 := Lib.hid hL2
      have ow : wr.ownsRow w.heap.size 105 2 (.slice Ao k co) k vs := by have := HO.out.own; rw [hql] at this; exact this
      have hbx := Reads.boxN (wr.alloc (.cells #[.slice A1 L1 c1, .slice A2 L2 c2] 78)) #[.slice A1 L1 c1, .slice A2 L2 c2] 105
      have hB2 : Hid (Below w.heap.size wr (wr.alloc (.cells #[.slice A1 L1 c1, .slice A2 L2 c2] 78))) := (Below.refl _ _).alloc hsz _
      have hB3 : Hid (Below w.heap.size wr ((wr.alloc (.cells #[.slice A1 L1 c1, .slice A2 L2 c2] 78)).alloc (.cells #[.slice A1 L1 c1, .slice A2 L2 c2] 105))) := hB2.out.alloc (by simp; omega) _
      clear hp HR r1 r2 hq2 hL1 hL2
      go_wp2_with (at_builtin; refine append_go rfl (.tmp 12) (.tmp 14) _ rfl w.heap.size 105 Tryz.underlying69 info_rpair rfl (by omega) Ao co k vs rfl (World.ownsRow.alloc (World.ownsRow.alloc ow _) _) _ [.slice A1 L1 c1, .slice A2 L2 c2] rfl (by simpa using hbx) (by simp [Value.oneCell']) (by omega) (by simp; omega) ?_; intro A7 c7 w7 hown7 hg7 hb7 hd7)
      have HB7 : Hid (Below w.heap.size wr w7) := hB3.out.trans hb7
      have HP7 : Hid (PrsV 105 w7 w.heap.size A7 c7 (vs ++ [.slice A1 p.1.length c1, .slice A2 p.2.length c2]) (qs ++ [(p.1, p.2)])) :=
        PrsV.push HO.out R1.out R2.out (by rw [HL1.out, HL2.out, hql]; exact hown7) HB7.out
      clear hown7 hg7 hb7 hd7 hbx ow
      go_wp2
      go_roundw
      case rel => exact ⟨k + 1, A7, c7, _, qs ++ [p], by omega, by go_num, rfl, by simp [hql], hts.out, HP7.out, HB.out.trans HB7.out⟩
      case measure => simp [intOf]; omega
    · obtain rfl : k = N := by omega
      have hfull : ps = qs := by rw [← HR.out, List.take_of_length_le (by rw [HN.out]; exact Nat.le_refl _)]
      have HF := Lib.hid hfull
      have HR2 := Lib.hid (HO.out.reads hsz)
      have hf : ¬ (k : Int) < (k : Int) := by omega
      clear hfull
      go_wp2
      go_ret
      exact ⟨Ao, ⟨co, rfl⟩, by rw [HF.out]; exact HR2.out, HB.out⟩

set_option maxRecDepth 100000 in
set_option maxHeartbeats 4000000 in
theorem samePairs_true (A : Option Addr) (c : Nat) (B : Option Addr) (d : Nat) (ps : List (List Int × List Int)) (hl : ∀ p ∈ ps, p.1.length ≤ 1000 ∧ p.2.length ≤ 1000) (hn : ps.length ≤ 1000000) (w : World) (h : PrsR w w.heap.size A ps) (h' : PrsR w w.heap.size B ps) :
    Calls Tryz.prog 41 #[.slice A ps.length c, .slice B ps.length d] w fun e w' => e = .returned (.bool true) ∧ Below w.heap.size w w' := by
  have H := Lib.hid h
  have H' := Lib.hid h'
  have HL := Lib.hid hl
  obtain ⟨N, hN⟩ : ∃ N, ps.length = N := ⟨_, rfl⟩
  rw [hN] at hn ⊢
  have HN := Lib.hid hN
  clear h h' hl hN
  go_enter Tryz.func41, Tryz.ntmps41
  go_wp2_with fail
  go_loopw [5] (fun i wr => ∃ (k : Nat), k ≤ N ∧ i = .int .i64 k ∧ Hid (∃ m, wr = w.drewN m)) (fun i _ => N - (intOf i).toNat)
  case atStart => exact ⟨0, by omega, rfl, ⟨0, rfl⟩⟩
  case round =>
    obtain ⟨k, hk, rfl, HM⟩ := hrel
    by_cases hlt : k < N
    · have hi : (k : Int) < (N : Int) := by omega
      obtain ⟨p, hp⟩ := get_of_lt (xs := ps) (k := k) (by rw [HN.out]; exact hlt)
      have hB : Below w.heap.size w wr := by obtain ⟨m, rfl⟩ := HM.out; exact below_drewN (Below.refl _ _) m
      obtain ⟨b, off, A1, c1, A2, c2, hA, hb, e1, e2, r1, r2⟩ := (H.out.below hB).at_ hp
      obtain ⟨b', off', A3, c3, A4, c4, hA', hb', e3, e4, r3, r4⟩ := (H'.out.below hB).at_ hp
      subst hA hA'
      obtain ⟨l1, l2⟩ := HL.out p (List.mem_of_getElem? hp)
      have S1 := Lib.hid (fun nq => dsame_any A1 c1 p.1 A3 c3 p.1 (by omega) (wr.drewN nq) w.heap.size r1 r3)
      have S2 := Lib.hid (fun nq => sameQ_any A2 c2 p.2 A4 c4 p.2 (by omega) (wr.drewN nq) w.heap.size r2 r4)
      rw [decide_eq_true rfl] at S1 S2
      clear hp hB r1 r2 r3 r4 l1 l2 H H'
      go_wp2
      go_quiet (first
        | (go_at_call 24; exact Calls.quiet_of (S1.out _))
        | (go_at_call 53; exact Calls.quiet_of (S2.out _)))
      go_wp2
      go_roundw
      case rel => exact ⟨k + 1, by omega, by go_num, by obtain ⟨m, e⟩ := HM.out; exact ⟨m + nq, by rw [e, World.drewN_drewN]⟩⟩
      case measure => simp [intOf]; omega
    · obtain rfl : k = N := by omega
      have hf : ¬ (k : Int) < (k : Int) := by omega
      have HB : Hid (Below w.heap.size w wr) := by obtain ⟨m, rfl⟩ := HM.out; exact below_drewN (Below.refl _ _) m
      go_wp2
      go_ret
      exact ⟨rfl, HB.out⟩

set_option maxRecDepth 100000 in
set_option maxHeartbeats 4000000 in
theorem rpairs30_any (m p : Nat) (A : Option Addr) (cA : Nat) (es : List E3) (hlen : es.length ≤ 40) (hn6 : m ≤ 6) (hz : rootErr m es p = 0) (hmE : (endsL es).length ≤ 60) (hM : ∀ v, v ≤ m → (belL (maxL m es p) v).length ≤ 1000000) (w : World) (h : Reads w w.heap.size 3 A es.length (edgeCells es)) :
    Calls Tryz.prog 43 #[.agg #[.int .i64 m, .slice A es.length cA], .int .i64 p] w fun e w' => ∃ Ar cr, e = .returned (.slice Ar (pairsE m es p).1.length cr) ∧ PrsR w' w'.heap.size Ar (pairsE m es p).1 ∧ Below w.heap.size w w' := by
  obtain ⟨m', p', hm', hp', hp, hG, hC, hck, hj⟩ := root_natF hz
  obtain rfl : m = m' := by omega
  obtain rfl : p = p' := by omega
  have g0 := Blk.new w 24 #[.int .i64 m, .slice A es.length cA]
  have hB0 : Below w.heap.size w (w.alloc (.cells #[.int .i64 m, .slice A es.length cA] 24)) := (Below.refl _ _).alloc (Nat.le_refl _) _
  have c0 := g0.cell 0
  have c1 := g0.cell 1
  have AC := Lib.hid (fun (W : World) (hB : Below w.heap.size w W) => all28_any m hn6 A cA es (by omega) hG p hp hz hj hC (by omega) hM W ((h.below hB).more hB.size))
  have hS := supL_mem hz hj hG hp (by omega)
  have hP : pairsE m es p = ((supL m es p).map (pairOf (endsL es) m p), 0) := by unfold pairsE; rw [if_pos hz]; rfl
  rw [hP]
  dsimp only
  have TC : Hid (∀ (c : List Int), c ∈ supL m es p → ∀ (B : Option Addr) (d : Nat) (W : World), Below w.heap.size w W → Reads W W.heap.size 1 B c.length (ints c) → Calls Tryz.prog 52 #[.agg #[.int .i64 m, .slice A es.length cA], .int .i64 p, .slice B c.length d, .slice none 0 0, .bool false] W fun e w' => ∃ A1 k1 c1 A2 k2 c2 A3 c3 A4 k4 c4, e = .returned (.agg #[.slice A1 k1 c1, .slice A2 k2 c2, .slice A3 (pairOf (endsL es) m p c).2.length c3, .slice A4 k4 c4]) ∧ OwnI w' W.heap.size A3 c3 (pairOf (endsL es) m p c).2 ∧ Below W.heap.size W w') := by
    intro c hc B d W hB hr
    have hcz := (hS.2 c).1 hc
    have hcl := cfg_len hcz
    have hnn : ∀ v, v < m → 0 ≤ c.getD v 0 := by
      obtain ⟨_, _, _, _, hh, _⟩ := cfg_facts hcz
      exact hh
    have hFR : Hid (runF (endsL es) (ltQ c) (endsL es).length (fire1 m p) = fireC_ (endsL es) m p c) := (fire_ref (bd_ends hG) hp hnn).1.symm
    have hb := burntC_any m p A cA es hlen hG hp B d c hcl W ((h.below hB).more hB.size) (by rw [hcl] at hr; exact hr)
    rw [hcl]
    have e1 : (pairOf (endsL es) m p c).2.length = (treeN (endsL es) m p c).length := by unfold pairOf; exact nI_length _
    rw [e1]
    refine hb.mono ?_
    rintro e w' ⟨a, X, rfl, HX, o1, o2, o3, _, hb⟩
    have hX := HX.out
    rw [hFR.out] at hX
    subst hX
    exact ⟨a.AS, (fireC_ (endsL es) m p c).steps.length, a.cS, a.AO, (fireC_ (endsL es) m p c).order.length, a.cO, a.AD, a.cD, some ⟨a.gT, 0, none⟩, m, m, rfl, o3, hb⟩
  have HPL : Hid (∀ c, (pairOf (endsL es) m p c).1 = c) := fun c => rfl
  have hSl : (supL m es p).length ≤ 1000000 := by
    rw [supL_bel hz hj hG hp (by omega)]
    exact Nat.le_trans (List.length_filter_le _ _) (hM m (Nat.le_refl m))
  obtain ⟨F, hF⟩ : ∃ F, pairOf (endsL es) m p = F := ⟨_, rfl⟩
  rw [hF] at TC HPL ⊢
  obtain ⟨X, hX⟩ : ∃ X, supL m es p = X := ⟨_, rfl⟩
  rw [hX] at AC TC hSl ⊢
  rw [List.length_map]
  obtain ⟨N, hN⟩ : ∃ N, X.length = N := ⟨_, rfl⟩
  rw [hN] at AC hSl ⊢
  have HN := Lib.hid hN
  clear hP hF hX hN hS hz hG hck hj h hm' hp' hC hmE hM
  go_enter Tryz.func43, Tryz.ntmps43
  go_wp2_with fail
  refine (AC.out _ hB0).mono ?_
  rintro e w1 ⟨Ar, cr, rfl, r1, hb1⟩
  have hB1 := hB0.trans (hb1.mono hB0.size)
  have g1 := g0.next hb1
  have R1 := Lib.hid r1
  have HB1 := Lib.hid hB1
  have hs1 := hB1.size
  clear c0 c1 g0 r1 hB0 hb1 hB1
  go_wp2_with fail
  go_loopw [6, 7] (fun o i wr => ∃ (k : Nat) (A : Option Addr) (c : Nat) (vs : List Value) (ps : List (List Int × List Int)), k ≤ N ∧ i = .int .i64 k ∧ o = .slice A k c ∧ Hid ((X.take k).map F = ps) ∧ ps.length = k ∧ Hid (PrsW 105 wr w1.heap.size A c vs ps) ∧ Hid (Below w1.heap.size w1 wr)) (fun _ i _ => N - (intOf i).toNat)
  case atStart => exact ⟨0, none, 0, [], [], by omega, rfl, rfl, rfl, rfl, PrsW.nil_ _ _ _, Below.refl _ _⟩
  case round =>
    obtain ⟨k, Ao, co, vs, ps, hk, rfl, rfl, HR, hrl, HO, HB⟩ := hrel
    have hsz := HB.out.size
    by_cases hlt : k < N
    · have hi : (k : Int) < (N : Int) := by omega
      obtain ⟨x, hx⟩ := get_of_lt (xs := X) (k := k) (by rw [HN.out]; exact hlt)
      obtain ⟨bX, oX, A3, c3, hA, hbX, kx, rx⟩ := (R1.out.below HB.out).at_ hx
      subst hA
      have g2 := g1.next HB.out
      have k0 := g2.cell 0
      have k1 := g2.cell 1
      have hgl := g2.lt
      have hg1 := g1.lt
      have HB2 : Hid (Below w.heap.size w wr.drew) := (HB1.out.trans (HB.out.mono hs1)).drew
      have TX := Lib.hid (fun W hB hr => TC.out x (List.mem_of_getElem? hx) A3 c3 W hB hr)
      have hts : Hid ((X.take (k + 1)).map F = ps ++ [F x]) := by
        rw [Hid, take_snoc hx, List.map_append, HR.out]; rfl
      have HPX := Lib.hid (HPL.out x)
      have RX1 := Lib.hid rx
      obtain ⟨L, hL⟩ : ∃ L, x.length = L := ⟨_, rfl⟩
      rw [hL] at kx TX
      have RX : Hid (Reads wr wr.heap.size 1 A3 L (ints x)) := by rw [← hL]; exact rx.more hsz
      have HLx := Lib.hid hL
      clear hx rx hL HR
      have ow0 : wr.ownsRow w1.heap.size 105 2 (.slice Ao k co) k vs := by have := HO.out.own; rw [hrl] at this; exact this
      obtain ⟨T, hT⟩ : ∃ T, (F x).2.length = T := ⟨_, rfl⟩
      rw [hT] at TX
      have HT := Lib.hid hT
      clear hT
      go_wp2_with fail
      go_region_held3 (fun W => W.cell? ⟨w.heap.size, 0, none⟩ = some (.int .i64 m) ∧ W.cell? ⟨w.heap.size, 1, none⟩ = some (.slice A es.length cA) ∧ W.cell? ⟨bX, oX + k, none⟩ = some (.slice A3 L c3)) (go_keep)
        (first
        | (go_at_call 52; refine (TX.out _ (by exact HB2.out) (by exact RX.out)).mono ?_; rintro e w5 ⟨A5, l5, c5, A6, l6, c6, A7, c7, A8, l8, c8, rfl, o5, hb5⟩
           have k05 := (hb5.cell (p := ⟨w.heap.size, 0, none⟩) (by exact hgl)).trans k0
           have k15 := (hb5.cell (p := ⟨w.heap.size, 1, none⟩) (by exact hgl)).trans k1
           have k25 := (hb5.cell (p := ⟨bX, oX + k, none⟩) (by show bX < wr.heap.size; omega)).trans kx
           have hs5 : wr.heap.size ≤ w5.heap.size := hb5.size
           have h05 : ∀ o, (w5.alloc o).cell? ⟨w.heap.size, 0, none⟩ = some (.int .i64 m) := fun o => (World.cell?_alloc_lt w5 o ⟨w.heap.size, 0, none⟩ (Nat.lt_of_lt_of_le hgl hs5)).trans k05
           have h15 : ∀ o, (w5.alloc o).cell? ⟨w.heap.size, 1, none⟩ = some (.slice A es.length cA) := fun o => (World.cell?_alloc_lt w5 o ⟨w.heap.size, 1, none⟩ (Nat.lt_of_lt_of_le hgl hs5)).trans k15
           have h25 : ∀ o, (w5.alloc o).cell? ⟨bX, oX + k, none⟩ = some (.slice A3 L c3) := fun o => (World.cell?_alloc_lt w5 o ⟨bX, oX + k, none⟩ (by show bX < w5.heap.size; omega)).trans k25
           have ow5 : w5.ownsRow w1.heap.size 105 2 (.slice Ao k co) k vs := own_keptN ow0 fun j hj => hb5.block j (World.ownsRow.lt ow0 j hj).2
           have hbx5 := Reads.boxN w5 #[.slice A3 L c3, .slice A7 T c7] 105
           have hfd : ∀ w : World, (Instr.field 35 (.agg #[.slice A5 l5 c5, .slice A6 l6 c6, .slice A7 T c7, .slice A8 l8 c8]) 2).run Tryz.prog w = .ok (.slice A7 T c7) w := fun _ => by kernel_rfl)
        | (refine append_step2 rfl (.tmp 17) (.tmp 31) _ _ rfl w1.heap.size 105 105 Tryz.underlying69 Tryz.underlying69 info_rpair rfl (by omega) Ao co k vs rfl ?_ (w5.heap.size + 1) [.slice A3 L c3, .slice A7 T c7] rfl ?_ (by simp [Value.oneCell']) (by omega) ?_ ?_
           · exact World.ownsRow.alloc ow5 _
           · exact hbx5
           · simp; omega
           intro A9 c9 w9 hown9 hg9 hb9 _
           have k09 := (hb9.cell (p := ⟨w.heap.size, 0, none⟩) (by exact hg1)).trans (h05 _)
           have k19 := (hb9.cell (p := ⟨w.heap.size, 1, none⟩) (by exact hg1)).trans (h15 _)
           have k29 := (hb9.cell (p := ⟨bX, oX + k, none⟩) (by exact hbX)).trans (h25 _))
        | fail)
      have hb5' : Below wr.heap.size wr w5 := (Below.refl _ _).drew.trans hb5
      have HP5 : Hid (PrsW 105 w5 w1.heap.size Ao co vs ps) := HO.out.next hsz hb5'
      have HB5 : Hid (Below w1.heap.size w1 w5) := HB.out.trans (hb5'.mono hsz)
      have HB59 : Hid (Below w1.heap.size w5 w9) := ((Below.refl _ _).alloc (Nat.le_trans hsz hs5) _).trans hb9
      have RX5 : Hid (Reads w5 w1.heap.size 1 A3 x.length (ints x)) := RX1.out.below (hb5'.mono hsz)
      have HP9 : Hid (PrsW 105 w9 w1.heap.size A9 c9 (vs ++ [.slice A3 x.length c3, .slice A7 (F x).2.length c7]) (ps ++ [(x, (F x).2)])) :=
        PrsW.push (by decide) HP5.out RX5.out (o5.mono hsz) (by rw [HLx.out, HT.out, hrl]; exact hown9) (by rw [hrl]; exact hg9) HB59.out
      have HFX : Hid (ps ++ [(x, (F x).2)] = ps ++ [F x]) := by rw [Hid]; congr 2; exact Prod.ext HPX.out.symm rfl
      rw [HFX.out] at HP9
      go_wp2
      go_roundw
      case rel => exact ⟨k + 1, A9, c9, _, ps ++ [F x], by omega, by go_num, rfl, hts.out, by simp [hrl], HP9.out, HB5.out.trans HB59.out⟩
      case measure => simp [intOf]; omega
    · obtain rfl : k = N := by omega
      have hfull : X.map F = ps := by rw [← HR.out, List.take_of_length_le (by rw [HN.out]; exact Nat.le_refl _)]
      have HF := Lib.hid hfull
      have HR2 := Lib.hid (HO.out.reads hsz)
      have hB := HB1.out.trans (HB.out.mono hs1)
      have hf : ¬ (k : Int) < (k : Int) := by omega
      clear hfull
      go_wp2
      go_ret
      exact ⟨Ao, ⟨co, rfl⟩, by rw [HF.out]; exact HR2.out, hB⟩
end Go.Proofs.YtghigdcpinengaaGreat

/-! ref24.All, Least, Minimal. -/
namespace Go.Proofs.YtghigdcpinengaaGreat
open Go.RowKit

theorem valE_size {n : Int} {es : List E3} (h : ∀ e ∈ es, okE n e) (v : Int) : valE es v ≤ (sizeE es : Int) := by
  induction es with
  | nil => simp [valE, sizeE]
  | cons e es ih =>
    have h1 := ih fun x hx => h x (by simp [hx])
    have h2 := h e (by simp)
    have h3 : valT v e ≤ e.2.2 := by unfold okE at h2; unfold valT; split <;> omega
    have e1 : valE (e :: es) v = valT v e + valE es v := by simp [valE]
    have e2 : sizeE (e :: es) = e.2.2.toNat + sizeE es := by simp [sizeE]
    have e3 : e.2.2.toNat = e.2.2 := by unfold okE at h2; omega
    rw [e1, e2]
    omega
theorem few_bel {n q : Nat} {es : List E3} (hx : rootErr n es q = 0) (hn : n ≤ 5) (hs : sizeE es ≤ 8) : (∀ v, v ≤ n → (belL (maxL n es q) v).length ≤ 1000000) ∧ (recsL n es q).length ≤ 16384 := by
  obtain ⟨_, hG, _, hq⟩ := root_zero hx
  have hv : ∀ v : Nat, valE es v ≤ (8 : Nat) := fun v => by have := valE_size hG.ok (v : Int); omega
  have hp : ∀ v, v ≤ 5 → 8 ^ v ≤ 8 ^ 5 := fun v h => Nat.pow_le_pow_right (by omega) h
  have hb := bel_few (top := maxL n es q) (q := q) (K := 8) (fun v hvq => by
    by_cases hvn : v < n
    · rw [maxL_get hG.ok hvn, if_neg hvq]
      have := hv v
      omega
    · rw [List.getD_eq_getElem?_getD, List.getElem?_eq_none (by rw [maxL_length]; omega)]
      simp) (by rw [maxL_get hG.ok hq, if_pos rfl])
  refine ⟨fun v hvn => ?_, ?_⟩
  · have h1 := hb v
    have h2 := hp v (by omega)
    have h3 : (belL (maxL n es q) v).length ≤ (belL (maxL n es q) v).length * (if q < v then 8 else 1) := Nat.le_mul_of_pos_right _ (by split <;> omega)
    have : 8 ^ 5 = 32768 := by decide
    omega
  · have h1 := recsL_few (K := 8) hx (by omega) (fun v => by have := valE_size hG.ok v; omega)
    have h2 := hp n hn
    have : 8 ^ 5 = 32768 := by decide
    omega

end Go.Proofs.YtghigdcpinengaaGreat

/-! A small graph has few superstable configurations. No program is in sight. -/
namespace Go.Proofs.YtghigdcpinengaaGreat
/-- All superstable configurations of a small graph are few. -/
theorem few_sup {n q : Nat} {es : List E3} (hx : rootErr n es q = 0) (hj : joinErr n es = 0) (hn : n ≤ 5) (hs : (endsL es).length ≤ 8) : (∀ v, v ≤ n → (belL (maxL n es q) v).length ≤ 1000000) ∧ (supL n es q).length ≤ 16384 := by
  obtain ⟨_, hG, _, hq⟩ := root_zero hx
  have hv : ∀ v : Nat, valE es v ≤ (8 : Nat) := fun v => by have := valE_size hG.ok (v : Int); rw [size_ends] at this; omega
  have hp : ∀ v, v ≤ 5 → 8 ^ v ≤ 8 ^ 5 := fun v h => Nat.pow_le_pow_right (by omega) h
  have hb := bel_few (top := maxL n es q) (q := q) (K := 8) (fun v hvq => by
    by_cases hvn : v < n
    · rw [maxL_get hG.ok hvn, if_neg hvq]
      have := hv v
      omega
    · rw [List.getD_eq_getElem?_getD, List.getElem?_eq_none (by rw [maxL_length]; omega)]
      simp) (by rw [maxL_get hG.ok hq, if_pos rfl])
  have h85 : 8 ^ 5 = 32768 := by decide
  refine ⟨fun v hvn => ?_, ?_⟩
  · have h1 := hb v
    have h2 := hp v (by omega)
    have h3 : (belL (maxL n es q) v).length ≤ (belL (maxL n es q) v).length * (if q < v then 8 else 1) := Nat.le_mul_of_pos_right _ (by split <;> omega)
    omega
  · have h1 := hb n
    have h2 := hp n hn
    rw [if_pos hq] at h1
    have h4 : (supL n es q).length ≤ (belL (maxL n es q) n).length := by
      rw [supL_bel hx hj hG hq (by omega)]
      exact List.length_filter_le _ _
    omega
end Go.Proofs.YtghigdcpinengaaGreat

/-! Plain laws of cycles, cutsets and swaps in a spanning tree, as the program returns them. -/
namespace Go.Proofs.YtghigdcpinengaaGreat
open Go.RowKit

theorem edgFrom_ok {m : Nat} : ∀ {t : List Nat} {p : Option Int}, t.Pairwise (· < ·) → (∀ e ∈ t, e < m) → (∀ y, p = some y → ∀ e ∈ t, y < (e : Int)) → edgFrom m p (nI t) = 0
  | [], _, _, _, _ => rfl
  | e :: t, p, h1, h2, h3 => by
    have he := h2 e (by simp)
    show (if (e : Int) < 0 ∨ (m : Int) ≤ (e : Int) then 2 else if leP p (e : Int) = true then 9 else edgFrom m (some (e : Int)) (nI t)) = 0
    rw [if_neg (by omega), if_neg]
    · rw [List.pairwise_cons] at h1
      refine edgFrom_ok h1.2 (fun x hx => h2 x (by simp [hx])) ?_
      rintro y hy x hx
      injection hy with hy
      have := h1.1 x hx
      omega
    · unfold leP
      cases p with
      | none => simp
      | some y =>
        have := h3 y rfl e (by simp)
        simp; omega
theorem edg_ok {m : Nat} {t : List Nat} (h : SetN m t) : edgErr m (nI t) = 0 := edgFrom_ok h.1 h.2 (fun y hy => by cases hy)
theorem tree_ok {m : Nat} {es : List E3} {t : List Nat} (hj : joinErr m es = 0) (h : IsTr m (endsL es) t) : treeErr m es (nI t) = 0 := by
  have hl := h.len
  have e2 : (nI t).map Int.toNat = t := toN_nI t
  unfold treeErr
  rw [if_neg (fun hc => hc hj), if_neg (fun hc => hc (edg_ok h.set)), if_neg (by rw [nI_length]; omega), e2, if_pos (foB_iff.2 h.fo)]
end Go.Proofs.YtghigdcpinengaaGreat

/-! The trees of all superstable configurations are all spanning trees. No program is in sight. -/
namespace Go.Proofs.YtghigdcpinengaaGreat
section
variable {n q : Nat} {es : List E3}
theorem treeR_isTr (hj : joinErr n es = 0) {t : List Nat} (ht : IsTr n (endsL es) t) : TreeR n es t := by
  have h := tree_ok hj ht
  obtain ⟨m, t', h1, h2, h3⟩ := treeR_of h
  obtain rfl : n = m := by omega
  obtain rfl := nI_inj h2
  exact h3
theorem match_mem (hr : rootErr n es q = 0) (hj : joinErr n es = 0) (hG : RightG n es) (hq : q < n) (hm : (endsL es).length ≤ 500) (t : List Nat) : t ∈ (supL n es q).map (treeN (endsL es) n q) ↔ IsTr n (endsL es) t := by
  obtain ⟨_, hS⟩ := supL_mem hr hj hG hq hm
  rw [List.mem_map]
  constructor
  · rintro ⟨c, hc, rfl⟩
    obtain ⟨_, _, _, _, hnn, _, hb, _⟩ := cfg_facts ((hS c).1 hc)
    exact treeN_isTr (bd_ends hG) hq hnn hb
  · intro ht
    refine ⟨confN (endsL es) n q t, (hS _).2 (conf_cfg hj (treeR_isTr hj ht) hq (by omega)).1, tree_conf (bd_ends hG) hq ht⟩
theorem match_nodup (hr : rootErr n es q = 0) (hj : joinErr n es = 0) (hG : RightG n es) (hq : q < n) (hm : (endsL es).length ≤ 500) : ((supL n es q).map (treeN (endsL es) n q)).Nodup := by
  obtain ⟨hN, hS⟩ := supL_mem hr hj hG hq hm
  refine nodup_map_of (fun a ha b hb hab => ?_) hN
  obtain ⟨_, _, _, hl1, hn1, h01, hb1, _⟩ := cfg_facts ((hS a).1 ha)
  obtain ⟨_, _, _, hl2, hn2, h02, hb2, _⟩ := cfg_facts ((hS b).1 hb)
  rw [← conf_tree (bd_ends hG) hq hl1 h01 hn1 hb1, ← conf_tree (bd_ends hG) hq hl2 h02 hn2 hb2, hab]
theorem match_perm (hr : rootErr n es q = 0) (hj : joinErr n es = 0) (hG : RightG n es) (hq : q < n) (hm : (endsL es).length ≤ 500) : ((supL n es q).map (treeN (endsL es) n q)).Perm (treesT n (endsL es)) := by
  have hn : 0 < n := by have := hG.lo; omega
  exact perm_of_mem (match_nodup hr hj hG hq hm) (treesT_nodup (bd_ends hG) hn) fun x => by rw [match_mem hr hj hG hq hm, (treesT_spec (bd_ends hG) hn).1]
theorem match_sort (hr : rootErr n es q = 0) (hj : joinErr n es = 0) (hG : RightG n es) (hq : q < n) (hm : (endsL es).length ≤ 500) : sortG bfI ((supL n es q).map fun c => nI (treeN (endsL es) n q c)) = (treesT n (endsL es)).map nI := by
  have hn : 0 < n := by have := hG.lo; omega
  have e : ((supL n es q).map fun c => nI (treeN (endsL es) n q c)) = ((supL n es q).map (treeN (endsL es) n q)).map nI := by rw [List.map_map]; rfl
  rw [e]
  refine sorted_eq bfI_an (sortG_sorted bfI_tr bfI_as _) ?_ ((sortG_perm _).trans ((match_perm hr hj hG hq hm).map nI))
  rw [List.pairwise_map]
  exact (treesT_spec (bd_ends hG) hn).2.imp fun h => bfI_as _ _ h
end
end Go.Proofs.YtghigdcpinengaaGreat

/-! ref10.Before: the order of lists of ints. -/
namespace Go.Proofs.YtghigdcpinengaaGreat
open Go.RowKit

theorem bfI_drop {xs ys : List Int} {k : Nat} {x y : Int} (h : xs[k]? = some x) (h' : ys[k]? = some y) : bfI (xs.drop k) (ys.drop k) = if x = y then bfI (xs.drop (k + 1)) (ys.drop (k + 1)) else decide (x < y) := by
  obtain ⟨l1, e1⟩ := List.getElem?_eq_some_iff.1 h
  obtain ⟨l2, e2⟩ := List.getElem?_eq_some_iff.1 h'
  rw [List.drop_eq_getElem_cons l1, List.drop_eq_getElem_cons l2, e1, e2, bfI]

set_option maxHeartbeats 1000000 in
theorem rbefore_any (A : Option Addr) (c : Nat) (xs : List Int) (B : Option Addr) (d : Nat) (ys : List Int) (hn : xs.length ≤ 1048576) (w : World) (h : Reads w w.heap.size 1 A xs.length (ints xs)) (h' : Reads w w.heap.size 1 B ys.length (ints ys)) :
    Calls Tryz.prog 80 #[.slice A xs.length c, .slice B ys.length d] w fun e w' => e = .returned (.bool (bfI xs ys)) ∧ Below w.heap.size w w' := by
  go_enter Tryz.func80, Tryz.ntmps80
  go_wp2_with fail
  go_loopw [5] (fun i wr => ∃ k : Nat, k ≤ xs.length ∧ k ≤ ys.length ∧ i = .int .i64 k ∧ Hid (Below w.heap.size w wr) ∧ Hid (bfI xs ys = bfI (xs.drop k) (ys.drop k))) (fun i _ => xs.length - (intOf i).toNat)
  case atStart => exact ⟨0, by omega, by omega, rfl, Below.refl _ _, by simp [Hid]⟩
  case round =>
    obtain ⟨k, hk, hk', rfl, HW, HS⟩ := hrel
    by_cases hlt : k < xs.length
    · by_cases hlt' : k < ys.length
      · obtain ⟨x, hx⟩ := get_of_lt hlt
        obtain ⟨y, hy⟩ := get_of_lt hlt'
        have hd := bfI_drop hx hy
        obtain ⟨b, off, rfl, hb, hcell⟩ := (h.below HW.out).at_ (ints_at hx)
        obtain ⟨b', off', rfl, hb', hcell'⟩ := (h'.below HW.out).at_ (ints_at hy)
        have hi : (k : Int) < (xs.length : Int) := by omega
        have hi' : (k : Int) < (ys.length : Int) := by omega
        have HD := Lib.hid hd
        clear hx hy hd h h'
        by_cases hxy : x = y
        · have hq : (x != y) = false := by simp [hxy]
          have HN := Lib.hid (HS.out.trans (HD.out.trans (if_pos hxy)))
          clear hxy
          go_wp2
          go_quiet (fail)
          go_wp2
          go_roundw
          case rel => exact ⟨k + 1, by omega, by omega, by go_num, below_drewN HW.out _, HN⟩
          case measure => simp [intOf]; omega
        · have hq : (x != y) = true := by simpa using hxy
          have HN := Lib.hid (HS.out.trans (HD.out.trans (if_neg hxy)))
          clear hxy
          go_wp2
          go_quiet (fail)
          go_wp2
          go_quiet (fail)
          go_wp2
          go_ret
          exact ⟨ret_bool HN.out.symm, by exact below_drewN (below_drewN HW.out _) _⟩
      · obtain rfl : k = ys.length := by omega
        have HN : Hid (bfI xs ys = false) := by
          rw [Hid, HS.out, List.drop_length]
          cases xs.drop ys.length <;> rfl
        have hi : ((ys.length : Nat) : Int) < (xs.length : Int) := by omega
        have hq : ¬ (xs.length : Int) < (ys.length : Int) := by omega
        go_wp2
        go_ret
        exact ⟨ret_bool (by rw [HN.out]), HW.out⟩
    · obtain rfl : k = xs.length := by omega
      have HN : Hid (bfI xs ys = decide ((xs.length : Int) < (ys.length : Int))) := by
        rw [Hid, HS.out, List.drop_length]
        cases hd : ys.drop xs.length with
        | nil =>
          have := congrArg List.length hd
          rw [List.length_drop] at this
          simp at this
          simp [bfI]; omega
        | cons y l =>
          have := congrArg List.length hd
          rw [List.length_drop] at this
          simp at this
          simp [bfI]; omega
      go_wp2
      go_ret
      exact ⟨ret_bool (by rw [HN.out, decide_eq_decide]; omega), HW.out⟩
end Go.Proofs.YtghigdcpinengaaGreat

