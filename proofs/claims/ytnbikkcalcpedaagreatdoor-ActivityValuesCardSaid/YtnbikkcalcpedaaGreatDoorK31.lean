/-
  Texts of this claim, put together: ActW, ActIn.
-/
import Derived.Test.YtnbikkcalcpedaaGreatDoorK27
import Derived.Test.YtnbikkcalcpedaaGreatDoorK28
import Derived.Test.YtnbikkcalcpedaaGreatDoorK10
import Derived.Test.YtnbikkcalcpedaaGreatDoorK30
/-! Package activity: outside, active. -/
namespace Go.Proofs.YtnbikkcalcpedaaGreatDoor
open Go.RowKit

/-- The single edges below k that are not in a list. -/
def restTo (xs : List Int) (k : Nat) : List Int := nI ((List.range k).filter fun i => decide ((i : Int) ∉ xs))
theorem restTo_succ {xs : List Int} {k : Nat} : restTo xs (k + 1) = if (k : Int) ∈ xs then restTo xs k else restTo xs k ++ [(k : Int)] := by
  unfold restTo
  rw [List.range_succ, List.filter_append]
  by_cases h : (k : Int) ∈ xs
  · simp [h, nI]
  · simp [h, nI]
theorem restTo_len {xs : List Int} {k : Nat} : (restTo xs k).length ≤ k := by
  unfold restTo
  rw [nI_length]
  exact Nat.le_trans (List.length_filter_le _ _) (by simp)
set_option maxRecDepth 100000 in
set_option maxHeartbeats 2000000 in
theorem outside_any (n : Nat) (A : Option Addr) (c : Nat) (es : List E3) (hn : es.length ≤ 10000) (hz : checkG n es = 0) (hel : (endsL es).length ≤ 1000000) (B : Option Addr) (d : Nat) (xs : List Int) (hm : xs.length ≤ 1048576) (w : World) (h : Reads w w.heap.size 3 A es.length (edgeCells es)) (h' : Reads w w.heap.size 1 B xs.length (ints xs)) :
    Calls Tryz.prog 73 #[.agg #[.int .i64 n, .slice A es.length c], .slice B xs.length d] w fun e w' => ∃ A' c', e = .returned (.tuple #[.slice A' (restTo xs (endsL es).length).length c', .int .i64 0]) ∧ OwnI w' w.heap.size A' c' (restTo xs (endsL es).length) ∧ Below w.heap.size w w' := by
  have SZ := Lib.hid (fun (W : World) (hB : Below w.heap.size w W) => size_ok n A c es hn hz W ((h.below hB).more hB.size))
  have HH := Lib.hid (fun (v : Int) (W : World) (hB : Below w.heap.size w W) => contains_any B d xs hm v W ((h'.below hB).more hB.size))
  obtain ⟨m, hmm⟩ : ∃ m, (endsL es).length = m := ⟨_, rfl⟩
  rw [hmm] at SZ hel ⊢
  obtain ⟨N, hN⟩ : ∃ N, xs.length = N := ⟨_, rfl⟩
  rw [hN] at HH ⊢
  have g0 := Blk.new w 24 #[.int .i64 n, .slice A es.length c]
  have hB0 : Below w.heap.size w (w.alloc (.cells #[.int .i64 n, .slice A es.length c] 24)) := (Below.refl _ _).alloc (Nat.le_refl _) _
  have c0 := g0.cell 0
  have c1 := g0.cell 1
  clear hz hmm hN h h' hm
  go_enter Tryz.func73, Tryz.ntmps73
  go_wp2_with fail
  refine (SZ.out _ hB0).mono ?_
  rintro e w1 ⟨rfl, hb1⟩
  have hB1 := Lib.hid (hB0.trans (hb1.mono hB0.size))
  have hs1 := hB1.out.size
  clear c0 c1 g0 hB0 hb1
  go_wp2_with fail
  go_loopw [8, 19] (fun o i wr => ∃ (k : Nat) (A' : Option Addr) (c' : Nat), k ≤ m ∧ i = .int .i64 k ∧ o = .slice A' (restTo xs k).length c' ∧ Hid (OwnI wr w.heap.size A' c' (restTo xs k)) ∧ Hid (Below w.heap.size w wr)) (fun _ i _ => m - (intOf i).toNat)
  case atStart => exact ⟨0, none, 0, by omega, rfl, rfl, OwnI.nil_ _ _, hB1.out⟩
  case round =>
    obtain ⟨k, A', c', hk, rfl, rfl, HO, HB⟩ := hrel
    have hsz := HB.out.size
    by_cases hlt : k < m
    · have hi : (k : Int) < (m : Int) := by omega
      have hl := restTo_len (xs := xs) (k := k)
      have hsc := restTo_succ (xs := xs) (k := k)
      have PC := Lib.hid (HH.out (k : Int) wr HB.out)
      obtain ⟨S, hS⟩ : ∃ S, restTo xs k = S := ⟨_, rfl⟩
      rw [hS] at HO hl hsc ⊢
      obtain ⟨sl, hsl⟩ : ∃ sl, S.length = sl := ⟨_, rfl⟩
      have HSL := Lib.hid hsl
      rw [hsl] at hl ⊢
      by_cases hx : (k : Int) ∈ xs
      · rw [if_pos hx] at hsc
        rw [decide_eq_true hx] at PC
        have HSC := Lib.hid hsc
        clear hsc hS hx hsl
        go_wp2_with fail
        refine (PC.out).mono ?_
        rintro e w2 ⟨rfl, rfl⟩
        go_wp2
        go_roundw
        case rel => exact ⟨k + 1, A', c', by omega, by go_num, by rw [HSC.out, HSL.out], by rw [HSC.out]; exact HO.out, HB.out⟩
        case measure => simp [intOf]; omega
      · rw [if_neg hx] at hsc
        rw [decide_eq_false hx] at PC
        have HSC := Lib.hid hsc
        have OX : wr.ownsRow w.heap.size 3 1 (.slice A' sl c') sl (ints S) := by have := HO.out; unfold OwnI at this; rw [hsl] at this; exact this
        clear hsc hS hx hsl
        go_wp2_with fail
        refine (PC.out).mono ?_
        rintro e w2 ⟨rfl, rfl⟩
        go_wp2_with (first | (at_builtin; refine append_go rfl (.tmp 26) (.tmp 28) _ rfl w.heap.size 3 Tryz.underlying25 info_int rfl (by omega) A' c' sl (ints S) rfl (World.ownsRow.alloc OX _) _ [.int .i64 (k : Int)] rfl (Reads.box _ _ _) (by simp [Value.oneCell']) (by omega) (by simp; omega) ?_; intro A6 c6 w6 hown6 hg6 hb6 hw6) | fail)
        have B6 : Below w.heap.size w w6 := (HB.out.alloc hsz _).trans hb6
        have O6 : OwnI w6 w.heap.size A6 c6 (S ++ [(k : Int)]) := by unfold OwnI; rw [List.length_append, ints_snoc, HSL.out]; exact hown6
        go_roundw
        case rel => exact ⟨k + 1, A6, c6, by omega, by go_num, by rw [HSC.out, List.length_append, HSL.out]; rfl, by rw [HSC.out]; exact O6, B6⟩
        case measure => simp [intOf]; omega
    · obtain rfl : k = m := by omega
      have hf : ¬ (k : Int) < (k : Int) := by omega
      go_wp2
      go_ret2
      exact ⟨A', c', rfl, HO.out, HB.out⟩
/-- Those of a list that are the first ones of a list that belongs to them. -/
def actL (p : Int → List Int) (L : List Int) : List Int := L.filter fun e => decide ((p e).head? = some e)
theorem actL_snoc {p : Int → List Int} {L : List Int} {e : Int} : actL p (L ++ [e]) = if (p e).head? = some e then actL p L ++ [e] else actL p L := by
  unfold actL
  rw [List.filter_append]
  by_cases h : (p e).head? = some e <;> simp [h]
set_option maxRecDepth 100000 in
set_option maxHeartbeats 4000000 in
theorem active_any (F : Nat) (eg : ∀ args w, (callFunc F args).run Tryz.prog w = .ok (.enter F args) w) (n : Int) (A : Option Addr) (c : Nat) (es : List E3) (B : Option Addr) (N d : Nat) (p : Int → List Int) (C : Option Addr) (f : Nat) (L : List Int) (hL : L.length ≤ 1000000) (w : World) (h : Reads w w.heap.size 1 C L.length (ints L))
    (hc : ∀ e ∈ L, ∀ (W : World), Below w.heap.size w W → Calls Tryz.prog F #[.agg #[.int .i64 n, .slice A es.length c], .slice B N d, .int .i64 e] W fun r w' => ∃ A' c', r = .returned (.tuple #[.slice A' (p e).length c', .int .i64 0]) ∧ OwnI w' W.heap.size A' c' (p e) ∧ Below W.heap.size W w') :
    Calls Tryz.prog 71 #[.agg #[.int .i64 n, .slice A es.length c], .slice B N d, .slice C L.length f, .func (.func F) #[] #[]] w fun r w' => ∃ A' c', r = .returned (.tuple #[.slice A' (actL p L).length c', .int .i64 0]) ∧ OwnI w' w.heap.size A' c' (actL p L) ∧ Below w.heap.size w w' := by
  have HC := Lib.hid hc
  have g0 := Blk.new w 24 #[.int .i64 n, .slice A es.length c]
  have hB0 : Below w.heap.size w (w.alloc (.cells #[.int .i64 n, .slice A es.length c] 24)) := (Below.refl _ _).alloc (Nat.le_refl _) _
  obtain ⟨w0, hw0⟩ : ∃ w0, w.alloc (.cells #[.int .i64 n, .slice A es.length c] 24) = w0 := ⟨_, rfl⟩
  have hs0 : w0.heap.size = w.heap.size + 1 := by rw [← hw0]; simp
  rw [hw0] at g0 hB0
  obtain ⟨m, hmm⟩ : ∃ m, L.length = m := ⟨_, rfl⟩
  rw [hmm] at hL ⊢
  have HM := Lib.hid hmm
  have HR := Lib.hid h
  clear hc h hmm
  go_enter Tryz.func71, Tryz.ntmps71
  go_wp2_with fail
  go_loopw [10, 17] (fun o i wr => ∃ (k : Nat) (A' : Option Addr) (c' : Nat), k ≤ m ∧ i = .int .i64 k ∧ o = .slice A' (actL p (L.take k)).length c' ∧ Hid (OwnI wr w0.heap.size A' c' (actL p (L.take k))) ∧ Hid (Below w0.heap.size w0 wr)) (fun _ i _ => m - (intOf i).toNat)
  case atStart => exact ⟨0, none, 0, by omega, rfl, rfl, OwnI.nil_ _ _, Below.refl _ _⟩
  case round =>
    obtain ⟨k, A', c', hk, rfl, rfl, HO, HB⟩ := hrel
    obtain ⟨wo, hwo⟩ : ∃ wo : World, wo = wr := ⟨wr, rfl⟩
    subst hwo
    have hsz := HB.out.size
    have HBw := Lib.hid (hB0.trans (HB.out.mono hB0.size))
    have hszw := HBw.out.size
    have gk := g0.next HB.out
    have k0 := gk.cell 0
    have k1 := gk.cell 1
    by_cases hlt : k < m
    · have hi : (k : Int) < (m : Int) := by omega
      obtain ⟨x, hx⟩ := get_of_lt (xs := L) (k := k) (by rw [HM.out]; exact hlt)
      have PC := Lib.hid (HC.out x (List.mem_of_getElem? hx) wo HBw.out)
      have hR := HR.out
      rw [HM.out] at hR
      obtain ⟨b, off, hC, hbl, cx⟩ := (hR.below HBw.out).at_ (ints_at hx)
      subst hC
      have hl : (actL p (L.take k)).length ≤ k := Nat.le_trans (List.length_filter_le _ _) (by simp; omega)
      have hsc := actL_snoc (p := p) (L := L.take k) (e := x)
      rw [← take_snoc hx] at hsc
      obtain ⟨S, hS⟩ : ∃ S, actL p (L.take k) = S := ⟨_, rfl⟩
      rw [hS] at HO hl hsc ⊢
      obtain ⟨sl, hsl⟩ : ∃ sl, S.length = sl := ⟨_, rfl⟩
      have HSL := Lib.hid hsl
      rw [hsl] at hl ⊢
      obtain ⟨ps, hps⟩ : ∃ ps, p x = ps := ⟨_, rfl⟩
      rw [hps] at PC hsc
      have OX : wo.ownsRow w0.heap.size 3 1 (.slice A' sl c') sl (ints S) := by have := HO.out; unfold OwnI at this; rw [hsl] at this; exact this
      have HSC := Lib.hid hsc
      clear hsc hS hx hsl hps hR
      go_wp2_with fail
      refine (PC.out).mono ?_
      rintro r w2 ⟨A2, c2, rfl, o2, hb2⟩
      have HB2 := HB.out.trans (hb2.mono hsz)
      have hsz2 := HB2.size
      have OX2 : w2.ownsRow w0.heap.size 3 1 (.slice A' sl c') sl (ints S) := own_kept OX fun j hj => hb2.block j (own_lt OX hj).2
      rcases ps with _ | ⟨y, ps⟩
      · have HSC' : Hid (actL p (L.take (k + 1)) = S) := by have := HSC.out; rw [if_neg (by simp)] at this; exact this
        have h00 : ¬ (0 : Int) < (([] : List Int).length : Int) := by simp
        clear k0 k1 cx o2
        go_wp2
        go_roundw
        case rel => exact ⟨k + 1, A', c', by omega, by go_num, by rw [HSC'.out, HSL.out], by rw [HSC'.out]; unfold Hid OwnI; rw [HSL.out]; exact OX2, HB2⟩
        case measure => simp [intOf]; omega
      · obtain ⟨g2, rfl, _, _, _⟩ := o2.block (by simp)
        obtain ⟨b2, off2, hA2, _, cy⟩ := o2.reads.at_ (ints_at (xs := y :: ps) (k := 0) rfl)
        cases hA2
        have cy0 : w2.cell? ⟨g2, 0, none⟩ = some (.int .i64 y) := cy
        obtain ⟨pl, hpl2⟩ : ∃ pl, (y :: ps).length = pl := ⟨_, rfl⟩
        have hp0 : (0 : Int) < (pl : Int) := by rw [← hpl2]; simp
        have hp1 : decide ((0 : Int) < (pl : Int)) = true := decide_eq_true hp0
        have hp2 : 0 < pl := by omega
        rw [hpl2]
        clear k0 k1 cx o2 cy hpl2
        by_cases hyx : y = x
        · have HSC' : Hid (actL p (L.take (k + 1)) = S ++ [x]) := by have := HSC.out; rw [if_pos (by rw [hyx]; rfl)] at this; exact this
          have hb : (y == x) = true := by simpa using hyx
          subst hyx
          go_wp2_with (first | (at_builtin; refine append_go rfl (.tmp 42) (.tmp 44) _ rfl w0.heap.size 3 Tryz.underlying25 info_int rfl (by omega) A' c' sl (ints S) rfl (World.ownsRow.alloc OX2 _) _ [.int .i64 y] rfl (Reads.box _ _ _) (by simp [Value.oneCell']) (by omega) (by simp; omega) ?_; intro A6 c6 w6 hown6 hg6 hb6 hw6) | fail)
          have B6 : Below w0.heap.size w0 w6 := (HB2.alloc hsz2 _).trans hb6
          have O6 : OwnI w6 w0.heap.size A6 c6 (S ++ [y]) := by unfold OwnI; rw [List.length_append, ints_snoc, HSL.out]; exact hown6
          go_roundw
          case rel => exact ⟨k + 1, A6, c6, by omega, by go_num, by rw [HSC'.out, List.length_append, HSL.out]; rfl, by rw [HSC'.out]; exact O6, B6⟩
          case measure => simp [intOf]; omega
        · have HSC' : Hid (actL p (L.take (k + 1)) = S) := by have := HSC.out; rw [if_neg (by simpa using hyx)] at this; exact this
          have hb : (y == x) = false := by simpa using hyx
          clear hyx
          go_wp2
          go_roundw
          case rel => exact ⟨k + 1, A', c', by omega, by go_num, by rw [HSC'.out, HSL.out], by rw [HSC'.out]; unfold Hid OwnI; rw [HSL.out]; exact OX2, HB2⟩
          case measure => simp [intOf]; omega
    · obtain rfl : k = m := by omega
      have hf : ¬ (k : Int) < (k : Int) := by omega
      have hfin : Hid (actL p (L.take k) = actL p L) := by rw [Hid, List.take_of_length_le (by rw [HM.out]; exact Nat.le_refl _)]
      have O2 := Lib.hid (HO.out.mono (base' := w.heap.size) hB0.size)
      rw [hfin.out] at O2 ⊢
      clear HO
      go_wp2
      go_ret2
      exact ⟨A', c', rfl, O2.out, HBw.out⟩
end Go.Proofs.YtnbikkcalcpedaaGreatDoor

/-! Package activity: Internal, External, both. -/
namespace Go.Proofs.YtnbikkcalcpedaaGreatDoor
open Go.RowKit

/-- What Internal and External return. -/
def intE (n : Int) (es : List E3) (xs : List Int) : List Int × Int := if treeErr n es xs = 0 then (nI (insA (endsL es) (toN xs)), 0) else ([], treeErr n es xs)
def extE (n : Int) (es : List E3) (xs : List Int) : List Int × Int := if treeErr n es xs = 0 then (nI (outA (endsL es) (toN xs)), 0) else ([], treeErr n es xs)
theorem cutset_in {n : Int} {es : List E3} {xs : List Int} (h : treeErr n es xs = 0) {t : List Nat} (ht : xs = nI t) (hf : IsTr n.toNat (endsL es) t) {f : Nat} (hft : f ∈ t) : cutsetE n es xs f = (nI (cutL (endsL es) t f), 0) := by
  have hlt := hf.set.2 f hft
  unfold cutsetE
  rw [if_neg (fun hc => hc h), if_neg (by omega), if_neg (fun hc => hc (by rw [ht]; exact mem_nI9.2 hft)), Int.toNat_natCast, ht, toN_nI]
theorem cycle_out {n : Int} {es : List E3} {xs : List Int} (h : treeErr n es xs = 0) {t : List Nat} (ht : xs = nI t) {e : Nat} (he : e < (endsL es).length) (het : e ∉ t) : cycleE n es xs e = (sortG ltI (nI (pathL (endsL es) t ((endsL es).getD e (0, 0)).1 ((endsL es).getD e (0, 0)).2) ++ [(e : Int)]), 0) := by
  unfold cycleE
  rw [if_neg (fun hc => hc h), if_neg (by omega), if_neg (fun hc => het (by rw [ht] at hc; exact mem_nI9.1 hc)), Int.toNat_natCast, List.getElem?_eq_getElem he]
  dsimp only
  rw [ht, toN_nI, List.getD_eq_getElem?_getD, List.getElem?_eq_getElem he]
  rfl
theorem int_act {n : Int} {es : List E3} {xs : List Int} (h : treeErr n es xs = 0) {t : List Nat} (ht : xs = nI t) (hb : BdP n.toNat (endsL es)) (hf : IsTr n.toNat (endsL es) t) : actL (fun e => (cutsetE n es xs e).1) xs = nI (insA (endsL es) t) := by
  have h1 : actL (fun e => (cutsetE n es xs e).1) (nI t) = nI (insA (endsL es) t) := by
    unfold actL insA nI
    rw [List.filter_map]
    congr 1
    refine List.filter_congr fun f hft => ?_
    show decide ((cutsetE n es xs (f : Int)).1.head? = some (f : Int)) = _
    rw [cutset_in h ht hf hft]
    exact decide_eq_decide.2 (cut_head (hf.foe hb) hft)
  rw [← h1, ← ht]
theorem ext_act {n : Int} {es : List E3} {xs : List Int} (h : treeErr n es xs = 0) {t : List Nat} (ht : xs = nI t) (hb : BdP n.toNat (endsL es)) (hf : IsTr n.toNat (endsL es) t) : actL (fun e => (cycleE n es xs e).1) (restTo xs (endsL es).length) = nI (outA (endsL es) t) := by
  unfold actL outA restTo nI
  rw [List.filter_map, List.filter_filter]
  congr 1
  refine List.filter_congr fun e he => ?_
  have he := List.mem_range.1 he
  show (decide ((cycleE n es xs (e : Int)).1.head? = some (e : Int)) && decide ((e : Int) ∉ xs)) = _
  have hmem : (e : Int) ∈ xs ↔ e ∈ t := by rw [ht]; exact mem_nI9
  by_cases het : e ∈ t
  · rw [decide_eq_true het]
    simp [hmem.2 het]
  · have hne : (e : Int) ∉ xs := fun hc => het (hmem.1 hc)
    rw [decide_eq_true (p := (e : Int) ∉ xs) hne, decide_eq_false het, Bool.and_true, Bool.not_false, Bool.true_and, cycle_out h ht he het]
    obtain ⟨ha, hb2⟩ := getD_bd hb he
    exact decide_eq_decide.2 (cyc_head (hf.foe hb) (hf.cn hb ha hb2))
set_option maxRecDepth 100000 in
set_option maxHeartbeats 2000000 in
theorem internal_any (n : Int) (A : Option Addr) (c : Nat) (es : List E3) (hn : es.length ≤ 10000) (B : Option Addr) (d : Nat) (xs : List Int) (hm : xs.length ≤ 1048576) (w : World) (h : Reads w w.heap.size 3 A es.length (edgeCells es)) (h' : Reads w w.heap.size 1 B xs.length (ints xs)) :
    Calls Tryz.prog 22 #[.agg #[.int .i64 n, .slice A es.length c], .slice B xs.length d] w fun e w' => ∃ A' c', e = .returned (.tuple #[.slice A' (intE n es xs).1.length c', .int .i64 (intE n es xs).2]) ∧ OwnI w' w.heap.size A' c' (intE n es xs).1 ∧ Below w.heap.size w w' := by
  have TC := Lib.hid (fun (W : World) (hB : Below w.heap.size w W) => tcheck_any n A c es hn B d xs hm W ((h.below hB).more hB.size) ((h'.below hB).more hB.size))
  have g := Blk.new w 24 #[.int .i64 n, .slice A es.length c]
  have hB : Below w.heap.size w (w.alloc (.cells #[.int .i64 n, .slice A es.length c] 24)) := (Below.refl _ _).alloc (Nat.le_refl _) _
  have k0 := g.cell 0
  have k1 := g.cell 1
  by_cases hz : treeErr n es xs = 0
  · have hE : intE n es xs = (nI (insA (endsL es) (toN xs)), 0) := if_pos hz
    rw [hE]
    dsimp only
    obtain ⟨m, t, rfl, hxt, hG, hb, hT, h1, h12, _⟩ := tree_zero hz
    have hel : (endsL es).length ≤ 1000000 := by have := endsL_length hG.ok; omega
    have hl11 : xs.length ≤ 11 := by rw [hxt, nI_length]; have := hT.len; omega
    rw [hz] at TC
    have hAct := int_act hz hxt (by rw [Int.toNat_natCast]; exact hb) (by rw [Int.toNat_natCast]; exact hT)
    rw [show toN xs = t by rw [hxt, toN_nI]]
    have CC : Hid (∀ e ∈ xs, ∀ (W : World), Below w.heap.size w W → Calls Tryz.prog 72 #[.agg #[.int .i64 m, .slice A es.length c], .slice B xs.length d, .int .i64 e] W fun r w' => ∃ A' c', r = .returned (.tuple #[.slice A' ((cutsetE m es xs e).1).length c', .int .i64 0]) ∧ OwnI w' W.heap.size A' c' (cutsetE m es xs e).1 ∧ Below W.heap.size W w') := by
      intro e he W hB
      have := tcutset_any m A c es hn hel B d xs hl11 e W ((h.below hB).more hB.size) ((h'.below hB).more hB.size)
      have h0 : (cutsetE m es xs e).2 = 0 := by
        rw [hxt] at he
        obtain ⟨f, hf, rfl⟩ := List.mem_map.1 he
        rw [cutset_in hz hxt (by rw [Int.toNat_natCast]; exact hT) hf]
      rw [h0] at this
      exact this
    have AC := Lib.hid (fun (W : World) (hB : Below w.heap.size w W) => active_any 72 (enters_of Tryz.func72 (by kernel_rfl) rfl) m A c es B xs.length d (fun e => (cutsetE m es xs e).1) B d xs (by omega) W ((h'.below hB).more hB.size) (fun e he W' hB' => CC.out e he W' (hB.trans (hB'.mono hB.size))))
    rw [hAct] at AC
    obtain ⟨R, hR⟩ : ∃ R, nI (insA (endsL es) t) = R := ⟨_, rfl⟩
    rw [hR] at AC ⊢
    obtain ⟨N, hN⟩ : ∃ N, xs.length = N := ⟨_, rfl⟩
    rw [hN] at AC TC ⊢
    clear hz hxt hG hb hT hE hAct hR CC hm hl11 hN h h'
    go_enter Tryz.func22, Tryz.ntmps22
    go_wp2_with fail
    refine (TC.out _ hB).mono ?_
    rintro e wn ⟨rfl, hb⟩
    have g := g.next hb
    have hB := hB.trans (hb.mono hB.size)
    have k0 := g.cell 0
    have k1 := g.cell 1
    clear hb
    go_wp2_with fail
    refine (AC.out _ hB).mono ?_
    rintro e wm ⟨A', c', rfl, o, hb⟩
    have hB' := hB.trans (hb.mono hB.size)
    have o' := o.mono (base' := w.heap.size) hB.size
    go_wp2
    go_ret2
    exact ⟨A', c', rfl, o', hB'⟩
  · have hE : intE n es xs = ([], treeErr n es xs) := if_neg hz
    rw [hE]
    obtain ⟨z, hzz⟩ : ∃ z, treeErr n es xs = z := ⟨_, rfl⟩
    rw [hzz] at TC hz ⊢
    have hzb : (z != 0) = true := by simpa using hz
    clear hz hzz hE
    go_enter Tryz.func22, Tryz.ntmps22
    go_wp2_with fail
    refine (TC.out _ hB).mono ?_
    rintro e wn ⟨rfl, hb⟩
    have hB := hB.trans (hb.mono hB.size)
    go_wp2
    go_ret2
    exact ⟨none, 0, rfl, OwnI.nil_ _ _, hB⟩
set_option maxRecDepth 100000 in
set_option maxHeartbeats 2000000 in
theorem external_any (n : Int) (A : Option Addr) (c : Nat) (es : List E3) (hn : es.length ≤ 10000) (B : Option Addr) (d : Nat) (xs : List Int) (hm : xs.length ≤ 1048576) (w : World) (h : Reads w w.heap.size 3 A es.length (edgeCells es)) (h' : Reads w w.heap.size 1 B xs.length (ints xs)) :
    Calls Tryz.prog 23 #[.agg #[.int .i64 n, .slice A es.length c], .slice B xs.length d] w fun e w' => ∃ A' c', e = .returned (.tuple #[.slice A' (extE n es xs).1.length c', .int .i64 (extE n es xs).2]) ∧ OwnI w' w.heap.size A' c' (extE n es xs).1 ∧ Below w.heap.size w w' := by
  have TC := Lib.hid (fun (W : World) (hB : Below w.heap.size w W) => tcheck_any n A c es hn B d xs hm W ((h.below hB).more hB.size) ((h'.below hB).more hB.size))
  have g := Blk.new w 24 #[.int .i64 n, .slice A es.length c]
  have hB : Below w.heap.size w (w.alloc (.cells #[.int .i64 n, .slice A es.length c] 24)) := (Below.refl _ _).alloc (Nat.le_refl _) _
  have k0 := g.cell 0
  have k1 := g.cell 1
  by_cases hz : treeErr n es xs = 0
  · have hE : extE n es xs = (nI (outA (endsL es) (toN xs)), 0) := if_pos hz
    rw [hE]
    dsimp only
    obtain ⟨m, t, rfl, hxt, hG, hb, hT, h1, h12, _⟩ := tree_zero hz
    have hel : (endsL es).length ≤ 1000000 := by have := endsL_length hG.ok; omega
    have hl11 : xs.length ≤ 11 := by rw [hxt, nI_length]; have := hT.len; omega
    rw [hz] at TC
    have hAct := ext_act hz hxt (by rw [Int.toNat_natCast]; exact hb) (by rw [Int.toNat_natCast]; exact hT)
    rw [show toN xs = t by rw [hxt, toN_nI]]
    have CC : Hid (∀ e ∈ restTo xs (endsL es).length, ∀ (W : World), Below w.heap.size w W → Calls Tryz.prog 74 #[.agg #[.int .i64 m, .slice A es.length c], .slice B xs.length d, .int .i64 e] W fun r w' => ∃ A' c', r = .returned (.tuple #[.slice A' ((cycleE m es xs e).1).length c', .int .i64 0]) ∧ OwnI w' W.heap.size A' c' (cycleE m es xs e).1 ∧ Below W.heap.size W w') := by
      intro e he W hB
      have := tcycle_any m A c es hn B d xs hl11 e W ((h.below hB).more hB.size) ((h'.below hB).more hB.size)
      have h0 : (cycleE m es xs e).2 = 0 := by
        obtain ⟨f, hf, rfl⟩ := List.mem_map.1 he
        obtain ⟨hf1, hf2⟩ := List.mem_filter.1 hf
        rw [cycle_out hz hxt (List.mem_range.1 hf1) (fun hc => by rw [hxt] at hf2; exact (of_decide_eq_true hf2) (mem_nI9.2 hc))]
      rw [h0] at this
      exact this
    have OC := Lib.hid (fun (W : World) (hB : Below w.heap.size w W) => outside_any m A c es hn (join_zero ‹joinErr _ _ = 0›).1 hel B d xs hm W ((h.below hB).more hB.size) ((h'.below hB).more hB.size))
    have AC := Lib.hid (fun (C : Option Addr) (f : Nat) (W : World) (hB : Below w.heap.size w W) (hr : Reads W W.heap.size 1 C (restTo xs (endsL es).length).length (ints (restTo xs (endsL es).length))) => active_any 74 (enters_of Tryz.func74 (by kernel_rfl) rfl) m A c es B xs.length d (fun e => (cycleE m es xs e).1) C f (restTo xs (endsL es).length) (by have := restTo_len (xs := xs) (k := (endsL es).length); omega) W hr (fun e he W' hB' => CC.out e he W' (hB.trans (hB'.mono hB.size))))
    rw [hAct] at AC
    obtain ⟨R, hR⟩ : ∃ R, nI (outA (endsL es) t) = R := ⟨_, rfl⟩
    rw [hR] at AC ⊢
    obtain ⟨RS, hRS⟩ : ∃ RS, restTo xs (endsL es).length = RS := ⟨_, rfl⟩
    rw [hRS] at AC OC
    obtain ⟨N, hN⟩ : ∃ N, xs.length = N := ⟨_, rfl⟩
    rw [hN] at AC TC OC ⊢
    clear hz hxt hG hb hT hE hAct hR CC hm hl11 hN h h' hRS
    go_enter Tryz.func23, Tryz.ntmps23
    go_wp2_with fail
    refine (TC.out _ hB).mono ?_
    rintro e wn ⟨rfl, hb⟩
    have g := g.next hb
    have hB := hB.trans (hb.mono hB.size)
    have k0 := g.cell 0
    have k1 := g.cell 1
    clear hb
    go_wp2_with fail
    refine (OC.out _ hB).mono ?_
    rintro e wo ⟨C, f, rfl, oc, hb⟩
    have g := g.next hb
    have hB := hB.trans (hb.mono hB.size)
    have k0 := g.cell 0
    have k1 := g.cell 1
    clear hb
    go_wp2_with fail
    refine (AC.out _ _ _ hB oc.reads).mono ?_
    rintro e wm ⟨A', c', rfl, o, hb⟩
    have hB' := hB.trans (hb.mono hB.size)
    have o' := o.mono (base' := w.heap.size) hB.size
    go_wp2
    go_ret2
    exact ⟨A', c', rfl, o', hB'⟩
  · have hE : extE n es xs = ([], treeErr n es xs) := if_neg hz
    rw [hE]
    obtain ⟨z, hzz⟩ : ∃ z, treeErr n es xs = z := ⟨_, rfl⟩
    rw [hzz] at TC hz ⊢
    have hzb : (z != 0) = true := by simpa using hz
    clear hz hzz hE
    go_enter Tryz.func23, Tryz.ntmps23
    go_wp2_with fail
    refine (TC.out _ hB).mono ?_
    rintro e wn ⟨rfl, hb⟩
    have hB := hB.trans (hb.mono hB.size)
    go_wp2
    go_ret2
    exact ⟨none, 0, rfl, OwnI.nil_ _ _, hB⟩
set_option maxRecDepth 100000 in
set_option maxHeartbeats 2000000 in
theorem both_any (n : Int) (A : Option Addr) (c : Nat) (es : List E3) (hn : es.length ≤ 10000) (B : Option Addr) (d : Nat) (xs : List Int) (hm : xs.length ≤ 1048576) (w : World) (h : Reads w w.heap.size 3 A es.length (edgeCells es)) (h' : Reads w w.heap.size 1 B xs.length (ints xs)) :
    Calls Tryz.prog 111 #[.agg #[.int .i64 n, .slice A es.length c], .slice B xs.length d] w fun e w' => ∃ A1 c1 A2 c2, e = .returned (.tuple #[.slice A1 (intE n es xs).1.length c1, .slice A2 (extE n es xs).1.length c2, .int .i64 (treeErr n es xs)]) ∧ OwnI w' w.heap.size A1 c1 (intE n es xs).1 ∧ OwnI w' w.heap.size A2 c2 (extE n es xs).1 ∧ Below w.heap.size w w' := by
  have IC := Lib.hid (fun (W : World) (hB : Below w.heap.size w W) => internal_any n A c es hn B d xs hm W ((h.below hB).more hB.size) ((h'.below hB).more hB.size))
  have EC := Lib.hid (fun (W : World) (hB : Below w.heap.size w W) => external_any n A c es hn B d xs hm W ((h.below hB).more hB.size) ((h'.below hB).more hB.size))
  have g := Blk.new w 24 #[.int .i64 n, .slice A es.length c]
  have hB : Below w.heap.size w (w.alloc (.cells #[.int .i64 n, .slice A es.length c] 24)) := (Below.refl _ _).alloc (Nat.le_refl _) _
  have k0 := g.cell 0
  have k1 := g.cell 1
  have hi2 : (intE n es xs).2 = treeErr n es xs := by unfold intE; by_cases hz : treeErr n es xs = 0 <;> simp [hz]
  have he2 : (extE n es xs).2 = treeErr n es xs := by unfold extE; by_cases hz : treeErr n es xs = 0 <;> simp [hz]
  rw [hi2] at IC
  rw [he2] at EC
  have hnil : treeErr n es xs ≠ 0 → (intE n es xs).1 = [] ∧ (extE n es xs).1 = [] := fun hz => by unfold intE extE; rw [if_neg hz, if_neg hz]; exact ⟨rfl, rfl⟩
  obtain ⟨R, hR⟩ : ∃ R, (intE n es xs).1 = R := ⟨_, rfl⟩
  obtain ⟨T, hT⟩ : ∃ T, (extE n es xs).1 = T := ⟨_, rfl⟩
  obtain ⟨z, hz⟩ : ∃ z, treeErr n es xs = z := ⟨_, rfl⟩
  obtain ⟨N, hN⟩ : ∃ N, xs.length = N := ⟨_, rfl⟩
  rw [hR, hT, hz] at hnil
  rw [hR, hz, hN] at IC
  rw [hT, hz, hN] at EC
  rw [hR, hT, hz, hN]
  have HN := Lib.hid hnil
  clear hR hT hz hi2 he2 hN hm h h' hnil
  by_cases h0 : z = 0
  · subst h0
    go_enter Tryz.func111, Tryz.ntmps111
    go_wp2_with fail
    refine (IC.out _ hB).mono ?_
    rintro e wn ⟨A1, c1, rfl, o1, hb⟩
    have g := g.next hb
    have o1 := o1.mono (base' := w.heap.size) hB.size
    have hB := hB.trans (hb.mono hB.size)
    have k0 := g.cell 0
    have k1 := g.cell 1
    clear hb
    go_wp2_with fail
    refine (EC.out _ hB).mono ?_
    rintro e wm ⟨A2, c2, rfl, o2, hb⟩
    have o1 := o1.next hb
    have o2 := o2.mono (base' := w.heap.size) hB.size
    have hB := hB.trans (hb.mono hB.size)
    go_wp2
    go_ret3
    exact ⟨A1, c1, A2, c2, rfl, o1, o2, hB⟩
  · obtain ⟨rfl, rfl⟩ := HN.out h0
    have hzb : (z != 0) = true := by simpa using h0
    clear h0
    go_enter Tryz.func111, Tryz.ntmps111
    go_wp2_with fail
    refine (IC.out _ hB).mono ?_
    rintro e wn ⟨A1, c1, rfl, _, hb⟩
    have hB := hB.trans (hb.mono hB.size)
    go_wp2
    go_ret3
    exact ⟨none, 0, none, 0, rfl, OwnI.nil_ _ _, OwnI.nil_ _ _, hB⟩
end Go.Proofs.YtnbikkcalcpedaaGreatDoor

