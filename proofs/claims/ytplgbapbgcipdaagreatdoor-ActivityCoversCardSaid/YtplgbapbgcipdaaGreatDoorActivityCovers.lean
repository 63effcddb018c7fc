/-
  ActivityCovers: for every graph and all bits: of a small connected graph, the numbers of sets in the intervals of all trees add up to the number of all sets, and the set that the bits tell is in the interval of the tree that activity.Interval returns; the example of the chapter holds.
  Conditions: none but the tables that the card lists and ties.
-/
import Derived.Test.YtplgbapbgcipdaaGreatDoorK31
import Derived.Test.YtplgbapbgcipdaaGreatDoorK33
import Derived.Test.YtplgbapbgcipdaaGreatDoorK29
namespace Go.Proofs.YtplgbapbgcipdaaGreatDoor
open Go.RowKit
set_option maxRecDepth 100000 in
set_option maxHeartbeats 8000000 in
theorem activityCovers_walk (w : World) (n : Int) (A : Option Addr) (c : Nat) (es : List E3) (_hm : es.length ≤ maxLen) (_hw : (Lit.int .i64 n).wf = true) (h : Reads w w.heap.size 3 A es.length (edgeCells es)) (b : Int) (hbw : (Lit.int .u16 b).wf = true) :
    Calls Tryz.prog 7 #[.agg #[.int .i64 n, .slice A es.length c], .int .u16 b] w fun e w' => e = .returned (.bool true) ∧ Below w.heap.size w w' := by
  have FC := Lib.hid (fun (W : World) (hB : Below w.heap.size w W) => right31_any n A c es W ((h.below hB).more hB.size))
  have AC := Lib.hid awake31_any
  have g := Blk.new w 24 #[.int .i64 n, .slice A es.length c]
  have hB : Below w.heap.size w (w.alloc (.cells #[.int .i64 n, .slice A es.length c] 24)) := (Below.refl _ _).alloc (Nat.le_refl _) _
  have k0 := g.cell 0
  have k1 := g.cell 1
  cases hr : (smallB n es 5 8 && decide (joinErr n es = 0))
  · rw [hr] at FC
    clear hr h _hm _hw hbw
    go_enter Tryz.func7, Tryz.ntmps7
    go_wp2_with fail
    refine (FC.out _ hB).mono ?_
    rintro e wn ⟨rfl, hb⟩
    have hB := hB.trans (hb.mono hB.size)
    go_wp2_with fail
    refine (AC.out _).mono ?_
    rintro e wm ⟨rfl, hb⟩
    have hB := hB.trans (hb.mono hB.size)
    go_wp2
    go_ret
    exact ⟨rfl, hB⟩
  · rw [hr] at FC
    rw [Bool.and_eq_true, decide_eq_true_eq] at hr
    obtain ⟨hf, hj⟩ := hr
    obtain ⟨h40, _, hsm⟩ := few13_parts (n := n) (es := es) (m := 0) (by unfold few13; rw [hf]; rfl)
    obtain ⟨hck, hG, _⟩ := join_zero hj
    have hsz : (endsL es).length ≤ 8 := by rw [← size_ends]; exact (hsm hck).2
    have h5 := (hsm hck).1
    have hlo := hG.lo
    obtain ⟨m, rfl⟩ := Int.eq_ofNat_of_zero_le (show 0 ≤ n by omega)
    obtain ⟨u, rfl⟩ : ∃ u : Nat, b = u := by
      have h1 : 0 ≤ b := by simp [Lit.wf, IntKind.min, IntKind.max, IntKind.signed, IntKind.bits] at hbw; omega
      exact ⟨b.toNat, by omega⟩
    have hu : u ≤ 65535 := by simp [Lit.wf, IntKind.min, IntKind.max, IntKind.signed, IntKind.bits] at hbw; omega
    have hbd : BdP m (endsL es) := bd_ends hG
    have h70 := few_trees hbd (by omega) (by omega) hsz
    have hx := join_tree hj
    have hsum := iv_sum hbd (show 0 < m by omega) hx
    have hSet : SetN (endsL es).length (bitS (endsL es).length u) := bitS_set
    have hint := intv_found hj hSet hx
    obtain ⟨_, hFT, hFI⟩ := found_spec hbd (show 0 < m by omega) hx (bitS (endsL es).length u)
    have hTE : tallE m es = ((treesT m (endsL es)).map nI, 0) := by unfold tallE; rw [if_neg (fun hc => hc hj), Int.toNat_natCast]
    have TA := Lib.hid (fun (W : World) (hB : Below w.heap.size w W) => tall_any m A c es (by omega) (by rw [hTE]; simp; omega) W ((h.below hB).more hB.size))
    rw [hTE] at TA
    dsimp only at TA
    rw [List.length_map] at TA
    have hTr : ∀ t ∈ treesT m (endsL es), IsTr m (endsL es) t := fun t ht => ((treesT_spec hbd (by omega)).1 t).1 ht
    have hlen : ∀ t, IsTr m (endsL es) t → t.length ≤ 4 ∧ treeErr m es (nI t) = 0 ∧ intE m es (nI t) = (nI (insA (endsL es) t), 0) ∧ extE m es (nI t) = (nI (outA (endsL es) t), 0) ∧ (insA (endsL es) t).length ≤ 4 ∧ (outA (endsL es) t).length ≤ 8 := fun t hT => by
      have hz := tree_ok hj hT
      have h1 := insA_len (E := endsL es) (t := t)
      have h2 := outA_len (E := endsL es) (t := t)
      have h3 := hT.len
      exact ⟨by omega, hz, by unfold intE; rw [if_pos hz, toN_nI], by unfold extE; rw [if_pos hz, toN_nI], by omega, by omega⟩
    obtain ⟨Q, hQ⟩ : ∃ Q : List Nat → Nat, (fun t => 2 ^ ((insA (endsL es) t).length + (outA (endsL es) t).length)) = Q := ⟨_, rfl⟩
    rw [hQ] at hsum
    have MC : Hid (∀ t ∈ treesT m (endsL es), ∀ (B : Option Addr) (d : Nat) (W : World), Below w.heap.size w W → Reads W W.heap.size 1 B t.length (ints (nI t)) → Calls Tryz.prog 25 #[.agg #[.int .i64 m, .slice A es.length c], .slice B t.length d] W fun e w' => e = .returned (.tuple #[.int .i64 (Q t : Nat), .int .i64 0]) ∧ Below W.heap.size W w') := fun t ht B d W hB hr => by
      obtain ⟨l1, l2, l3, l4, l5, l6⟩ := hlen t (hTr t ht)
      have hc := amembers_any m A c es (by omega) B d (nI t) (by rw [nI_length]; omega) (by rw [l3, l4]; dsimp only; rw [nI_length, nI_length]; omega) W ((h.below hB).more hB.size) (by rw [nI_length]; exact hr)
      have he : memE m es (nI t) = (((Q t : Nat) : Int), 0) := by
        unfold memE
        rw [if_pos l2, l3, l4]
        dsimp only
        rw [nI_length, nI_length, ← hQ]
      rw [he, nI_length] at hc
      exact hc
    obtain ⟨MM, hMM⟩ : ∃ M, (endsL es).length = M := ⟨_, rfl⟩
    have SZ : Hid (∀ W, Below w.heap.size w W → Calls Tryz.prog 28 #[.agg #[.int .i64 m, .slice A es.length c]] W fun e w' => e = .returned (.int .i64 (MM : Nat)) ∧ Below W.heap.size W w') := fun W hB => by
      have := rsize_any m A c es h40 m hG.ok W ((h.below hB).more hB.size)
      rw [size_ends, hMM] at this
      exact this
    rw [hMM] at hint hFT hFI hsz hSet hsum
    obtain ⟨S, hS⟩ : ∃ S, bitS MM u = S := ⟨_, rfl⟩
    rw [hS] at hint hFT hFI hSet
    obtain ⟨FT, hFF⟩ : ∃ l, foundL m (endsL es) S = l := ⟨_, rfl⟩
    rw [hFF] at hint hFT hFI
    obtain ⟨f1, f2, f3, f4, f5, f6⟩ := hlen FT hFT
    have hSl : S.length ≤ 8 := by
      rw [← hS]
      have h1 := List.length_filter_le (fun e => decide (u / 2 ^ e % 2 = 1)) (List.range MM)
      rw [List.length_range] at h1
      unfold bitS
      omega
    have IC : Hid (∀ (B : Option Addr) (d : Nat) (W : World), Below w.heap.size w W → Reads W W.heap.size 1 B S.length (ints (nI S)) → Calls Tryz.prog 21 #[.agg #[.int .i64 m, .slice A es.length c], .slice B S.length d] W fun e w' => ∃ A' c', e = .returned (.tuple #[.slice A' FT.length c', .int .i64 0]) ∧ Reads w' w'.heap.size 1 A' FT.length (ints (nI FT)) ∧ Below W.heap.size W w') := fun B d W hB hr => by
      have hc := interval_any m A c es (by omega) (by rw [hTE]; simp; omega) (fun _ => by omega) B d (nI S) (by rw [nI_length]; omega) W ((h.below hB).more hB.size) (by rw [nI_length]; exact hr)
      rw [hint, nI_length] at hc
      dsimp only at hc
      rw [nI_length] at hc
      exact hc
    have KC : Hid (∀ (B : Option Addr) (d : Nat) (W : World), Below w.heap.size w W → Reads W W.heap.size 1 B FT.length (ints (nI FT)) → Calls Tryz.prog 30 #[.agg #[.int .i64 m, .slice A es.length c], .slice B FT.length d] W fun e w' => e = .returned (.int .i64 0) ∧ Below W.heap.size W w') := fun B d W hB hr => by
      have hc := tcheck_any m A c es (by omega) B d (nI FT) (by rw [nI_length]; omega) W ((h.below hB).more hB.size) (by rw [nI_length]; exact hr)
      rw [f2, nI_length] at hc
      exact hc
    obtain ⟨ins, hins⟩ : ∃ l, insA (endsL es) FT = l := ⟨_, rfl⟩
    obtain ⟨outs, houts⟩ : ∃ l, outA (endsL es) FT = l := ⟨_, rfl⟩
    have hin : ∀ e ∈ FT, e ∉ S → e ∈ ins := fun e he hn => by rw [← hins]; exact List.mem_filter.2 ⟨he, decide_eq_true (hFI.1 e he hn)⟩
    have hou : ∀ e, e < MM → e ∈ S → e ∉ FT → e ∈ outs := fun e he hs hn => by
      rw [← houts]
      exact List.mem_filter.2 ⟨List.mem_range.2 (by rw [hMM]; exact he), by rw [decide_eq_false hn, decide_eq_true (hFI.2 e (by rw [hMM]; exact he) hs hn)]; rfl⟩
    rw [hins] at f3 f5
    rw [houts] at f4 f6
    have NC : Hid (∀ (B : Option Addr) (d : Nat) (W : World), Below w.heap.size w W → Reads W W.heap.size 1 B FT.length (ints (nI FT)) → Calls Tryz.prog 12 #[.agg #[.int .i64 m, .slice A es.length c], .slice B FT.length d] W fun e w' => ∃ A' c', e = .returned (.tuple #[.slice A' ins.length c', .int .i64 0]) ∧ Reads w' w'.heap.size 1 A' ins.length (ints (nI ins)) ∧ Below W.heap.size W w') := fun B d W hB hr => by
      have hc := internal_any m A c es (by omega) B d (nI FT) (by rw [nI_length]; omega) W ((h.below hB).more hB.size) (by rw [nI_length]; exact hr)
      rw [f3, nI_length] at hc
      dsimp only at hc
      rw [nI_length] at hc
      refine hc.mono ?_
      rintro e w' ⟨A', c', he, o, hb⟩
      have hr := o.reads
      rw [nI_length] at hr
      exact ⟨A', c', he, hr, hb⟩
    have XC : Hid (∀ (B : Option Addr) (d : Nat) (W : World), Below w.heap.size w W → Reads W W.heap.size 1 B FT.length (ints (nI FT)) → Calls Tryz.prog 14 #[.agg #[.int .i64 m, .slice A es.length c], .slice B FT.length d] W fun e w' => ∃ A' c', e = .returned (.tuple #[.slice A' outs.length c', .int .i64 0]) ∧ Reads w' w'.heap.size 1 A' outs.length (ints (nI outs)) ∧ Below W.heap.size W w') := fun B d W hB hr => by
      have hc := external_any m A c es (by omega) B d (nI FT) (by rw [nI_length]; omega) W ((h.below hB).more hB.size) (by rw [nI_length]; exact hr)
      rw [f4, nI_length] at hc
      dsimp only at hc
      rw [nI_length] at hc
      refine hc.mono ?_
      rintro e w' ⟨A', c', he, o, hb⟩
      have hr := o.reads
      rw [nI_length] at hr
      exact ⟨A', c', he, hr, hb⟩
    have CN : Hid (∀ (l : List Nat) (_ : l.length ≤ 1000) (D : Option Addr) (k x : Nat) (W : World), Reads W W.heap.size 1 D l.length (ints (nI l)) → Calls Tryz.prog 31 #[.slice D l.length k, .int .i64 x] W fun e w' => e = .returned (.bool (decide (x ∈ l))) ∧ W = w') := fun l hl D k x W hr => by
      have := contains_any D k (nI l) (by rw [nI_length]; omega) x W (by rw [nI_length]; exact hr)
      rw [nI_length] at this
      rw [show decide (x ∈ l) = decide ((x : Int) ∈ nI l) from decide_eq_decide.2 mem_nI9.symm]
      exact this
    obtain ⟨T, hT⟩ : ∃ T, treesT m (endsL es) = T := ⟨_, rfl⟩
    rw [hT] at TA MC h70 hsum
    obtain ⟨N, hN⟩ : ∃ N, T.length = N := ⟨_, rfl⟩
    rw [hN] at TA h70
    have HN := Lib.hid hN
    have HSUM := Lib.hid hsum
    have HHIN := Lib.hid hin
    have HHOU := Lib.hid hou
    have HSl := Lib.hid (show S.length ≤ 1000 ∧ FT.length ≤ 1000 ∧ ins.length ≤ 1000 ∧ outs.length ≤ 1000 by omega)
    have HS := Lib.hid hS
    have hP8 : 2 ^ MM ≤ 256 := Nat.pow_le_pow_right (n := 2) (by omega) hsz
    have HP8 := Lib.hid hP8
    have hMM8 : MM ≤ 8 := hsz
    have HU := Lib.hid hu
    clear hf hj hsm hck hG hsz h5 hlo hbd hx hsum hSet hint hFT hFI hTE hTr hlen hQ hS hFF f1 f2 f3 f4 f5 f6 hSl hins houts hin hou hT hN h _hm _hw hbw h40 hMM hP8 hu
    go_enter Tryz.func7, Tryz.ntmps7
    go_wp2_with fail
    refine (FC.out _ hB).mono ?_
    rintro e wn ⟨rfl, hb⟩
    have g := g.next hb
    have hB := hB.trans (hb.mono hB.size)
    have k0 := g.cell 0
    have k1 := g.cell 1
    clear hb
    go_wp2_with fail
    refine (SZ.out _ hB).mono ?_
    rintro e wn ⟨rfl, hb⟩
    have g := g.next hb
    have hB := hB.trans (hb.mono hB.size)
    have k0 := g.cell 0
    have k1 := g.cell 1
    clear hb
    go_wp2_with fail
    refine (TA.out _ hB).mono ?_
    rintro e w1 ⟨Ar, cr, vs, rfl, hrows, hb⟩
    have g := g.next hb
    have hB := hB.trans (hb.mono hB.size)
    have hRo := hrows.reads
    clear hb hrows k0 k1
    go_wp2
    go_loopw [8, 10, 11, 12, 36] (fun s _ _ _ i wr => ∃ k P : Nat, k ≤ N ∧ i = .int .i64 k ∧ s = .int .i64 (P : Int) ∧ Hid (P = ((T.map Q).take k).sum) ∧ Below w1.heap.size w1 wr) (fun _ _ _ _ i _ => N - (intOf i).toNat)
    case atStart => exact ⟨0, 0, by omega, rfl, rfl, by simp [Hid], Below.refl _ _⟩
    case round =>
      obtain ⟨k, P, hk, rfl, rfl, HP, hb1⟩ := hrel
      have hBr : Below w.heap.size w wr := hB.trans (hb1.mono hB.size)
      by_cases hlt : k < N
      · have hi : (k : Int) < (N : Int) := by omega
        obtain ⟨t, ht⟩ : ∃ t, T[k]? = some t := ⟨_, List.getElem?_eq_getElem (by rw [HN.out]; exact hlt)⟩
        obtain ⟨b', off', A0, c0, rfl, hc', hr0, hb'⟩ := (hRo.below hb1).row ht
        have hr0 := hr0.more hb1.size
        have gk := g.below hb1 g.lt
        have k0 := gk.cell 0
        have k1 := gk.cell 1
        have MK := Lib.hid (MC.out t (List.mem_of_getElem? ht) A0 c0 wr hBr hr0)
        have hts : (T.map Q).take (k + 1) = (T.map Q).take k ++ [Q t] := take_snoc (by rw [List.getElem?_map, ht]; rfl)
        have hle := take_sum_le (T.map Q) (k + 1)
        rw [HSUM.out, hts, List.sum_append, ← HP.out] at hle
        have hP8 := HP8.out
        obtain ⟨q, hq⟩ : ∃ q, Q t = q := ⟨_, rfl⟩
        rw [hq] at MK hts hle
        have hPq : P + q ≤ 256 := by simp at hle; omega
        have HTS : Hid (P + q = ((T.map Q).take (k + 1)).sum) := by rw [Hid, hts, List.sum_append, ← HP.out]; simp
        have hwr : IntKind.i64.wrap ((P : Int) + (q : Int)) = ((P + q : Nat) : Int) := by rw [IntWalk.i64_in _ (by omega)]; omega
        clear ht hts hle hP8 hq
        go_wp2_with fail
        refine (MK.out).mono ?_
        rintro e w2 ⟨rfl, hb2⟩
        have hbn := hb1.trans (hb2.mono hb1.size)
        go_wp2
        go_roundw
        case rel => exact ⟨k + 1, P + q, by omega, by go_num, by first | rfl | simp, HTS, hbn⟩
        case measure => simp [intOf]; omega
      · obtain rfl : k = N := by omega
        have hf : ¬ (k : Int) < (k : Int) := by omega
        have HPE : Hid (P = 2 ^ MM) := by rw [Hid, HP.out, List.take_of_length_le (by rw [List.length_map, HN.out]; exact Nat.le_refl _), HSUM.out]
        have gk := g.below hb1 g.lt
        clear HP HSUM MC TA hRo
        obtain ⟨wB, hwB⟩ : ∃ wB : World, wB = wr := ⟨wr, rfl⟩
        subst hwB
        have hMM32 : (MM : Int) ≤ 64 := by omega
        obtain ⟨q, hq⟩ : ∃ q : Nat → Bool, (fun e => decide (u / 2 ^ e % 2 = 1)) = q := ⟨_, rfl⟩
        have HQ : Hid (∀ e, q e = decide (u / 2 ^ e % 2 = 1)) := fun e => by rw [← hq]
        have HSQ : Hid ((List.range MM).filter q = S) := by rw [Hid, ← HS.out, ← hq]; rfl
        clear hq HS
        go_wp2
        go_loopw [13, 14, 53] (fun s _ i wr => ∃ (k : Nat) (A' : Option Addr) (c' : Nat), k ≤ MM ∧ i = .int .i64 k ∧ s = .slice A' (((List.range MM).take k).filter q).length c' ∧ Hid (OwnI wr wB.heap.size A' c' (nI (((List.range MM).take k).filter q))) ∧ Hid (Below wB.heap.size wB wr)) (fun _ _ i _ => MM - (intOf i).toNat)
        case atStart => exact ⟨0, none, 0, by omega, rfl, rfl, OwnI.nil_ _ _, Below.refl _ _⟩
        case round =>
          obtain ⟨k2, A', c', hk2, rfl, rfl, HO, HB⟩ := hrel
          have hsz2 := HB.out.size
          by_cases hlt : k2 < MM
          · have hi : (k2 : Int) < (MM : Int) := by omega
            have hx : (List.range MM)[k2]? = some k2 := by rw [List.getElem?_range hlt]
            have hl : (((List.range MM).take k2).filter q).length ≤ k2 := Nat.le_trans (List.length_filter_le _ _) (by simp; omega)
            have hsc := filt_snocN (q := q) hx
            obtain ⟨S2, hS2⟩ : ∃ S, ((List.range MM).take k2).filter q = S := ⟨_, rfl⟩
            rw [hS2] at HO hl hsc ⊢
            obtain ⟨sl, hsl⟩ : ∃ sl, S2.length = sl := ⟨_, rfl⟩
            have HSL := Lib.hid hsl
            rw [hsl] at hl ⊢
            have OX : wr.ownsRow wB.heap.size 3 1 (.slice A' sl c') sl (ints (nI S2)) := by have := HO.out; unfold OwnI at this; rw [nI_length, hsl] at this; exact this
            have HSC := Lib.hid hsc
            have h0k : (0 : Int) ≤ (k2 : Int) := by omega
            have h16 : (k2 : Int) ≤ 16 := by omega
            clear hsc hS2 hx hsl
            have hqb : (bits BinOp.and IntKind.u16 ((u : Int) / 2 ^ k2) 1 == 1) = q k2 := by
              have e1 : ((u : Int) / 2 ^ k2) = ((u / 2 ^ k2 : Nat) : Int) := by simp
              have hle : u / 2 ^ k2 ≤ 65535 := Nat.le_trans (Nat.div_le_self _ _) HU.out
              rw [e1, and_one_u16 _ hle, HQ.out, Bool.eq_iff_iff, beq_iff_eq, decide_eq_true_eq]
              omega
            by_cases hqk : q k2 = true
            · rw [hqk] at hqb
              have HSC' : Hid (((List.range MM).take (k2 + 1)).filter q = S2 ++ [k2]) := by have := HSC.out; rw [if_pos hqk] at this; exact this
              clear hqk
              go_wp2_with (first | (at_builtin; refine append_go rfl (.tmp 61) (.tmp 63) _ rfl wB.heap.size 3 Tryz.underlying25 info_int rfl (by omega) A' c' sl (ints (nI S2)) rfl (World.ownsRow.alloc OX _) _ [.int .i64 k2] rfl (Reads.box _ _ _) (by simp [Value.oneCell']) (by omega) (by simp; omega) ?_; intro A6 c6 w6 hown6 hg6 hb6 hw6) | fail)
              have B6 : Below wB.heap.size wB w6 := (HB.out.alloc hsz2 _).trans hb6
              have O6 : OwnI w6 wB.heap.size A6 c6 (nI (S2 ++ [k2])) := by unfold OwnI; rw [nI_length, List.length_append, nI_snoc9, ints_snoc, HSL.out]; exact hown6
              go_roundw
              case rel => exact ⟨k2 + 1, A6, c6, by omega, by go_num, by rw [HSC'.out, List.length_append, HSL.out]; rfl, by rw [HSC'.out]; exact O6, B6⟩
              case measure => simp [intOf]; omega
            · have hqf := Bool.eq_false_iff.2 hqk
              rw [hqf] at hqb
              have HSC' : Hid (((List.range MM).take (k2 + 1)).filter q = S2) := by have := HSC.out; rw [if_neg hqk] at this; exact this
              clear hqk hqf
              go_wp2
              go_roundw
              case rel => exact ⟨k2 + 1, A', c', by omega, by go_num, by rw [HSC'.out, HSL.out], by rw [HSC'.out]; unfold Hid OwnI; rw [nI_length, HSL.out]; exact OX, HB.out⟩
              case measure => simp [intOf]; omega
          · obtain rfl : k2 = MM := by omega
            have hf2 : ¬ (k2 : Int) < (k2 : Int) := by omega
            have hfin : Hid (((List.range k2).take k2).filter q = S) := by rw [Hid, List.take_of_length_le (by simp), HSQ.out]
            have HBw := hBr.trans (HB.out.mono hBr.size)
            have gk := gk.next HB.out
            have k0 := gk.cell 0
            have k1 := gk.cell 1
            rw [hfin.out] at HO ⊢
            have rS := HO.out.reads
            rw [nI_length] at rS
            obtain ⟨R1, hR1⟩ : ∃ R, 2 ^ k2 = R := ⟨_, rfl⟩
            have hPR : P = R1 := by rw [HPE.out, hR1]
            subst hPR
            have HR1 := Lib.hid hR1
            have hP256 : P ≤ 256 := by rw [← hR1]; exact HP8.out
            have hsh : wrap64 ((2 : Int) ^ k2) = (P : Int) := by
              have e1 : ((2 : Int) ^ k2) = (P : Int) := by rw [← hR1]; simp
              rw [e1]
              exact IntWalk.wrap64_in (P : Int) (by omega)
            obtain ⟨ns, hns⟩ : ∃ n, S.length = n := ⟨_, rfl⟩
            obtain ⟨nf, hnf⟩ : ∃ n, FT.length = n := ⟨_, rfl⟩
            obtain ⟨ni, hni⟩ : ∃ n, ins.length = n := ⟨_, rfl⟩
            obtain ⟨no, hno⟩ : ∃ n, outs.length = n := ⟨_, rfl⟩
            have CS := Lib.hid (CN.out S HSl.out.1)
            have CF := Lib.hid (CN.out FT HSl.out.2.1)
            have CI := Lib.hid (CN.out ins HSl.out.2.2.1)
            have CO := Lib.hid (CN.out outs HSl.out.2.2.2)
            rw [hns] at IC rS CS ⊢
            rw [hnf] at IC KC NC XC CF
            rw [hni] at NC CI
            rw [hno] at XC CO
            clear hR1 hns hnf hni hno HO CN hfin HPE
            go_wp2_with fail
            refine (IC.out _ _ _ HBw rS).mono ?_
            rintro e w3 ⟨A3, c3, rfl, r3, hb⟩
            have rS := rS.next hb
            have gk := gk.next hb
            have HBw := HBw.trans (hb.mono HBw.size)
            have k0 := gk.cell 0
            have k1 := gk.cell 1
            clear hb
            go_wp2_with fail
            refine (KC.out _ _ _ HBw r3).mono ?_
            rintro e wn ⟨rfl, hb⟩
            have rS := rS.next hb
            have r3 := r3.next hb
            have gk := gk.next hb
            have HBw := HBw.trans (hb.mono HBw.size)
            have k0 := gk.cell 0
            have k1 := gk.cell 1
            clear hb
            go_wp2_with fail
            refine (NC.out _ _ _ HBw r3).mono ?_
            rintro e wn ⟨A4, c4, rfl, r4, hb⟩
            have rS := rS.next hb
            have r3 := r3.next hb
            have gk := gk.next hb
            have HBw := HBw.trans (hb.mono HBw.size)
            have k0 := gk.cell 0
            have k1 := gk.cell 1
            clear hb
            go_wp2_with fail
            refine (XC.out _ _ _ HBw r3).mono ?_
            rintro e wn ⟨A5, c5, rfl, r5, hb⟩
            have rS := rS.next hb
            have r3 := r3.next hb
            have r4 := r4.next hb
            have gk := gk.next hb
            have HBw := HBw.trans (hb.mono HBw.size)
            have k0 := gk.cell 0
            have k1 := gk.cell 1
            clear hb
            go_wp2
            obtain ⟨wC, hwC⟩ : ∃ wC : World, wC = wn := ⟨wn, rfl⟩
            subst hwC
            go_loopw [19, 20, 105] (fun _ _ i wr => ∃ k3 : Nat, k3 ≤ k2 ∧ i = .int .i64 k3 ∧ wr = wC) (fun _ _ i _ => k2 - (intOf i).toNat)
            case atStart => exact ⟨0, by omega, rfl, rfl⟩
            case round =>
              obtain ⟨k3, hk3, rfl, rfl⟩ := hrel
              by_cases hlt : k3 < k2
              · have hi : (k3 : Int) < (k2 : Int) := by omega
                have h1 := Lib.hid (CS.out A' c' k3 wr rS)
                have h2 := Lib.hid (CF.out A3 c3 k3 wr r3)
                have h3 := Lib.hid (CI.out A4 c4 k3 wr r4)
                have h4 := Lib.hid (CO.out A5 c5 k3 wr r5)
                by_cases p1 : k3 ∈ S
                · rw [decide_eq_true p1] at h1
                  by_cases p2 : k3 ∈ FT
                  · rw [decide_eq_true p2] at h2
                    clear p1 p2 h3 h4
                    go_wp2_with fail
                    refine (h1.out).mono ?_
                    rintro e wh ⟨rfl, rfl⟩
                    go_wp2_with fail
                    refine (h2.out).mono ?_
                    rintro e wh ⟨rfl, rfl⟩
                    go_wp2
                    go_roundw
                    case rel => exact ⟨k3 + 1, by omega, by go_num, trivial⟩
                    case measure => simp [intOf]; omega
                  · rw [decide_eq_false p2] at h2
                    rw [decide_eq_true (HHOU.out k3 hlt p1 p2)] at h4
                    clear p1 p2 h3
                    go_wp2_with fail
                    refine (h1.out).mono ?_
                    rintro e wh ⟨rfl, rfl⟩
                    go_wp2_with fail
                    refine (h2.out).mono ?_
                    rintro e wh ⟨rfl, rfl⟩
                    go_wp2_with fail
                    refine (h4.out).mono ?_
                    rintro e wh ⟨rfl, rfl⟩
                    go_wp2
                    go_roundw
                    case rel => exact ⟨k3 + 1, by omega, by go_num, trivial⟩
                    case measure => simp [intOf]; omega
                · rw [decide_eq_false p1] at h1
                  by_cases p2 : k3 ∈ FT
                  · rw [decide_eq_true p2] at h2
                    rw [decide_eq_true (HHIN.out k3 p2 p1)] at h3
                    clear p1 p2 h4
                    go_wp2_with fail
                    refine (h1.out).mono ?_
                    rintro e wh ⟨rfl, rfl⟩
                    go_wp2_with fail
                    refine (h2.out).mono ?_
                    rintro e wh ⟨rfl, rfl⟩
                    go_wp2_with fail
                    refine (h3.out).mono ?_
                    rintro e wh ⟨rfl, rfl⟩
                    go_wp2
                    go_roundw
                    case rel => exact ⟨k3 + 1, by omega, by go_num, trivial⟩
                    case measure => simp [intOf]; omega
                  · rw [decide_eq_false p2] at h2
                    clear p1 p2 h3 h4
                    go_wp2_with fail
                    refine (h1.out).mono ?_
                    rintro e wh ⟨rfl, rfl⟩
                    go_wp2_with fail
                    refine (h2.out).mono ?_
                    rintro e wh ⟨rfl, rfl⟩
                    go_wp2
                    go_roundw
                    case rel => exact ⟨k3 + 1, by omega, by go_num, trivial⟩
                    case measure => simp [intOf]; omega
              · obtain rfl : k3 = k2 := by omega
                have hf3 : ¬ (k3 : Int) < (k3 : Int) := by omega
                go_wp2_with fail
                refine (AC.out _).mono ?_
                rintro e wz ⟨rfl, hb⟩
                have HBz := HBw.trans (hb.mono HBw.size)
                go_wp2
                go_ret
                exact ⟨rfl, HBz⟩
namespace lawActivityCovers
open Go.ChangeShapes Go.WideShapes Go.ChangeAt Go.RowKit
set_option linter.unusedVariables false
set_option maxRecDepth 100000 in
/-- What the walk gives, for every argument and every world. -/
theorem contract (H : Type) (enc : TypeId × Value → H) (W : World) (base : Nat) (args : Array Value) (ds gs : List (DataW H)) (before : List MemPlace)
    (hval0 : ∀ (j : Nat) t v, Tryz.f7.params[j]? = some t → args[j]? = some v → Value.okWide Tryz.prog W .any base t v)
    (hW : DataW.Whole enc Tryz.prog Tryz.f7.params.toList Rows.activityCoversSpec.vars false W args.toList ds gs before) :
    Calls Tryz.prog 7 args W fun e W' => ∃ v, e = .returned v ∧ Rows.activityCoversSpec.post enc Tryz.prog Tryz.f7 false true false false W args v W' := by
  have hval : ∀ (j : Nat) t v, Tryz.f7.params[j]? = some t → args[j]? = some v → Value.okWide Tryz.prog W .any base t v := hval0
  have hW' := hW
  obtain ⟨p, q, hA0, hV, rfl, hfz, hnd⟩ := hW
  have hA : DataW.TrodAll enc Tryz.prog W 0 (fun _ => true) true Tryz.f7.params.toList args.toList ds p := hA0
  rw [Tryz.params7] at hA hval
  obtain ⟨v0, vs0, d0, ds0, p0, q0, hargs, rfl, rfl, h0, r0⟩ := trodAll_cons hA
  obtain ⟨v1, vs1, d1, ds1, p1, q1, rfl, rfl, rfl, h1, r1⟩ := trodAll_cons r0
  obtain ⟨rfl, rfl, rfl⟩ := trodAll_nil r1
  obtain rfl : args = #[v0, v1] := by cases args; simp_all
  obtain ⟨rfl, rfl⟩ := trodVars_none hV
  obtain ⟨cs0, rfl, _⟩ := okWide_struct Tryz.underlying24 (hval 0 24 v0 rfl rfl)
  have k0 := h0
  have lt0 : ∀ x ∈ p0, x.block < W.heap.size := by obtain ⟨m, hm⟩ := k0; exact DataW.trod_lt m _ _ _ hm
  obtain ⟨_, hf0⟩ := h0
  obtain ⟨n0, a0, cap0, xs0, hcs0, hm0, hr0, hw0⟩ := open_graph hf0
  obtain rfl : cs0 = #[.int .i64 n0, .slice a0 xs0.length cap0] := Array.toList_inj.1 hcs0
  obtain ⟨a1, rfl, rfl, rfl, w1⟩ := open_int Tryz.underlying48 (hval 1 48 v1 rfl rfl) h1
  clear hA0 hval0
  refine (activityCovers_walk W n0 a0 cap0 xs0 hm0 hw0 hr0 a1 w1).mono fun e W' ⟨he, bel⟩ => ?_
  subst he
  exact ⟨_, rfl, _, _, _, [], _, [], hW', trodAll_mk1 (shut_bool Tryz.underlying4 _), (trodAll_cons_mk (Below.trod laidOut (by kernel_rfl) (of_decide_eq_true (by kernel_rfl)) k0 bel lt0) (trodAll_cons_mk (shut_int Tryz.underlying48 w1) trodAll_mk0)), rfl, bel.frame _, fun h => by cases h⟩
theorem laid_met (os : Os) : laidMet Tryz.prog Rows.activityCoversRow.laid ((laidWorld31 os).forCall (fun _ _ => 0) ⟨#[], #[.agg #[.int .i64 0, .slice none 0 0], .int .u16 0], []⟩).memory :=
  laidMet_of_run' 8 (by kernel_rfl) (by kernel_rfl)
theorem reads (os : Os) {H : Type} (enc : TypeId × Value → H) : ∃ places, DataW.whole enc Tryz.prog ((laidWorld31 os).forCall (fun _ _ => 0) ⟨#[], #[.agg #[.int .i64 0, .slice none 0 0], .int .u16 0], []⟩).memory Tryz.f7.params.toList Rows.activityCoversSpec.vars false #[.agg #[.int .i64 0, .slice none 0 0], .int .u16 0].toList 8 = some ([.agg [.lit (.int .i64 0), .nil], .lit (.int .u16 0)], [], places) :=
  ⟨[], by kernel_rfl⟩
set_option maxRecDepth 100000 in
theorem lifted (os : Os) (started : os.Started) (H : Type) (enc : TypeId × Value → H) (F : Stop.Interp) :
    ReturnsInHanded {} Tryz.checked os 7 .any ((OpenSpec.ofChange Rows.activityCoversSpec).preRow enc Tryz.prog Tryz.f7 Rows.activityCoversRow.domain false Rows.activityCoversRow.laid) (((OpenSpec.ofChange Rows.activityCoversSpec).at F).post enc Tryz.prog Tryz.f7 false true false false) := by
  obtain ⟨places, hx⟩ := reads os enc
  refine returnsInHanded_of_row (C := Tryz.checked) (s := OpenSpec.ofChange Rows.activityCoversSpec) own started (by kernel_rfl) Tryz.func7
    (witness_row_at (enc := enc) (C := Tryz.checked) false (laidWorld31 os) #[.agg #[.int .i64 0, .slice none 0 0], .int .u16 0] rfl (by kernel_rfl) (by kernel_rfl) (by kernel_rfl)
      (OpenSpec.preRow_of_cond 8 hx (by kernel_rfl) (fun k hk => by cases hk) (by kernel_rfl) (laid_met os))) ?_
  intro W base args ds gs before hval hW _ _ _ _ _ _
  exact contract H enc W base args ds gs before hval hW
theorem said : Rows.ActivityCoversSaid :=
  OpenClaim.holds_of_cond 7 Tryz.f7 rfl rfl rfl rfl rfl rfl rfl ⟨rfl, rfl, rfl, rfl, rfl⟩ rfl rfl rfl rfl rfl (by kernel_rfl) Tryz.func7 (by kernel_rfl)
    (of_decide_eq_true (by kernel_rfl)) (by unfold Func.isWrapper; first | (rw [if_pos (by decide +kernel)]; kernel_rfl) | (rw [if_neg (by decide +kernel)]; exact ⟨rfl, rfl⟩))
    (fun os started H enc _ F => by rw [OpenClaim.pre_eq_preRow]; exact lifted os started H enc F)
/-- No parameter wants a stand-in; the program's own looks are off: what the card asks. -/
theorem plain (f : FuncId) (fn : Func) (hf : Tryz.pinned.checked.prog.funcNamed "sandpile/sandpilelaw31.ActivityCovers" = some f) (hfn : Tryz.pinned.checked.prog.funcs[f]? = some fn) :
    true = Tryz.pinned.checked.prog.looks [] ∧ ∀ (j : Nat) t, fn.params[j]? = some t → Tryz.pinned.checked.prog.wantsStandIn t = false := by
  obtain rfl : f = 7 := Option.some.inj ((show Tryz.prog.funcNamed "sandpile/sandpilelaw31.ActivityCovers" = some 7 by kernel_rfl).symm.trans hf) |>.symm
  obtain rfl : fn = Tryz.f7 := (Option.some.inj (Tryz.func7.symm.trans hfn)).symm
  refine ⟨by kernel_rfl, fun j t ht => ?_⟩
  rw [Tryz.params7] at ht
  rcases (by simpa using Array.mem_of_getElem? ht : t = 24 ∨ t = 48) with rfl | rfl
  · exact (show Tryz.prog.wantsStandIn 24 = false by kernel_rfl)
  · exact (show Tryz.prog.wantsStandIn 48 = false by kernel_rfl)

/-- ActivityCovers (P31.3): for every graph and all bits, the numbers of sets in the intervals of all trees add up to the number of all sets, and each set is in the interval of the tree that Interval returns; nothing that came in is turned; no condition but the tables that the card ties. -/
theorem proved : Rows.ActivityCoversCardSaid :=
  Claim7.holds_tied_plain_at .later [] _ _ _ _ said (fun _ h => by cases h) (by kernel_rfl) (fun _ h => by cases h) activityCovers_row_tie rfl ⟨rfl, rfl⟩ (by kernel_rfl) rfl plain (by kernel_rfl)
#print axioms proved
end lawActivityCovers

end Go.Proofs.YtplgbapbgcipdaaGreatDoor
