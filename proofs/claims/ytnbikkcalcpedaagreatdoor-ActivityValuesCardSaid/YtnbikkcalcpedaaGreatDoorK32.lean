/-
  Texts of this claim, put together: Within, RAct31, Intvl, Memb31, ROut31, RIn31, RFound31, RIntv31, Right31.
-/
import Derived.Test.YtnbikkcalcpedaaGreatDoorK10
import Derived.Test.YtnbikkcalcpedaaGreatDoorK31
import Derived.Test.YtnbikkcalcpedaaGreatDoorK29
import Derived.Test.YtnbikkcalcpedaaGreatDoorK30
import Derived.Test.YtnbikkcalcpedaaGreatDoorK27
import Derived.Deep.RegionHeld3
import Derived.Test.YtnbikkcalcpedaaGreatDoorK21
import Derived.Test.YtnbikkcalcpedaaGreatDoorK20
import Derived.Test.YtnbikkcalcpedaaGreatDoorK14
import Derived.Test.YtnbikkcalcpedaaGreatDoorK25
import Derived.Test.YtnbikkcalcpedaaGreatDoorK24
/-! activity.within: a list in another one, but for some; slices.ContainsFunc at a function with two captured pointers. -/
namespace Go.Proofs.YtnbikkcalcpedaaGreatDoor
open Go.RowKit

set_option maxRecDepth 100000 in
set_option maxHeartbeats 2000000 in
theorem indexf2_any (F : Nat) (y1 y2 : Value) (eg : ∀ args w, (callFunc F args).run Tryz.prog w = .ok (.enter F args) w) (p : Int → Bool) (A : Option Addr) (c : Nat) (xs : List Int) (hn : xs.length ≤ 1048576) (w : World) (h : Reads w w.heap.size 1 A xs.length (ints xs))
    (hp : ∀ x ∈ xs, ∀ W, Below w.heap.size w W → Calls Tryz.prog F #[.int .i64 x, y1, y2] W fun e w' => e = .returned (.bool (p x)) ∧ Below W.heap.size W w') :
    Calls Tryz.prog 221 #[.slice A xs.length c, .func (.func F) #[] #[y1, y2]] w fun e w' => ∃ r : Int, e = .returned (.int .i64 r) ∧ decide (0 ≤ r) = xs.any p ∧ Below w.heap.size w w' := by
  have HP := Lib.hid hp
  obtain ⟨N, hN⟩ : ∃ N, xs.length = N := ⟨_, rfl⟩
  have HN := Lib.hid hN
  rw [hN] at h hn ⊢
  clear hp hN
  go_enter Tryz.func221, Tryz.ntmps221
  go_wp2
  go_loopw [8] (fun i wr => ∃ k : Nat, k ≤ N ∧ i = .int .i64 k ∧ Hid (∀ x ∈ xs.take k, p x = false) ∧ Hid (Below w.heap.size w wr)) (fun i _ => N - (intOf i).toNat)
  case atStart => exact ⟨0, by omega, rfl, by simp [Hid], Below.refl _ _⟩
  case round =>
    obtain ⟨k, hk, rfl, HS, HB⟩ := hrel
    by_cases hlt : k < N
    · obtain ⟨x, hx⟩ := get_of_lt (xs := xs) (k := k) (by rw [HN.out]; exact hlt)
      obtain ⟨b, off, rfl, hb, hcell⟩ := (h.below HB.out).at_ (ints_at hx)
      have hi : (k : Int) < (N : Int) := by omega
      have htk := take_snoc hx
      have PC := HP.out x (List.mem_of_getElem? hx) wr HB.out
      have HX := Lib.hid (List.mem_of_getElem? hx)
      cases hpx : p x
      · rw [hpx] at PC
        have PC := Lib.hid PC
        have HN1 : Hid (∀ x ∈ xs.take (k + 1), p x = false) := by
          rw [htk]
          intro z hz
          rcases List.mem_append.1 hz with hz | hz
          · exact HS.out z hz
          · rw [List.mem_singleton.1 hz]; exact hpx
        clear hx htk hpx h
        go_wp2_with fail
        refine (PC.out).mono ?_
        rintro e w2 ⟨rfl, hb2⟩
        have HB2 := Lib.hid (HB.out.trans (hb2.mono HB.out.size))
        go_wp2
        go_roundw
        case rel => exact ⟨k + 1, by omega, by go_num, HN1, HB2⟩
        case measure => simp [intOf]; omega
      · rw [hpx] at PC
        have PC := Lib.hid PC
        have HY := Lib.hid hpx
        clear hx htk hpx h
        go_wp2_with fail
        refine (PC.out).mono ?_
        rintro e w2 ⟨rfl, hb2⟩
        have HB2 := Lib.hid (HB.out.trans (hb2.mono HB.out.size))
        go_wp2
        go_ret
        exact ⟨k, rfl, by rw [List.any_eq_true.2 ⟨x, HX.out, HY.out⟩]; exact decide_eq_true (by omega), HB2.out⟩
    · obtain rfl : k = N := by omega
      have hf : ¬ (k : Int) < (k : Int) := by omega
      have HA : Hid (xs.any p = false) := List.any_eq_false.2 fun z hz => by
        rw [HS.out z (by rw [List.take_of_length_le (by rw [HN.out]; exact Nat.le_refl _)]; exact hz)]; simp
      go_wp2
      go_ret
      exact ⟨-1, rfl, by rw [HA.out]; decide, HB.out⟩
set_option maxHeartbeats 1000000 in
theorem containsf2_any (F : Nat) (y1 y2 : Value) (eg : ∀ args w, (callFunc F args).run Tryz.prog w = .ok (.enter F args) w) (p : Int → Bool) (A : Option Addr) (c : Nat) (xs : List Int) (hn : xs.length ≤ 1048576) (w : World) (h : Reads w w.heap.size 1 A xs.length (ints xs))
    (hp : ∀ x ∈ xs, ∀ W, Below w.heap.size w W → Calls Tryz.prog F #[.int .i64 x, y1, y2] W fun e w' => e = .returned (.bool (p x)) ∧ Below W.heap.size W w') :
    Calls Tryz.prog 164 #[.slice A xs.length c, .func (.func F) #[] #[y1, y2]] w fun e w' => e = .returned (.bool (xs.any p)) ∧ Below w.heap.size w w' := by
  have IC := Lib.hid (indexf2_any F y1 y2 eg p A c xs hn w h hp)
  obtain ⟨N, hN⟩ : ∃ N, xs.length = N := ⟨_, rfl⟩
  obtain ⟨r0, hr0⟩ : ∃ r, xs.any p = r := ⟨_, rfl⟩
  rw [hN, hr0] at IC
  rw [hN, hr0]
  clear hp eg h hN hr0 hn
  go_enter Tryz.func164, Tryz.ntmps164
  go_wp2_with fail
  refine (IC.out).mono ?_
  rintro e w2 ⟨r, rfl, hr, hb⟩
  go_wp2
  go_ret
  exact ⟨by rw [← hr]; rfl, hb⟩
/-- Whether all elements of a list are in another one, but for some. -/
def withinB (l o b : List Int) : Bool := !(l.any fun e => !decide (e ∈ o) && !decide (e ∈ b))
set_option maxRecDepth 100000 in
set_option maxHeartbeats 2000000 in
theorem withinL1_any (x : Int) (bo bb : Nat) (Ao : Option Addr) (co : Nat) (o : List Int) (ho : o.length ≤ 1048576) (Ab : Option Addr) (cb : Nat) (b : List Int) (hb : b.length ≤ 1048576) (w : World) (c0 : w.cell? ⟨bo, 0, none⟩ = some (.slice Ao o.length co)) (c1 : w.cell? ⟨bb, 0, none⟩ = some (.slice Ab b.length cb))
    (h0 : Reads w w.heap.size 1 Ao o.length (ints o)) (h1 : Reads w w.heap.size 1 Ab b.length (ints b)) :
    Calls Tryz.prog 165 #[.int .i64 x, .pointer (some ⟨bo, 0, none⟩), .pointer (some ⟨bb, 0, none⟩)] w fun e w' => e = .returned (.bool (!decide (x ∈ o) && !decide (x ∈ b))) ∧ Below w.heap.size w w' := by
  have OC := Lib.hid (contains_any Ao co o ho x w h0)
  have BC := Lib.hid (contains_any Ab cb b hb x w h1)
  obtain ⟨N, hN⟩ : ∃ N, o.length = N := ⟨_, rfl⟩
  obtain ⟨M, hM⟩ : ∃ N, b.length = N := ⟨_, rfl⟩
  rw [hN] at OC c0
  rw [hM] at BC c1
  obtain ⟨p, hp⟩ : ∃ p, decide (x ∈ o) = p := ⟨_, rfl⟩
  obtain ⟨q, hq⟩ : ∃ p, decide (x ∈ b) = p := ⟨_, rfl⟩
  rw [hp] at OC ⊢
  rw [hq] at BC ⊢
  clear hN hM hp hq ho hb h0 h1
  cases p
  · go_enter Tryz.func165, Tryz.ntmps165
    go_wp2_with fail
    refine (OC.out).mono ?_
    rintro e w1 ⟨rfl, rfl⟩
    go_wp2_with fail
    refine (BC.out).mono ?_
    rintro e w1 ⟨rfl, rfl⟩
    go_wp2
    go_ret
    exact ⟨rfl, Below.refl _ _⟩
  · go_enter Tryz.func165, Tryz.ntmps165
    go_wp2_with fail
    refine (OC.out).mono ?_
    rintro e w1 ⟨rfl, rfl⟩
    go_wp2
    go_ret
    exact ⟨rfl, Below.refl _ _⟩
set_option maxRecDepth 100000 in
set_option maxHeartbeats 2000000 in
theorem withinL_any (A : Option Addr) (c : Nat) (l : List Int) (hl : l.length ≤ 1048576) (Ao : Option Addr) (co : Nat) (o : List Int) (ho : o.length ≤ 1048576) (Ab : Option Addr) (cb : Nat) (b : List Int) (hb : b.length ≤ 1048576) (w : World)
    (h : Reads w w.heap.size 1 A l.length (ints l)) (h0 : Reads w w.heap.size 1 Ao o.length (ints o)) (h1 : Reads w w.heap.size 1 Ab b.length (ints b)) :
    Calls Tryz.prog 112 #[.slice A l.length c, .slice Ao o.length co, .slice Ab b.length cb] w fun e w' => e = .returned (.bool (withinB l o b)) ∧ Below w.heap.size w w' := by
  have g0 := (Blk.new w 25 #[.slice Ao o.length co]).alloc (.cells #[.slice Ab b.length cb] 25)
  have g1 := Blk.new (w.alloc (.cells #[.slice Ao o.length co] 25)) 25 #[.slice Ab b.length cb]
  rw [show (w.alloc (.cells #[.slice Ao o.length co] 25)).heap.size = w.heap.size + 1 from by simp] at g1
  have hB : Below w.heap.size w ((w.alloc (.cells #[.slice Ao o.length co] 25)).alloc (.cells #[.slice Ab b.length cb] 25)) := ((Below.refl _ _).alloc (Nat.le_refl _) _).alloc (by simp) _
  obtain ⟨W1, hW1⟩ : ∃ W1, (w.alloc (.cells #[.slice Ao o.length co] 25)).alloc (.cells #[.slice Ab b.length cb] 25) = W1 := ⟨_, rfl⟩
  rw [hW1] at g0 g1 hB
  have CC := Lib.hid (containsf2_any 165 (.pointer (some ⟨w.heap.size, 0, none⟩)) (.pointer (some ⟨w.heap.size + 1, 0, none⟩)) (enters_of Tryz.func165 (by kernel_rfl) rfl) (fun e => !decide (e ∈ o) && !decide (e ∈ b)) A c l hl W1 ((h.below hB).more hB.size)
    (fun x _ W hBW => withinL1_any x w.heap.size (w.heap.size + 1) Ao co o ho Ab cb b hb W (((g0.next hBW).cell 0).trans rfl) (((g1.next hBW).cell 0).trans rfl) ((h0.below (hB.trans (hBW.mono hB.size))).more (hB.trans (hBW.mono hB.size)).size) ((h1.below (hB.trans (hBW.mono hB.size))).more (hB.trans (hBW.mono hB.size)).size)))
  unfold withinB
  obtain ⟨r, hr⟩ : ∃ r, (l.any fun e => !decide (e ∈ o) && !decide (e ∈ b)) = r := ⟨_, rfl⟩
  rw [hr] at CC ⊢
  obtain ⟨N, hN⟩ : ∃ N, o.length = N := ⟨_, rfl⟩
  obtain ⟨M, hM⟩ : ∃ N, b.length = N := ⟨_, rfl⟩
  obtain ⟨L, hL⟩ : ∃ N, l.length = N := ⟨_, rfl⟩
  rw [hN, hM] at hW1
  rw [hL] at CC
  rw [hN, hM, hL]
  have HW1 := Lib.hid hW1
  clear hr hN hM hL hl ho hb h h0 h1 g0 g1 hW1
  go_enter Tryz.func112, Tryz.ntmps112
  go_wp2_with fail
  rw [HW1.out]
  refine (CC.out).mono ?_
  rintro e w2 ⟨rfl, hb⟩
  have hB2 := hB.trans (hb.mono hB.size)
  go_wp2
  go_ret
  exact ⟨rfl, hB2⟩
end Go.Proofs.YtnbikkcalcpedaaGreatDoor

/-! The reference's active single edges: Least, Inside, Outside, Internal, External. -/
namespace Go.Proofs.YtnbikkcalcpedaaGreatDoor
open Go.RowKit

end Go.Proofs.YtnbikkcalcpedaaGreatDoor

/-! activity.Interval: the tree in whose interval a set is, or the error. -/
namespace Go.Proofs.YtnbikkcalcpedaaGreatDoor
open Go.RowKit

theorem find_at {α : Type} {p : α → Bool} {l : List α} {k : Nat} {x : α} (h : ∀ y ∈ l.take k, p y = false) (hx : l[k]? = some x) (hp : p x = true) : l.find? p = some x := by
  obtain ⟨hk, he⟩ := List.getElem?_eq_some_iff.1 hx
  have hs : l = l.take k ++ x :: l.drop (k + 1) := by rw [← he, List.getElem_cons_drop, List.take_append_drop]
  rw [hs, List.find?_append, List.find?_eq_none.2 (fun y hy => by rw [h y hy]; decide), List.find?_cons_of_pos hp]
  rfl
/-- Whether a set is in the interval of a tree; what Interval returns. -/
def pickB (n : Int) (es : List E3) (set xs : List Int) : Bool := withinB xs set (intE n es xs).1 && withinB set xs (extE n es xs).1
def intvE (n : Int) (es : List E3) (set : List Int) : List Int × Int :=
  if joinErr n es ≠ 0 then ([], joinErr n es) else if edgErr (endsL es).length set ≠ 0 then ([], edgErr (endsL es).length set) else match (tallE n es).1.find? (pickB n es set) with
    | some xs => (xs, 0)
    | none => ([], 6)
set_option maxRecDepth 100000 in
set_option maxHeartbeats 4000000 in
theorem interval_any (n : Int) (A : Option Addr) (c : Nat) (es : List E3) (hn : es.length ≤ 10000) (hl : (tallE n es).1.length ≤ 16384) (hel : joinErr n es = 0 → (endsL es).length ≤ 1000000) (B : Option Addr) (d : Nat) (set : List Int) (hm : set.length ≤ 1048576) (w : World) (h : Reads w w.heap.size 3 A es.length (edgeCells es)) (h' : Reads w w.heap.size 1 B set.length (ints set)) :
    Calls Tryz.prog 53 #[.agg #[.int .i64 n, .slice A es.length c], .slice B set.length d] w fun e w' => ∃ A' c', e = .returned (.tuple #[.slice A' (intvE n es set).1.length c', .int .i64 (intvE n es set).2]) ∧ Reads w' w'.heap.size 1 A' (intvE n es set).1.length (ints (intvE n es set).1) ∧ Below w.heap.size w w' := by
  have g := Blk.new w 24 #[.int .i64 n, .slice A es.length c]
  have hB : Below w.heap.size w (w.alloc (.cells #[.int .i64 n, .slice A es.length c] 24)) := (Below.refl _ _).alloc (Nat.le_refl _) _
  have k0 := g.cell 0
  have k1 := g.cell 1
  obtain ⟨M, hM⟩ : ∃ M, set.length = M := ⟨_, rfl⟩
  by_cases hck : checkG n es = 0
  · have hlo := (right_of hck).lo
    obtain ⟨m, rfl⟩ := Int.eq_ofNat_of_zero_le (show 0 ≤ n by omega)
    have CC := Lib.hid (fun (W : World) (hB : Below w.heap.size w W) => connected_ok m A c es (by omega) hck W ((h.below hB).more hB.size))
    cases hcn : connB m es
    · have hj : joinErr m es = 13 := by unfold joinErr; rw [if_neg (fun hc => hc hck), Int.toNat_natCast, if_pos hcn]
      have hE : intvE m es set = ([], 13) := by unfold intvE; rw [hj, if_pos (by decide)]
      rw [hE, hM]
      rw [hcn] at CC
      dsimp only
      clear hck hlo hcn hj hE hM h h' hl hel
      go_enter Tryz.func53, Tryz.ntmps53
      go_wp2_with fail
      refine (CC.out _ hB).mono ?_
      rintro e wn ⟨rfl, hb⟩
      have hB := hB.trans (hb.mono hB.size)
      go_wp2
      go_ret2
      exact ⟨none, 0, rfl, Reads.nil_, hB⟩
    · have hj : joinErr m es = 0 := by unfold joinErr; rw [if_neg (fun hc => hc hck), Int.toNat_natCast, if_neg (by rw [hcn]; decide)]
      rw [hcn] at CC
      have DC := Lib.hid (fun (W : World) (hB : Below w.heap.size w W) => cedges_any m A c es hn hck B d set hm W ((h.below hB).more hB.size) ((h'.below hB).more hB.size))
      have hE0 : intvE m es set = if edgErr (endsL es).length set ≠ 0 then ([], edgErr (endsL es).length set) else match (tallE m es).1.find? (pickB m es set) with
        | some xs => (xs, 0)
        | none => ([], 6) := by unfold intvE; rw [if_neg (fun hc => hc hj)]
      rw [hE0]
      by_cases hz : edgErr (endsL es).length set = 0
      · rw [if_neg (fun hc => hc hz)]
        rw [hz] at DC
        have hTE : tallE m es = ((tallE m es).1, 0) := by unfold tallE; rw [if_neg (fun hc => hc hj)]
        obtain ⟨xss, hxs⟩ : ∃ xss, (tallE m es).1 = xss := ⟨_, rfl⟩
        have AC := Lib.hid (fun (W : World) (hB : Below w.heap.size w W) => tall_any m A c es hn hl W ((h.below hB).more hB.size))
        rw [hTE] at AC
        dsimp only at AC
        rw [hxs] at AC hl
        rw [hxs]
        have hTr : ∀ xs ∈ xss, xs.length ≤ 11 ∧ treeErr m es xs = 0 ∧ (intE m es xs).1.length ≤ 1048576 ∧ (extE m es xs).1.length ≤ 1048576 := by
          intro xs hx
          rw [← hxs] at hx
          unfold tallE at hx
          rw [if_neg (fun hc => hc hj), Int.toNat_natCast] at hx
          obtain ⟨t, ht, rfl⟩ := List.mem_map.1 hx
          have hb := bd_ends (right_of hck)
          have hT := ((treesT_spec hb (by omega)).1 t).1 ht
          have hz2 : treeErr m es (nI t) = 0 := tree_ok hj hT
          have hhi := (right_of hck).hi
          have h3 := hT.len
          have hel := hel hj
          refine ⟨by rw [nI_length]; omega, hz2, ?_, ?_⟩
          · unfold intE; rw [if_pos hz2, toN_nI]
            show (nI _).length ≤ _
            rw [nI_length]
            have : (insA (endsL es) t).length ≤ t.length := List.length_filter_le _ _
            omega
          · unfold extE; rw [if_pos hz2, toN_nI]
            show (nI _).length ≤ _
            rw [nI_length]
            have : (outA (endsL es) t).length ≤ (List.range (endsL es).length).length := List.length_filter_le _ _
            rw [List.length_range] at this
            omega
        have HT := Lib.hid hTr
        have HH := Lib.hid h
        have HS' := Lib.hid h'
        have HM := Lib.hid hM
        have HHM := Lib.hid hm
        rw [hM]
        rw [hM] at DC
        obtain ⟨N, hN⟩ : ∃ N, xss.length = N := ⟨_, rfl⟩
        have HN := Lib.hid hN
        have hNb : N ≤ 16384 := by omega
        rw [hN] at AC
        obtain ⟨R, hR⟩ : ∃ R : List Int × Int, (match xss.find? (pickB m es set) with | some xs => (xs, 0) | none => ([], 6)) = R := ⟨_, rfl⟩
        rw [hR]
        have HR := Lib.hid hR
        clear hTr hxs hTE hE0 hz hN hR hM h h' hm hl hel hck hlo hcn hj
        go_enter Tryz.func53, Tryz.ntmps53
        go_wp2_with fail
        refine (CC.out _ hB).mono ?_
        rintro e wn ⟨rfl, hb⟩
        have g := g.next hb
        have hB := hB.trans (hb.mono hB.size)
        have k0 := g.cell 0
        have k1 := g.cell 1
        clear hb
        go_wp2_with fail
        refine (DC.out _ hB).mono ?_
        rintro e wn ⟨rfl, hb⟩
        have g := g.next hb
        have hB := hB.trans (hb.mono hB.size)
        have k0 := g.cell 0
        have k1 := g.cell 1
        clear hb
        go_wp2_with fail
        refine (AC.out _ hB).mono ?_
        rintro e w1 ⟨Ar, cr, vs, rfl, hrows, hb⟩
        have g := g.next hb
        have hB := hB.trans (hb.mono hB.size)
        have hRo := hrows.reads
        clear hb hrows k0 k1
        go_wp2
        go_loopw [4, 5, 11, 12, 13, 14, 43] (fun _ _ _ _ _ _ i wr => ∃ k : Nat, k ≤ N ∧ i = .int .i64 k ∧ Below w1.heap.size w1 wr ∧ Hid (∀ y ∈ xss.take k, pickB m es set y = false)) (fun _ _ _ _ _ _ i _ => N - (intOf i).toNat)
        case atStart => exact ⟨0, by omega, rfl, Below.refl _ _, by simp [Hid]⟩
        case round =>
          obtain ⟨k, hk, rfl, hb1, HSE⟩ := hrel
          have hBr : Below w.heap.size w wr := hB.trans (hb1.mono hB.size)
          by_cases hlt : k < N
          · have hi : (k : Int) < (N : Int) := by omega
            obtain ⟨xs, hxs⟩ : ∃ xs, xss[k]? = some xs := ⟨_, List.getElem?_eq_getElem (by rw [HN.out]; exact hlt)⟩
            obtain ⟨t1, t2, t3, t4⟩ := HT.out xs (List.mem_of_getElem? hxs)
            obtain ⟨b', off', A0, c0, rfl, hb', hc', hr0⟩ := (hRo.below hb1).at_ hxs
            have hr0 := hr0.more hb1.size
            have gk := g.below hb1 g.lt
            have k0 := gk.cell 0
            have k1 := gk.cell 1
            have hh := (HH.out.below hBr).more hBr.size
            have hs' := (HS'.out.below hBr).more hBr.size
            have BC := Lib.hid (both_any m A c es hn A0 c0 xs (by omega) wr hh hr0)
            rw [t2] at BC
            have HX := Lib.hid hxs
            have HR0 := Lib.hid hr0
            have HSS := Lib.hid hs'
            obtain ⟨ins, hins⟩ : ∃ l, (intE m es xs).1 = l := ⟨_, rfl⟩
            obtain ⟨exs, hexs⟩ : ∃ l, (extE m es xs).1 = l := ⟨_, rfl⟩
            have HP : Hid (pickB m es set xs = (withinB xs set ins && withinB set xs exs)) := by rw [Hid, ← hins, ← hexs]; rfl
            rw [hins] at BC t3
            rw [hexs] at BC t4
            obtain ⟨L, hL⟩ : ∃ L, xs.length = L := ⟨_, rfl⟩
            obtain ⟨LI, hLI⟩ : ∃ L, ins.length = L := ⟨_, rfl⟩
            obtain ⟨LE, hLE⟩ : ∃ L, exs.length = L := ⟨_, rfl⟩
            have W1 := Lib.hid (fun (A1 : Option Addr) (c1 : Nat) (W : World) (h1 : Reads W W.heap.size 1 A0 xs.length (ints xs)) (h2 : Reads W W.heap.size 1 B set.length (ints set)) (h3 : Reads W W.heap.size 1 A1 ins.length (ints ins)) => withinL_any A0 c0 xs (by omega) B d set HHM.out A1 c1 ins t3 W h1 h2 h3)
            have W2 := Lib.hid (fun (A1 : Option Addr) (c1 : Nat) (W : World) (h1 : Reads W W.heap.size 1 A0 xs.length (ints xs)) (h2 : Reads W W.heap.size 1 B set.length (ints set)) (h3 : Reads W W.heap.size 1 A1 exs.length (ints exs)) => withinL_any B d set HHM.out A0 c0 xs (by omega) A1 c1 exs t4 W h2 h1 h3)
            obtain ⟨p, hp⟩ : ∃ p, withinB xs set ins = p := ⟨_, rfl⟩
            obtain ⟨q, hq⟩ : ∃ p, withinB set xs exs = p := ⟨_, rfl⟩
            rw [hp, hq] at HP
            rw [hp, HM.out, hL, hLI] at W1
            rw [hq, HM.out, hL, hLE] at W2
            rw [hL, hLI, hLE] at BC
            rw [hL] at hc'
            rw [hL] at HR0
            rw [HM.out] at HSS
            have HL := Lib.hid hL
            clear hxs t1 t2 t3 t4 hr0 hh hs' hins hexs hL hp hq
            go_wp2_with fail
            refine (BC.out).mono ?_
            rintro e wm ⟨A1, c1, A2, c2, rfl, o1, o2, hb2⟩
            have r1 := o1.reads
            have r2 := o2.reads
            rw [hLI] at r1
            rw [hLE] at r2
            have hR1 := HR0.out.next hb2
            have hS1 := HSS.out.next hb2
            have hbm := hb1.trans (hb2.mono hb1.size)
            have W1 := Lib.hid (W1.out A1 c1 wm hR1 hS1 r1)
            have W2 := Lib.hid (fun (W : World) (hb3 : Below wm.heap.size wm W) => W2.out A2 c2 W (hR1.next hb3) (hS1.next hb3) (r2.next hb3))
            have HR1 := Lib.hid hR1
            have htk := take_snoc HX.out
            have HTK : Hid (pickB m es set xs = false → ∀ y ∈ xss.take (k + 1), pickB m es set y = false) := fun hpf => by
              rw [htk]
              intro y hy
              rcases List.mem_append.1 hy with hy | hy
              · exact HSE.out y hy
              · rw [List.mem_singleton] at hy; rw [hy]; exact hpf
            clear htk hR1 hS1 r1 r2 o1 o2
            cases p
            · have HF : Hid (∀ y ∈ xss.take (k + 1), pickB m es set y = false) := HTK.out (by rw [HP.out]; rfl)
              clear HP HTK
              go_wp2_with fail
              refine (W1.out).mono ?_
              rintro e wn2 ⟨rfl, hb3⟩
              have hbn := hbm.trans (hb3.mono hbm.size)
              go_wp2
              go_roundw
              case rel => exact ⟨k + 1, by omega, by go_num, hbn, HF⟩
              case measure => simp [intOf]; omega
            · cases q
              · have HF : Hid (∀ y ∈ xss.take (k + 1), pickB m es set y = false) := HTK.out (by rw [HP.out]; rfl)
                clear HP HTK
                go_wp2_with fail
                refine (W1.out).mono ?_
                rintro e wn2 ⟨rfl, hb3⟩
                have hbn := hbm.trans (hb3.mono hbm.size)
                have W3 := Lib.hid (W2.out wn2 hb3)
                go_wp2_with fail
                refine (W3.out).mono ?_
                rintro e wn3 ⟨rfl, hb4⟩
                have hbn2 := hbn.trans (hb4.mono hbn.size)
                go_wp2
                go_roundw
                case rel => exact ⟨k + 1, by omega, by go_num, hbn2, HF⟩
                case measure => simp [intOf]; omega
              · have HE : Hid (R = (xs, 0)) := by
                  rw [Hid, ← HR.out, find_at HSE.out HX.out (by rw [HP.out]; rfl)]
                clear HP HTK HR
                go_wp2_with fail
                refine (W1.out).mono ?_
                rintro e wn2 ⟨rfl, hb3⟩
                have hbn := hbm.trans (hb3.mono hbm.size)
                have W3 := Lib.hid (W2.out wn2 hb3)
                have HR2 := Lib.hid (HR1.out.next hb3)
                go_wp2_with fail
                refine (W3.out).mono ?_
                rintro e wn3 ⟨rfl, hb4⟩
                have hbn2 := hbn.trans (hb4.mono hbn.size)
                have HR3 := Lib.hid (HR2.out.next hb4)
                go_wp2
                go_ret2
                rw [HE.out]
                refine ⟨A0, c0, by dsimp only; rw [HL.out]; rfl, ?_, hB.trans (hbn2.mono hB.size)⟩
                dsimp only
                rw [HL.out]
                exact HR3.out
          · obtain rfl : k = N := by omega
            have hf : ¬ (k : Int) < (k : Int) := by omega
            have hfn : xss.find? (pickB m es set) = none := List.find?_eq_none.2 fun y hy => by
              rw [HSE.out y (by rw [List.take_of_length_le (by rw [HN.out]; exact Nat.le_refl _)]; exact hy)]; decide
            have HE : Hid (R = ([], 6)) := by rw [Hid, ← HR.out, hfn]
            clear hfn HR
            go_wp2
            go_ret2
            rw [HE.out]
            exact ⟨none, ⟨0, rfl⟩, Reads.nil_, hBr⟩
      · rw [if_pos hz, hM]
        rw [hM] at DC
        obtain ⟨z, hzz⟩ : ∃ z, edgErr (endsL es).length set = z := ⟨_, rfl⟩
        rw [hzz] at DC hz ⊢
        have hzb : (z != 0) = true := by simpa using hz
        dsimp only
        clear hck hlo hcn hj hE0 hM h h' hl hel hz hzz
        go_enter Tryz.func53, Tryz.ntmps53
        go_wp2_with fail
        refine (CC.out _ hB).mono ?_
        rintro e wn ⟨rfl, hb⟩
        have g := g.next hb
        have hB := hB.trans (hb.mono hB.size)
        have k0 := g.cell 0
        have k1 := g.cell 1
        clear hb
        go_wp2_with fail
        refine (DC.out _ hB).mono ?_
        rintro e wn ⟨rfl, hb⟩
        have hB := hB.trans (hb.mono hB.size)
        go_wp2
        go_ret2
        exact ⟨none, 0, rfl, Reads.nil_, hB⟩
  · have hj : joinErr n es = checkG n es := by unfold joinErr; rw [if_pos hck]
    have hE : intvE n es set = ([], checkG n es) := by unfold intvE; rw [hj, if_pos hck]
    have CC := Lib.hid (fun (W : World) (hB : Below w.heap.size w W) => connected_bad n A c es (by omega) hck W ((h.below hB).more hB.size))
    rw [hE, hM]
    obtain ⟨z, hzz⟩ : ∃ z, checkG n es = z := ⟨_, rfl⟩
    rw [hzz] at CC hck ⊢
    have hzb : (z != 0) = true := by simpa using hck
    dsimp only
    clear hck hj hE hM h h' hl hzz hel
    go_enter Tryz.func53, Tryz.ntmps53
    go_wp2_with fail
    refine (CC.out _ hB).mono ?_
    rintro e wn ⟨rfl, hb⟩
    have hB := hB.trans (hb.mono hB.size)
    go_wp2
    go_ret2
    exact ⟨none, 0, rfl, Reads.nil_, hB⟩
end Go.Proofs.YtnbikkcalcpedaaGreatDoor

/-! activity.Members: two to the number of the active single edges. -/
namespace Go.Proofs.YtnbikkcalcpedaaGreatDoor
open Go.RowKit
end Go.Proofs.YtnbikkcalcpedaaGreatDoor

/-! The reference's active single edges: Outside, Internal, External. -/
namespace Go.Proofs.YtnbikkcalcpedaaGreatDoor
open Go.RowKit
end Go.Proofs.YtnbikkcalcpedaaGreatDoor

/-! The reference's In: whether a set is in the interval of a tree. -/
namespace Go.Proofs.YtnbikkcalcpedaaGreatDoor
open Go.RowKit

end Go.Proofs.YtnbikkcalcpedaaGreatDoor

/-! The reference's Found and Interval. -/
namespace Go.Proofs.YtnbikkcalcpedaaGreatDoor
open Go.RowKit

end Go.Proofs.YtnbikkcalcpedaaGreatDoor

/-! The reference's Interval. -/
namespace Go.Proofs.YtnbikkcalcpedaaGreatDoor
open Go.RowKit

end Go.Proofs.YtnbikkcalcpedaaGreatDoor

/-! right of sandpilelaw31; the set that bits tell; the number of sets in all intervals. -/
namespace Go.Proofs.YtnbikkcalcpedaaGreatDoor
open Go.RowKit

set_option maxHeartbeats 1000000 in
theorem right31_any (n : Int) (A : Option Addr) (c : Nat) (es : List E3) (w : World) (h : Reads w w.heap.size 3 A es.length (edgeCells es)) :
    Calls Tryz.prog 11 #[.agg #[.int .i64 n, .slice A es.length c]] w fun e w' => e = .returned (.bool (smallB n es 5 8 && decide (joinErr n es = 0))) ∧ Below w.heap.size w w' := by
  have FC := Lib.hid (fun (W : World) (hB : Below w.heap.size w W) => rfewtrees_any n A c es W ((h.below hB).more hB.size))
  have g := Blk.new w 24 #[.int .i64 n, .slice A es.length c]
  have hB : Below w.heap.size w (w.alloc (.cells #[.int .i64 n, .slice A es.length c] 24)) := (Below.refl _ _).alloc (Nat.le_refl _) _
  have k0 := g.cell 0
  have k1 := g.cell 1
  cases hf : smallB n es 5 8
  · rw [hf] at FC
    rw [Bool.false_and]
    clear hf h
    go_enter Tryz.func11, Tryz.ntmps11
    go_wp2_with fail
    refine (FC.out _ hB).mono ?_
    rintro e wn ⟨rfl, hb⟩
    have hB := hB.trans (hb.mono hB.size)
    go_wp2
    go_ret
    exact ⟨rfl, hB⟩
  · rw [hf] at FC
    rw [Bool.true_and]
    obtain ⟨h40, _, _⟩ := few13_parts (n := n) (es := es) (m := 0) (by unfold few13; rw [hf]; rfl)
    have JC := Lib.hid (fun (W : World) (hB : Below w.heap.size w W) => rjoinedErr_any n A c es (by omega) W ((h.below hB).more hB.size))
    obtain ⟨z, hz⟩ : ∃ z, joinErr n es = z := ⟨_, rfl⟩
    rw [hz] at JC ⊢
    have HD : Hid (decide (z = 0) = (z == 0)) := by
      rw [Hid]
      by_cases h0 : z = 0
      · subst h0; rfl
      · rw [decide_eq_false h0]; simp [h0]
    clear hf h h40 hz
    go_enter Tryz.func11, Tryz.ntmps11
    go_wp2_with fail
    refine (FC.out _ hB).mono ?_
    rintro e wn ⟨rfl, hb⟩
    have g := g.next hb
    have hB := hB.trans (hb.mono hB.size)
    have k0 := g.cell 0
    have k1 := g.cell 1
    clear hb
    go_wp2_with fail
    refine (JC.out _ hB).mono ?_
    rintro e wn ⟨rfl, hb⟩
    have hB := hB.trans (hb.mono hB.size)
    go_wp2
    go_ret
    exact ⟨by rw [HD.out]; rfl, hB⟩
end Go.Proofs.YtnbikkcalcpedaaGreatDoor

