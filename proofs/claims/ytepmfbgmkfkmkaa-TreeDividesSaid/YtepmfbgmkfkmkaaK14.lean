/-
  Texts of this claim, put together: TPath, Funcs, Has, TCyc, OwnSet.
-/
import Derived.Test.YtepmfbgmkfkmkaaK13
import Derived.Test.YtepmfbgmkfkmkaaK03
import Derived.WalkKit
import Derived.Deep.QuietTactic
import Derived.BigQuiet
import Derived.BigRegion
import Derived.Test.YtepmfbgmkfkmkaaK09
import Derived.Test.YtepmfbgmkfkmkaaK04
/-! Package tree: vertex, Path, Parents. -/
namespace Go.Proofs.Ytepmfbgmkfkmkaa
open Go.RowKit

/-- A list of ints as numbers. -/
abbrev toN (xs : List Int) : List Nat := xs.map Int.toNat
theorem toN_nI (t : List Nat) : toN (nI t) = t := by
  unfold toN nI
  rw [List.map_map]
  conv => rhs; rw [← List.map_id t]
  exact List.map_congr_left fun x _ => by simp
/-- What Path returns. -/
def pathE (n : Int) (es : List E3) (xs : List Int) (a b : Int) : List Int × Int := if treeErr n es xs ≠ 0 then ([], treeErr n es xs) else if vertB n a && vertB n b then (nI (pathL (endsL es) (toN xs) a.toNat b.toNat), 0) else ([], 2)

set_option maxHeartbeats 1000000 in
theorem tvertex_any (n v : Int) (A : Option Addr) (k c : Nat) (w : World) :
    Calls Try.prog 52 #[.agg #[.int .i64 n, .slice A k c], .int .i64 v] w fun e w' => e = .returned (.bool (vertB n v)) ∧ Below w.heap.size w w' := by
  have g0 := Blk.new w 24 #[.int .i64 n, .slice A k c]
  have hb0 : Below w.heap.size w (w.alloc (.cells #[.int .i64 n, .slice A k c] 24)) := (Below.refl _ _).alloc (Nat.le_refl _) _
  have c0 := g0.cell 0
  unfold vertB
  by_cases h1 : 0 ≤ v
  · by_cases h2 : v < n
    · rw [decide_eq_true h1, decide_eq_true h2]
      have hd := decide_eq_true h2
      go_enter Try.func52, Try.ntmps52
      go_wp2
      go_ret
      exact ⟨rfl, hb0⟩
    · rw [decide_eq_true h1, decide_eq_false h2]
      have hd := decide_eq_false h2
      go_enter Try.func52, Try.ntmps52
      go_wp2
      go_ret
      exact ⟨rfl, hb0⟩
  · rw [decide_eq_false h1, Bool.false_and]
    have hd := decide_eq_false h1
    go_enter Try.func52, Try.ntmps52
    go_wp2
    go_ret
    exact ⟨rfl, hb0⟩

/-- What a right tree brings. -/
structure TreeR (m : Nat) (es : List E3) (t : List Nat) : Prop where
  hG : RightG m es
  hT : FoE m (endsL es) t
  tr : IsTr m (endsL es) t
  lo : 1 ≤ m
  hi : m ≤ 12
theorem TreeR.cn {m : Nat} {es : List E3} {t : List Nat} (h : TreeR m es t) {a b : Nat} (ha : a < m) (hb : b < m) : Cn (pk (endsL es) t) a b := h.tr.cn h.hT.bd ha hb
theorem TreeR.len {m : Nat} {es : List E3} {t : List Nat} (h : TreeR m es t) : t.length ≤ 12 := by have := h.tr.len; have := h.hi; omega
theorem treeR_of {n : Int} {es : List E3} {xs : List Int} (h : treeErr n es xs = 0) : ∃ (m : Nat) (t : List Nat), n = m ∧ xs = nI t ∧ TreeR m es t := by
  obtain ⟨m, t, h1, h2, h3, h4, h5, h6, h7, _⟩ := tree_zero h
  exact ⟨m, t, h1, h2, h3, h5.foe h4, h5, h6, h7⟩

set_option maxRecDepth 100000 in
set_option maxHeartbeats 4000000 in
theorem tpath_any (n : Int) (A : Option Addr) (c : Nat) (es : List E3) (hn : es.length ≤ 10000) (B : Option Addr) (d : Nat) (xs : List Int) (hm : xs.length ≤ 1048576) (a b : Int) (w : World) (h : Reads w w.heap.size 3 A es.length (edgeCells es)) (h' : Reads w w.heap.size 1 B xs.length (ints xs)) :
    Calls Try.prog 17 #[.agg #[.int .i64 n, .slice A es.length c], .slice B xs.length d, .int .i64 a, .int .i64 b] w fun e w' => ∃ A' c', e = .returned (.tuple #[.slice A' (pathE n es xs a b).1.length c', .int .i64 (pathE n es xs a b).2]) ∧ OwnI w' w.heap.size A' c' (pathE n es xs a b).1 ∧ Below w.heap.size w w' := by
  have GC := Lib.hid (fun (W : World) (hB : Below w.heap.size w W) => checked_any n A c es hn B d xs hm W ((h.below hB).more hB.size) ((h'.below hB).more hB.size))
  have g0 := Blk.new w 24 #[.int .i64 n, .slice A es.length c]
  have hb0 : Below w.heap.size w (w.alloc (.cells #[.int .i64 n, .slice A es.length c] 24)) := (Below.refl _ _).alloc (Nat.le_refl _) _
  have c0 := g0.cell 0
  have c1 := g0.cell 1
  have VA := Lib.hid (fun W => tvertex_any n a A es.length c W)
  have VB := Lib.hid (fun W => tvertex_any n b A es.length c W)
  by_cases hj : treeErr n es xs = 0
  · obtain ⟨m, t, rfl, rfl, hR⟩ := treeR_of hj
    rw [hj] at GC
    have HE : Hid (pathE m es (nI t) a b = if vertB m a && vertB m b then (nI (pathL (endsL es) t a.toNat b.toNat), 0) else ([], 2)) := by
      unfold Hid pathE
      rw [if_neg (fun hc => hc hj), toN_nI]
    rw [HE.out]
    have hnl := nI_length t
    have HR := Lib.hid hR
    by_cases hva : vertB m a = true
    · by_cases hvb : vertB m b = true
      · have h1 := (vertB_true.1 hva)
        have h2 := (vertB_true.1 hvb)
        obtain ⟨p, rfl⟩ := Int.eq_ofNat_of_zero_le h1.1
        obtain ⟨q, rfl⟩ := Int.eq_ofNat_of_zero_le h2.1
        rw [hva, hvb] at HE
        rw [hva] at VA
        rw [hvb] at VB
        have WC := Lib.hid (fun (Ar : Option Addr) (cr : Nat) (W : World) (hB : Below w.heap.size w W) (hr : Reads W W.heap.size 2 Ar (endsL es).length (pair2 (endsL es))) => way_any m hR.hi p q (by omega) (endsL es) t hR.hT hR.len (hR.cn (by omega) (by omega)) Ar cr B d W hr (by rw [← hnl]; exact (h'.below hB).more hB.size))
        rw [hva, hvb, Bool.and_true, if_pos rfl]
        simp only [Int.toNat_natCast]
        obtain ⟨R, hRR⟩ : ∃ R, pathL (endsL es) t p q = R := ⟨_, rfl⟩
        rw [hRR] at WC ⊢
        obtain ⟨E, hE⟩ : ∃ E, endsL es = E := ⟨_, rfl⟩
        rw [hE] at GC WC
        rw [hnl] at GC h' ⊢
        clear hj hR hva hvb h1 h2 hRR hE HE HR
        go_enter Try.func17, Try.ntmps17
        go_wp2_with fail
        refine (GC.out _ hb0).mono ?_
        rintro e w1 ⟨Ar, lr, cr, rfl, hg1, _, hb1⟩
        obtain ⟨rfl, HQ⟩ := hg1 rfl
        have HQ : Hid (OwnQ w1 w.heap.size Ar cr E) := own_rebase2 HQ hb0.size
        have B1 := hb0.trans (hb1.mono hb0.size)
        have g1 := g0.next hb1
        have c0 := g1.cell 0
        have c1 := g1.cell 1
        clear g0 hb0 hb1
        go_wp2_with first
          | (go_at_call 52; (with_reducible refine (VA.out _).mono ?_); rintro e w2 ⟨rfl, hb2⟩; have g2 := g1.next hb2; have k0 := g2.cell 0; have k1 := g2.cell 1)
          | (go_at_call 52; (with_reducible refine (VB.out _).mono ?_); rintro e w3 ⟨rfl, hb3⟩; have g3 := g2.next hb3; have j0 := g3.cell 0; have j1 := g3.cell 1)
          | fail
        have B3 := B1.trans ((hb2.mono B1.size).trans (hb3.mono (B1.trans (hb2.mono B1.size)).size))
        have HQ3 : Hid (OwnQ w3 w.heap.size Ar cr E) := own_kept2 HQ.out fun j hj => by
          have hl := (World.ownsRow.lt HQ.out j (blockOf_own.2 hj)).2
          exact (hb3.block j (Nat.lt_of_lt_of_le hl hb2.size)).trans (hb2.block j hl)
        refine (WC.out Ar cr w3 B3 (OwnQ.reads HQ3.out)).mono ?_
        rintro e w4 ⟨A4, c4, rfl, o4, hb4⟩
        go_wp2
        go_ret2
        exact ⟨A4, c4, by rw [nI_length]; rfl, o4.mono B3.size, B3.trans (hb4.mono B3.size)⟩
      · have hvb' : vertB m b = false := by simpa using hvb
        rw [hva] at VA
        rw [hvb'] at VB
        rw [hva, hvb', Bool.and_false]
        obtain ⟨E, hE⟩ : ∃ E, endsL es = E := ⟨_, rfl⟩
        rw [hE] at GC
        rw [hnl] at GC h' ⊢
        clear hj hR hva hvb hvb' hE HE HR
        go_enter Try.func17, Try.ntmps17
        go_wp2_with fail
        refine (GC.out _ hb0).mono ?_
        rintro e w1 ⟨Ar, lr, cr, rfl, hg1, _, hb1⟩
        obtain ⟨rfl, HQ⟩ := hg1 rfl
        have B1 := hb0.trans (hb1.mono hb0.size)
        have g1 := g0.next hb1
        have c0 := g1.cell 0
        have c1 := g1.cell 1
        clear g0 hb0 hb1 HQ
        go_wp2_with first
          | (go_at_call 52; (with_reducible refine (VA.out _).mono ?_); rintro e w2 ⟨rfl, hb2⟩; have g2 := g1.next hb2; have k0 := g2.cell 0; have k1 := g2.cell 1)
          | (go_at_call 52; (with_reducible refine (VB.out _).mono ?_); rintro e w3 ⟨rfl, hb3⟩; have g3 := g2.next hb3; have j0 := g3.cell 0; have j1 := g3.cell 1)
        go_ret2
        exact ⟨none, 0, rfl, OwnI.nil_ _ _, B1.trans ((hb2.mono B1.size).trans (hb3.mono (B1.trans (hb2.mono B1.size)).size))⟩
    · have hva' : vertB m a = false := by simpa using hva
      rw [hva'] at VA
      rw [hva', Bool.false_and]
      obtain ⟨E, hE⟩ : ∃ E, endsL es = E := ⟨_, rfl⟩
      rw [hE] at GC
      rw [hnl] at GC h' ⊢
      clear hj hR hva hva' hE HE HR
      go_enter Try.func17, Try.ntmps17
      go_wp2_with fail
      refine (GC.out _ hb0).mono ?_
      rintro e w1 ⟨Ar, lr, cr, rfl, hg1, _, hb1⟩
      obtain ⟨rfl, HQ⟩ := hg1 rfl
      have B1 := hb0.trans (hb1.mono hb0.size)
      have g1 := g0.next hb1
      have c0 := g1.cell 0
      have c1 := g1.cell 1
      clear g0 hb0 hb1 HQ
      go_wp2_with (go_at_call 52; (with_reducible refine (VA.out _).mono ?_); rintro e w2 ⟨rfl, hb2⟩)
      go_ret2
      exact ⟨none, 0, rfl, OwnI.nil_ _ _, B1.trans (hb2.mono B1.size)⟩
  · have HE : Hid (pathE n es xs a b = ([], treeErr n es xs)) := by unfold Hid pathE; rw [if_pos hj]
    rw [HE.out]
    obtain ⟨z, hzz⟩ : ∃ z, treeErr n es xs = z := ⟨_, rfl⟩
    rw [hzz] at GC hj ⊢
    have hb : (z != 0) = true := by simpa using hj
    have HZ := Lib.hid hj
    clear hj hzz HE
    go_enter Try.func17, Try.ntmps17
    go_wp2_with fail
    refine (GC.out _ hb0).mono ?_
    rintro e w1 ⟨Ar, lr, cr, rfl, _, hg2, hb1⟩
    obtain ⟨rfl, rfl⟩ := hg2 HZ.out
    go_wp2
    go_ret2
    exact ⟨none, 0, rfl, OwnI.nil_ _ _, hb0.trans (hb1.mono hb0.size)⟩

/-! Parents. -/
def parV (E : List (Nat × Nat)) (t : List Nat) (r v : Nat) : Int := if v = r then -1 else match parE E t r v with
  | some e => (e : Int)
  | none => -2
def parTo (n : Nat) (E : List (Nat × Nat)) (t : List Nat) (r k : Nat) : List Int := (List.range n).map fun v : Nat => if v < k then parV E t r v else 0
theorem parTo_length (n : Nat) (E : List (Nat × Nat)) (t : List Nat) (r k : Nat) : (parTo n E t r k).length = n := by simp [parTo]
theorem parTo_zero (n : Nat) (E : List (Nat × Nat)) (t : List Nat) (r : Nat) : parTo n E t r 0 = List.replicate n 0 := by
  apply List.ext_getElem?
  intro i
  unfold parTo
  by_cases hi : i < n
  · simp [hi]
  · simp [hi]
theorem parTo_all (n : Nat) (E : List (Nat × Nat)) (t : List Nat) (r : Nat) : parTo n E t r n = parentsL n E t r := by
  unfold parTo parentsL
  apply List.map_congr_left
  intro v hv
  rw [if_pos (List.mem_range.1 hv)]; rfl
theorem parTo_succ {n : Nat} {E : List (Nat × Nat)} {t : List Nat} {r k : Nat} (hk : k < n) : parTo n E t r (k + 1) = (parTo n E t r k).set k (parV E t r k) := by
  apply List.ext_getElem?
  intro i
  by_cases hi : i < n
  · unfold parTo
    by_cases h : i = k
    · subst h
      rw [List.getElem?_set_self (by simpa using hi), List.getElem?_map, List.getElem?_range hi]
      simp
    · rw [List.getElem?_set_ne (fun e => h e.symm), List.getElem?_map, List.getElem?_map, List.getElem?_range hi]
      simp only [Option.map_some]
      by_cases h2 : i < k
      · rw [if_pos h2, if_pos (by omega)]
      · rw [if_neg h2, if_neg (by omega)]
  · rw [List.getElem?_eq_none (by rw [parTo_length]; omega), List.getElem?_eq_none (by rw [List.length_set, parTo_length]; omega)]
/-- What Parents returns. -/
def parentsE (n : Int) (es : List E3) (xs : List Int) (r : Int) : List Int × Int := if treeErr n es xs ≠ 0 then ([], treeErr n es xs) else if vertB n r then (parentsL n.toNat (endsL es) (toN xs) r.toNat, 0) else ([], 2)
end Go.Proofs.Ytepmfbgmkfkmkaa

/-! slices.IndexFunc and ContainsFunc on ints, with a function that has captured one variable. -/
namespace Go.Proofs.Ytepmfbgmkfkmkaa
open Go.RowKit

set_option maxHeartbeats 1000000 in
theorem indexf_any (F : Nat) (y : Value) (eg : ∀ args w, (callFunc F args).run Try.prog w = .ok (.enter F args) w) (p : Int → Bool) (A : Option Addr) (c : Nat) (xs : List Int) (hn : xs.length ≤ 1048576) (w : World) (h : Reads w w.heap.size 1 A xs.length (ints xs))
    (hp : ∀ x ∈ xs, ∀ m, Calls Try.prog F #[.int .i64 x, y] (w.drewN m) fun e w' => e = .returned (.bool (p x)) ∧ ∃ m', w' = w.drewN m') :
    Calls Try.prog 67 #[.slice A xs.length c, .func (.func F) #[] #[y]] w fun e w' => ∃ r : Int, e = .returned (.int .i64 r) ∧ Hid (0 ≤ r ↔ ∃ x ∈ xs, p x = true) ∧ ∃ m, w' = w.drewN m := by
  have HP := Lib.hid hp
  clear hp
  go_enter Try.func67, Try.ntmps67
  go_wp2
  go_loopw [8] (fun i wr => ∃ k : Nat, k ≤ xs.length ∧ i = .int .i64 k ∧ Hid (∀ x ∈ xs.take k, p x = false) ∧ Hid (∃ m, wr = w.drewN m)) (fun i _ => xs.length - (intOf i).toNat)
  case atStart => exact ⟨0, by omega, rfl, by simp [Hid], ⟨0, rfl⟩⟩
  case round =>
    obtain ⟨k, hk, rfl, HS, HM⟩ := hrel
    by_cases hlt : k < xs.length
    · obtain ⟨x, hx⟩ := get_of_lt hlt
      obtain ⟨m, rfl⟩ := HM.out
      obtain ⟨b, off, rfl, hb, hcell0⟩ := h.at_ (ints_at hx)
      have hcell : (w.drewN m).cell? ⟨b, off + k, none⟩ = some (.int .i64 x) := hcell0
      have hi : (k : Int) < (xs.length : Int) := by omega
      have htk := take_snoc hx
      have PC := HP.out x (List.mem_of_getElem? hx) m
      have HX := Lib.hid hx
      cases hpx : p x
      · rw [hpx] at PC
        have PC := Lib.hid PC
        have HN : Hid (∀ x ∈ xs.take (k + 1), p x = false) := by
          rw [htk]
          intro z hz
          rcases List.mem_append.1 hz with hz | hz
          · exact HS.out z hz
          · rw [List.mem_singleton.1 hz]; exact hpx
        clear hx htk hpx hcell0 h
        go_wp2_with fail
        refine (PC.out).mono ?_
        rintro e w2 ⟨rfl, m2, rfl⟩
        go_wp2
        go_roundw
        case rel => exact ⟨k + 1, by omega, by go_num, HN, ⟨m2, rfl⟩⟩
        case measure => simp [intOf]; omega
      · rw [hpx] at PC
        have PC := Lib.hid PC
        have HT : Hid (∃ x ∈ xs, p x = true) := ⟨x, List.mem_of_getElem? hx, hpx⟩
        clear hx htk hpx hcell0 h
        go_wp2_with fail
        refine (PC.out).mono ?_
        rintro e w2 ⟨rfl, m2, rfl⟩
        go_wp2
        go_ret
        exact ⟨k, rfl, ⟨fun _ => HT.out, fun _ => by omega⟩, m2, rfl⟩
    · obtain rfl : k = xs.length := by omega
      rw [List.take_length] at HS
      go_wp2
      go_ret
      refine ⟨-1, rfl, ⟨fun h => absurd h (by decide), ?_⟩, HM.out⟩
      rintro ⟨x, hx, hp⟩
      rw [HS.out x hx] at hp; cases hp
set_option maxHeartbeats 1000000 in
theorem containsf_any (F : Nat) (y : Value) (eg : ∀ args w, (callFunc F args).run Try.prog w = .ok (.enter F args) w) (p : Int → Bool) (A : Option Addr) (c : Nat) (xs : List Int) (hn : xs.length ≤ 1048576) (w : World) (h : Reads w w.heap.size 1 A xs.length (ints xs))
    (hp : ∀ x ∈ xs, ∀ m, Calls Try.prog F #[.int .i64 x, y] (w.drewN m) fun e w' => e = .returned (.bool (p x)) ∧ ∃ m', w' = w.drewN m') :
    Calls Try.prog 32 #[.slice A xs.length c, .func (.func F) #[] #[y]] w fun e w' => e = .returned (.bool (xs.any p)) ∧ ∃ m, w' = w.drewN m := by
  have IC := Lib.hid (indexf_any F y eg p A c xs hn w h hp)
  have HA : Hid (∀ r : Int, (0 ≤ r ↔ ∃ x ∈ xs, p x = true) → decide (0 ≤ r) = xs.any p) := by
    intro r hr
    rw [Bool.eq_iff_iff, List.any_eq_true, decide_eq_true_eq]; exact hr
  clear hp h
  go_enter Try.func32, Try.ntmps32
  go_wp2_with fail
  refine (IC.out).mono ?_
  rintro e w1 ⟨r, rfl, HR, HM⟩
  go_wp2
  go_ret
  exact ⟨ret_bool (HA.out r HR.out), HM⟩
end Go.Proofs.Ytepmfbgmkfkmkaa

/-! slices.Index and Contains on ints (from XLegal, for programs without firing). -/
namespace Go.Proofs.Ytepmfbgmkfkmkaa
open Go.RowKit

set_option maxHeartbeats 1000000 in
theorem index_any (A : Option Addr) (c : Nat) (xs : List Int) (hn : xs.length ≤ 1048576) (v : Int) (w : World) (h : Reads w w.heap.size 1 A xs.length (ints xs)) :
    Calls Try.prog 66 #[.slice A xs.length c, .int .i64 v] w fun e w' => ∃ r : Int, e = .returned (.int .i64 r) ∧ Hid (0 ≤ r ↔ v ∈ xs) ∧ w = w' := by
  go_enter Try.func66, Try.ntmps66
  go_wp2
  go_loop [8] (fun i => ∃ k : Nat, k ≤ xs.length ∧ i = .int .i64 k ∧ Hid (v ∉ xs.take k)) (fun i => xs.length - (intOf i).toNat)
  case atStart => exact ⟨0, by omega, rfl, by simp [Hid]⟩
  case round =>
    obtain ⟨k, hk, rfl, HS⟩ := hrel
    by_cases hlt : k < xs.length
    · obtain ⟨x, hx⟩ := get_of_lt hlt
      obtain ⟨b, off, rfl, hb, hcell⟩ := h.at_ (ints_at hx)
      have hi : (k : Int) < (xs.length : Int) := by omega
      have htk := take_snoc hx
      by_cases hv : v = x
      · have e : (v == x) = true := by simpa using hv
        have HT : Hid (v ∈ xs) := by rw [hv]; exact List.mem_of_getElem? hx
        clear hx htk hv
        go_wp2
        go_ret
        exact ⟨k, rfl, ⟨fun _ => HT.out, fun _ => by omega⟩, rfl⟩
      · have e : (v == x) = false := by simpa using hv
        have HN : Hid (v ∉ xs.take (k + 1)) := by
          rw [htk, Hid, List.mem_append]
          rintro (hc | hc)
          · exact HS.out hc
          · exact hv (List.mem_singleton.1 hc)
        clear hx htk hv
        go_wp2
        go_round
        case rel => exact ⟨k + 1, by omega, by go_num, HN⟩
        case measure => simp [intOf]; omega
    · obtain rfl : k = xs.length := by omega
      rw [List.take_length] at HS
      go_wp2
      go_ret
      exact ⟨-1, rfl, ⟨fun h => absurd h (by decide), fun h => absurd h HS.out⟩, rfl⟩
set_option maxHeartbeats 1000000 in
theorem contains_any (A : Option Addr) (c : Nat) (xs : List Int) (hn : xs.length ≤ 1048576) (v : Int) (w : World) (h : Reads w w.heap.size 1 A xs.length (ints xs)) :
    Calls Try.prog 31 #[.slice A xs.length c, .int .i64 v] w fun e w' => e = .returned (.bool (decide (v ∈ xs))) ∧ w = w' := by
  have IC := Lib.hid (index_any A c xs hn v w h)
  go_enter Try.func31, Try.ntmps31
  go_wp2_with fail
  refine (IC.out).mono ?_
  rintro e w1 ⟨r, rfl, HR, rfl⟩
  go_wp2
  go_ret
  exact ⟨ret_bool (by rw [Bool.eq_iff_iff]; simp [HR.out]), rfl⟩

end Go.Proofs.Ytepmfbgmkfkmkaa

/-! Package tree: Cycle (what it returns; the refusals). -/
namespace Go.Proofs.Ytepmfbgmkfkmkaa
open Go.RowKit

/-- What Cycle returns. -/
def cycleE (n : Int) (es : List E3) (xs : List Int) (e : Int) : List Int × Int :=
  if treeErr n es xs ≠ 0 then ([], treeErr n es xs) else if e < 0 ∨ ((endsL es).length : Int) ≤ e then ([], 2) else if e ∈ xs then ([], 15) else
    match (endsL es)[e.toNat]? with
    | some ab => (sortG ltI (nI (pathL (endsL es) (toN xs) ab.1 ab.2) ++ [e]), 0)
    | none => ([], 2)

set_option maxRecDepth 100000 in
set_option maxHeartbeats 4000000 in
theorem tcycle_err (n : Int) (A : Option Addr) (c : Nat) (es : List E3) (hn : es.length ≤ 10000) (B : Option Addr) (d : Nat) (xs : List Int) (hm : xs.length ≤ 1048576) (x : Int) (w : World) (h : Reads w w.heap.size 3 A es.length (edgeCells es)) (h' : Reads w w.heap.size 1 B xs.length (ints xs)) (hj : treeErr n es xs ≠ 0) :
    Calls Try.prog 22 #[.agg #[.int .i64 n, .slice A es.length c], .slice B xs.length d, .int .i64 x] w fun e w' => ∃ A' c', e = .returned (.tuple #[.slice A' (cycleE n es xs x).1.length c', .int .i64 (cycleE n es xs x).2]) ∧ OwnI w' w.heap.size A' c' (cycleE n es xs x).1 ∧ Below w.heap.size w w' := by
  have GC := Lib.hid (fun (W : World) (hB : Below w.heap.size w W) => checked_any n A c es hn B d xs hm W ((h.below hB).more hB.size) ((h'.below hB).more hB.size))
  have g0 := Blk.new w 24 #[.int .i64 n, .slice A es.length c]
  have hb0 : Below w.heap.size w (w.alloc (.cells #[.int .i64 n, .slice A es.length c] 24)) := (Below.refl _ _).alloc (Nat.le_refl _) _
  have c0 := g0.cell 0
  have c1 := g0.cell 1
  have HE : Hid (cycleE n es xs x = ([], treeErr n es xs)) := by unfold Hid cycleE; rw [if_pos hj]
  rw [HE.out]
  obtain ⟨z, hzz⟩ : ∃ z, treeErr n es xs = z := ⟨_, rfl⟩
  rw [hzz] at GC hj ⊢
  have hb : (z != 0) = true := by simpa using hj
  have HZ := Lib.hid hj
  clear hj hzz HE
  go_enter Try.func22, Try.ntmps22
  go_wp2_with fail
  refine (GC.out _ hb0).mono ?_
  rintro e w1 ⟨Ar, lr, cr, rfl, _, hg2, hb1⟩
  obtain ⟨rfl, rfl⟩ := hg2 HZ.out
  go_wp2
  go_ret2
  exact ⟨none, 0, rfl, OwnI.nil_ _ _, hb0.trans (hb1.mono hb0.size)⟩
set_option maxRecDepth 100000 in
set_option maxHeartbeats 4000000 in
theorem tcycle_neg (n : Int) (A : Option Addr) (c : Nat) (es : List E3) (hn : es.length ≤ 10000) (B : Option Addr) (d : Nat) (xs : List Int) (hm : xs.length ≤ 1048576) (x : Int) (w : World) (h : Reads w w.heap.size 3 A es.length (edgeCells es)) (h' : Reads w w.heap.size 1 B xs.length (ints xs)) (hj : treeErr n es xs = 0) (hx : x < 0) :
    Calls Try.prog 22 #[.agg #[.int .i64 n, .slice A es.length c], .slice B xs.length d, .int .i64 x] w fun e w' => ∃ A' c', e = .returned (.tuple #[.slice A' (cycleE n es xs x).1.length c', .int .i64 (cycleE n es xs x).2]) ∧ OwnI w' w.heap.size A' c' (cycleE n es xs x).1 ∧ Below w.heap.size w w' := by
  have GC := Lib.hid (fun (W : World) (hB : Below w.heap.size w W) => checked_any n A c es hn B d xs hm W ((h.below hB).more hB.size) ((h'.below hB).more hB.size))
  have g0 := Blk.new w 24 #[.int .i64 n, .slice A es.length c]
  have hb0 : Below w.heap.size w (w.alloc (.cells #[.int .i64 n, .slice A es.length c] 24)) := (Below.refl _ _).alloc (Nat.le_refl _) _
  have c0 := g0.cell 0
  have c1 := g0.cell 1
  rw [hj] at GC
  have HE : Hid (cycleE n es xs x = ([], 2)) := by unfold Hid cycleE; rw [if_neg (fun hc => hc hj), if_pos (.inl hx)]
  rw [HE.out]
  have hd := decide_eq_true hx
  obtain ⟨E, hE⟩ : ∃ E, endsL es = E := ⟨_, rfl⟩
  rw [hE] at GC
  clear hj hE HE
  go_enter Try.func22, Try.ntmps22
  go_wp2_with fail
  refine (GC.out _ hb0).mono ?_
  rintro e w1 ⟨Ar, lr, cr, rfl, hg1, _, hb1⟩
  obtain ⟨rfl, HQ⟩ := hg1 rfl
  clear HQ
  go_wp2
  go_ret2
  exact ⟨none, 0, rfl, OwnI.nil_ _ _, hb0.trans (hb1.mono hb0.size)⟩
set_option maxRecDepth 100000 in
set_option maxHeartbeats 4000000 in
theorem tcycle_big (n : Int) (A : Option Addr) (c : Nat) (es : List E3) (hn : es.length ≤ 10000) (B : Option Addr) (d : Nat) (xs : List Int) (hm : xs.length ≤ 1048576) (x : Int) (w : World) (h : Reads w w.heap.size 3 A es.length (edgeCells es)) (h' : Reads w w.heap.size 1 B xs.length (ints xs)) (hj : treeErr n es xs = 0) (hx0 : 0 ≤ x) (hx : ((endsL es).length : Int) ≤ x) :
    Calls Try.prog 22 #[.agg #[.int .i64 n, .slice A es.length c], .slice B xs.length d, .int .i64 x] w fun e w' => ∃ A' c', e = .returned (.tuple #[.slice A' (cycleE n es xs x).1.length c', .int .i64 (cycleE n es xs x).2]) ∧ OwnI w' w.heap.size A' c' (cycleE n es xs x).1 ∧ Below w.heap.size w w' := by
  have GC := Lib.hid (fun (W : World) (hB : Below w.heap.size w W) => checked_any n A c es hn B d xs hm W ((h.below hB).more hB.size) ((h'.below hB).more hB.size))
  have g0 := Blk.new w 24 #[.int .i64 n, .slice A es.length c]
  have hb0 : Below w.heap.size w (w.alloc (.cells #[.int .i64 n, .slice A es.length c] 24)) := (Below.refl _ _).alloc (Nat.le_refl _) _
  have c0 := g0.cell 0
  have c1 := g0.cell 1
  rw [hj] at GC
  have HE : Hid (cycleE n es xs x = ([], 2)) := by unfold Hid cycleE; rw [if_neg (fun hc => hc hj), if_pos (.inr hx)]
  rw [HE.out]
  have hd0 : ¬ x < 0 := by omega
  obtain ⟨E, hE⟩ : ∃ E, endsL es = E := ⟨_, rfl⟩
  rw [hE] at GC hx
  clear hj hE HE
  go_enter Try.func22, Try.ntmps22
  go_wp2_with fail
  refine (GC.out _ hb0).mono ?_
  rintro e w1 ⟨Ar, lr, cr, rfl, hg1, _, hb1⟩
  obtain ⟨rfl, HQ⟩ := hg1 rfl
  clear HQ
  have hd := decide_eq_true hx
  go_wp2
  go_ret2
  exact ⟨none, 0, rfl, OwnI.nil_ _ _, hb0.trans (hb1.mono hb0.size)⟩
set_option maxRecDepth 100000 in
set_option maxHeartbeats 4000000 in
theorem tcycle_in (n : Int) (A : Option Addr) (c : Nat) (es : List E3) (hn : es.length ≤ 10000) (B : Option Addr) (d : Nat) (xs : List Int) (hm : xs.length ≤ 1048576) (x : Int) (w : World) (h : Reads w w.heap.size 3 A es.length (edgeCells es)) (h' : Reads w w.heap.size 1 B xs.length (ints xs)) (hj : treeErr n es xs = 0) (hx0 : 0 ≤ x) (hx : x < ((endsL es).length : Int)) (hi : x ∈ xs) :
    Calls Try.prog 22 #[.agg #[.int .i64 n, .slice A es.length c], .slice B xs.length d, .int .i64 x] w fun e w' => ∃ A' c', e = .returned (.tuple #[.slice A' (cycleE n es xs x).1.length c', .int .i64 (cycleE n es xs x).2]) ∧ OwnI w' w.heap.size A' c' (cycleE n es xs x).1 ∧ Below w.heap.size w w' := by
  have GC := Lib.hid (fun (W : World) (hB : Below w.heap.size w W) => checked_any n A c es hn B d xs hm W ((h.below hB).more hB.size) ((h'.below hB).more hB.size))
  have g0 := Blk.new w 24 #[.int .i64 n, .slice A es.length c]
  have hb0 : Below w.heap.size w (w.alloc (.cells #[.int .i64 n, .slice A es.length c] 24)) := (Below.refl _ _).alloc (Nat.le_refl _) _
  have c0 := g0.cell 0
  have c1 := g0.cell 1
  rw [hj] at GC
  have HE : Hid (cycleE n es xs x = ([], 15)) := by unfold Hid cycleE; rw [if_neg (fun hc => hc hj), if_neg (by omega), if_pos hi]
  rw [HE.out]
  have CC := Lib.hid (fun (W : World) (hB : Below w.heap.size w W) => contains_any B d xs hm x W ((h'.below hB).more hB.size))
  rw [decide_eq_true hi] at CC
  have hd0 : ¬ x < 0 := by omega
  clear hi
  obtain ⟨E, hE⟩ : ∃ E, endsL es = E := ⟨_, rfl⟩
  rw [hE] at GC hx
  clear hj hE HE
  go_enter Try.func22, Try.ntmps22
  go_wp2_with fail
  refine (GC.out _ hb0).mono ?_
  rintro e w1 ⟨Ar, lr, cr, rfl, hg1, _, hb1⟩
  obtain ⟨rfl, HQ⟩ := hg1 rfl
  clear HQ
  have hd : ¬ (E.length : Int) ≤ x := by omega
  go_wp2_with fail
  refine (CC.out _ (hb0.trans (hb1.mono hb0.size))).mono ?_
  rintro e w2 ⟨rfl, rfl⟩
  go_wp2
  go_ret2
  exact ⟨none, 0, rfl, OwnI.nil_ _ _, hb0.trans (hb1.mono hb0.size)⟩
end Go.Proofs.Ytepmfbgmkfkmkaa

/-! A slice of ints of the call's own: its block, and a store into it. -/
namespace Go.Proofs.Ytepmfbgmkfkmkaa
open Go.RowKit

theorem OwnI.block {w : World} {base : Nat} {A : Option Addr} {c : Nat} {xs : List Int} (h : OwnI w base A c xs) (hn : 0 < xs.length) : ∃ g, A = some ⟨g, 0, none⟩ ∧ base ≤ g ∧ (∀ i, w.frozen? ⟨g, i, none⟩ = false) ∧ ∀ (k : Nat) (x : Int), xs[k]? = some x → w.cell? ⟨g, k, none⟩ = some (.int .i64 x) := by
  obtain ⟨h1, h2⟩ := h
  rcases h2 with ⟨h2, h3⟩ | ⟨g, cap, cur, hv, hg, hh, r1, r2, r3, r4⟩
  · simp at h2; omega
  · injection hv with hv1 hv2 hv3
    have hb : Blk w g 3 cur := hh
    refine ⟨g, hv1, hg, hb.frozen, fun k x hk => ?_⟩
    rw [hb.cell k]
    have hk' : k < xs.length := (List.getElem?_eq_some_iff.1 hk).1
    have e1 : (cur.toList.take (xs.length * 1))[k]? = some (.int .i64 x) := by rw [r4, ints_at hk]
    rw [Nat.mul_one, List.getElem?_take_of_lt hk', Array.getElem?_toList] at e1
    exact e1
theorem OwnI.set {w : World} {base : Nat} {A : Option Addr} {c g : Nat} {xs : List Int} (h : OwnI w base A c xs) (hA : A = some ⟨g, 0, none⟩) (k : Nat) (x : Int) : OwnI (w.setCell ⟨g, k, none⟩ (.int .i64 x)) base A c (xs.set k x) := by
  obtain ⟨h1, h2⟩ := h
  rcases h2 with ⟨h2, h3⟩ | ⟨g', cap, cur, hv, hg, hh, r1, r2, r3, r4⟩
  · simp at h2; rw [hA] at h2; simp at h2
  · have hv1 : A = some ⟨g', 0, none⟩ := by injection hv
    rw [hA] at hv1
    have hgg : g = g' := by injection hv1 with hv1; injection hv1
    subst hgg
    refine ⟨by rw [ints_length]; simp, .inr ⟨g, cap, cur.setIfInBounds k (.int .i64 x), by rw [List.length_set]; exact hv, hg, (Blk.set_ (show Blk w g 3 cur from hh) k _), by rw [List.length_set]; exact r1, r2, by simpa using r3, ?_⟩⟩
    rw [Array.toList_setIfInBounds, List.take_set, List.length_set, r4]
    simp [ints, List.map_set]
theorem OwnI.at_ {w : World} {base c g : Nat} {xs : List Int} (h : OwnI w base (some ⟨g, 0, none⟩) c xs) (hn : 0 < xs.length) : base ≤ g ∧ g < w.heap.size ∧ (∀ i, w.frozen? ⟨g, i, none⟩ = false) ∧ ∀ (k : Nat) (x : Int), xs[k]? = some x → w.cell? ⟨g, k, none⟩ = some (.int .i64 x) := by
  obtain ⟨g', e, h1, h2, h3⟩ := h.block hn
  injection e with e
  injection e with e
  subst e
  exact ⟨h1, (own_lt h ⟨_, rfl, rfl⟩).2, h2, h3⟩
theorem OwnI.put {w : World} {base c g : Nat} {xs : List Int} (h : OwnI w base (some ⟨g, 0, none⟩) c xs) (k : Nat) (x : Int) : OwnI (w.setCell ⟨g, k, none⟩ (.int .i64 x)) base (some ⟨g, 0, none⟩) c (xs.set k x) := h.set rfl k x
theorem OwnI.other {w : World} {base c g : Nat} {xs : List Int} (h : OwnI w base (some ⟨g, 0, none⟩) c xs) {p : Addr} (hp : p.block ≠ g) (u : Value) : OwnI (w.setCell p u) base (some ⟨g, 0, none⟩) c xs :=
  own_kept h fun k hk => by
    obtain ⟨a, ha, hk⟩ := hk
    injection ha with ha
    subst ha
    exact Below.heap_setCell w p u k (fun e => hp (by rw [← e, ← hk]))
theorem OwnI.kept {w w' : World} {base c g : Nat} {xs : List Int} (h : OwnI w base (some ⟨g, 0, none⟩) c xs) (hp : w'.heap[g]? = w.heap[g]?) : OwnI w' base (some ⟨g, 0, none⟩) c xs :=
  own_kept h fun k hk => by
    obtain ⟨a, ha, hk⟩ := hk
    injection ha with ha
    subst ha
    subst hk
    exact hp
end Go.Proofs.Ytepmfbgmkfkmkaa

