/-
  Texts of this claim, put together: RPar, TCut, RTree2.
-/
import Derived.Test.YtnbikkcalcpedaaGreatDoorK23
import Derived.Test.YtnbikkcalcpedaaGreatDoorK10
import Derived.Test.YtnbikkcalcpedaaGreatDoorK25
import Derived.Deep.QuietTactic
import Derived.BigQuiet
import Derived.Test.YtnbikkcalcpedaaGreatDoorK13
/-! ref13.other, ref13.Parents: the parents by rounds. -/
namespace Go.Proofs.YtnbikkcalcpedaaGreatDoor
open Go.RowKit

end Go.Proofs.YtnbikkcalcpedaaGreatDoor

/-! Package tree: Cutset. -/
namespace Go.Proofs.YtnbikkcalcpedaaGreatDoor
open Go.RowKit

/-- The cutset of a single edge of a tree. -/
def cutL (E : List (Nat × Nat)) (t : List Nat) (e : Nat) : List Nat := (List.range E.length).filter fun i => decide (Sep E t (E.getD i (0, 0)).1 (E.getD i (0, 0)).2 e)
/-- What Cutset returns. -/
def cutsetE (n : Int) (es : List E3) (xs : List Int) (e : Int) : List Int × Int :=
  if treeErr n es xs ≠ 0 then ([], treeErr n es xs) else if e < 0 ∨ ((endsL es).length : Int) ≤ e then ([], 2) else if e ∉ xs then ([], 15) else (nI (cutL (endsL es) (toN xs) e.toNat), 0)

set_option maxRecDepth 100000 in
set_option maxHeartbeats 4000000 in
theorem tcutset_err (n : Int) (A : Option Addr) (c : Nat) (es : List E3) (hn : es.length ≤ 10000) (B : Option Addr) (d : Nat) (xs : List Int) (hm : xs.length ≤ 1048576) (x : Int) (w : World) (h : Reads w w.heap.size 3 A es.length (edgeCells es)) (h' : Reads w w.heap.size 1 B xs.length (ints xs)) (hj : treeErr n es xs ≠ 0) :
    Calls Tryz.prog 72 #[.agg #[.int .i64 n, .slice A es.length c], .slice B xs.length d, .int .i64 x] w fun e w' => ∃ A' c', e = .returned (.tuple #[.slice A' (cutsetE n es xs x).1.length c', .int .i64 (cutsetE n es xs x).2]) ∧ OwnI w' w.heap.size A' c' (cutsetE n es xs x).1 ∧ Below w.heap.size w w' := by
  have GC := Lib.hid (fun (W : World) (hB : Below w.heap.size w W) => checked_any n A c es hn B d xs hm W ((h.below hB).more hB.size) ((h'.below hB).more hB.size))
  have g0 := Blk.new w 24 #[.int .i64 n, .slice A es.length c]
  have hb0 : Below w.heap.size w (w.alloc (.cells #[.int .i64 n, .slice A es.length c] 24)) := (Below.refl _ _).alloc (Nat.le_refl _) _
  have c0 := g0.cell 0
  have c1 := g0.cell 1
  have HE : Hid (cutsetE n es xs x = ([], treeErr n es xs)) := by unfold Hid cutsetE; rw [if_pos hj]
  rw [HE.out]
  obtain ⟨z, hzz⟩ : ∃ z, treeErr n es xs = z := ⟨_, rfl⟩
  rw [hzz] at GC hj ⊢
  have hb : (z != 0) = true := by simpa using hj
  have HZ := Lib.hid hj
  clear hj hzz HE
  go_enter Tryz.func72, Tryz.ntmps72
  go_wp2_with fail
  refine (GC.out _ hb0).mono ?_
  rintro e w1 ⟨Ar, lr, cr, rfl, _, hg2, hb1⟩
  obtain ⟨rfl, rfl⟩ := hg2 HZ.out
  go_wp2
  go_ret2
  exact ⟨none, 0, rfl, OwnI.nil_ _ _, hb0.trans (hb1.mono hb0.size)⟩
set_option maxRecDepth 100000 in
set_option maxHeartbeats 4000000 in
theorem tcutset_neg (n : Int) (A : Option Addr) (c : Nat) (es : List E3) (hn : es.length ≤ 10000) (B : Option Addr) (d : Nat) (xs : List Int) (hm : xs.length ≤ 1048576) (x : Int) (w : World) (h : Reads w w.heap.size 3 A es.length (edgeCells es)) (h' : Reads w w.heap.size 1 B xs.length (ints xs)) (hj : treeErr n es xs = 0) (hx : x < 0) :
    Calls Tryz.prog 72 #[.agg #[.int .i64 n, .slice A es.length c], .slice B xs.length d, .int .i64 x] w fun e w' => ∃ A' c', e = .returned (.tuple #[.slice A' (cutsetE n es xs x).1.length c', .int .i64 (cutsetE n es xs x).2]) ∧ OwnI w' w.heap.size A' c' (cutsetE n es xs x).1 ∧ Below w.heap.size w w' := by
  have GC := Lib.hid (fun (W : World) (hB : Below w.heap.size w W) => checked_any n A c es hn B d xs hm W ((h.below hB).more hB.size) ((h'.below hB).more hB.size))
  have g0 := Blk.new w 24 #[.int .i64 n, .slice A es.length c]
  have hb0 : Below w.heap.size w (w.alloc (.cells #[.int .i64 n, .slice A es.length c] 24)) := (Below.refl _ _).alloc (Nat.le_refl _) _
  have c0 := g0.cell 0
  have c1 := g0.cell 1
  rw [hj] at GC
  have HE : Hid (cutsetE n es xs x = ([], 2)) := by unfold Hid cutsetE; rw [if_neg (fun hc => hc hj), if_pos (.inl hx)]
  rw [HE.out]
  have hd := decide_eq_true hx
  obtain ⟨E, hE⟩ : ∃ E, endsL es = E := ⟨_, rfl⟩
  rw [hE] at GC
  clear hj hE HE
  go_enter Tryz.func72, Tryz.ntmps72
  go_wp2_with fail
  refine (GC.out _ hb0).mono ?_
  rintro e w1 ⟨Ar, lr, cr, rfl, hg1, _, hb1⟩
  obtain ⟨rfl, HQ⟩ := hg1 rfl
  clear HQ
  go_wp2
  go_ret2
  exact ⟨none, 0, rfl, OwnI.nil_ _ _, hb0.trans (hb1.mono hb0.size)⟩
set_option maxRecDepth 100000 in
set_option maxHeartbeats 4000000 in
theorem tcutset_big (n : Int) (A : Option Addr) (c : Nat) (es : List E3) (hn : es.length ≤ 10000) (B : Option Addr) (d : Nat) (xs : List Int) (hm : xs.length ≤ 1048576) (x : Int) (w : World) (h : Reads w w.heap.size 3 A es.length (edgeCells es)) (h' : Reads w w.heap.size 1 B xs.length (ints xs)) (hj : treeErr n es xs = 0) (hx0 : 0 ≤ x) (hx : ((endsL es).length : Int) ≤ x) :
    Calls Tryz.prog 72 #[.agg #[.int .i64 n, .slice A es.length c], .slice B xs.length d, .int .i64 x] w fun e w' => ∃ A' c', e = .returned (.tuple #[.slice A' (cutsetE n es xs x).1.length c', .int .i64 (cutsetE n es xs x).2]) ∧ OwnI w' w.heap.size A' c' (cutsetE n es xs x).1 ∧ Below w.heap.size w w' := by
  have GC := Lib.hid (fun (W : World) (hB : Below w.heap.size w W) => checked_any n A c es hn B d xs hm W ((h.below hB).more hB.size) ((h'.below hB).more hB.size))
  have g0 := Blk.new w 24 #[.int .i64 n, .slice A es.length c]
  have hb0 : Below w.heap.size w (w.alloc (.cells #[.int .i64 n, .slice A es.length c] 24)) := (Below.refl _ _).alloc (Nat.le_refl _) _
  have c0 := g0.cell 0
  have c1 := g0.cell 1
  rw [hj] at GC
  have HE : Hid (cutsetE n es xs x = ([], 2)) := by unfold Hid cutsetE; rw [if_neg (fun hc => hc hj), if_pos (.inr hx)]
  rw [HE.out]
  have hd0 : ¬ x < 0 := by omega
  obtain ⟨E, hE⟩ : ∃ E, endsL es = E := ⟨_, rfl⟩
  rw [hE] at GC hx
  clear hj hE HE
  go_enter Tryz.func72, Tryz.ntmps72
  go_wp2_with fail
  refine (GC.out _ hb0).mono ?_
  rintro e w1 ⟨Ar, lr, cr, rfl, hg1, _, hb1⟩
  obtain ⟨rfl, HQ⟩ := hg1 rfl
  clear HQ
  have hd := decide_eq_true hx
  go_wp2
  go_ret2
  exact ⟨none, 0, rfl, OwnI.nil_ _ _, hb0.trans (hb1.mono hb0.size)⟩
set_option maxRecDepth 100000 in
set_option maxHeartbeats 4000000 in
theorem tcutset_in (n : Int) (A : Option Addr) (c : Nat) (es : List E3) (hn : es.length ≤ 10000) (B : Option Addr) (d : Nat) (xs : List Int) (hm : xs.length ≤ 1048576) (x : Int) (w : World) (h : Reads w w.heap.size 3 A es.length (edgeCells es)) (h' : Reads w w.heap.size 1 B xs.length (ints xs)) (hj : treeErr n es xs = 0) (hx0 : 0 ≤ x) (hx : x < ((endsL es).length : Int)) (hi : x ∉ xs) :
    Calls Tryz.prog 72 #[.agg #[.int .i64 n, .slice A es.length c], .slice B xs.length d, .int .i64 x] w fun e w' => ∃ A' c', e = .returned (.tuple #[.slice A' (cutsetE n es xs x).1.length c', .int .i64 (cutsetE n es xs x).2]) ∧ OwnI w' w.heap.size A' c' (cutsetE n es xs x).1 ∧ Below w.heap.size w w' := by
  have GC := Lib.hid (fun (W : World) (hB : Below w.heap.size w W) => checked_any n A c es hn B d xs hm W ((h.below hB).more hB.size) ((h'.below hB).more hB.size))
  have g0 := Blk.new w 24 #[.int .i64 n, .slice A es.length c]
  have hb0 : Below w.heap.size w (w.alloc (.cells #[.int .i64 n, .slice A es.length c] 24)) := (Below.refl _ _).alloc (Nat.le_refl _) _
  have c0 := g0.cell 0
  have c1 := g0.cell 1
  rw [hj] at GC
  have HE : Hid (cutsetE n es xs x = ([], 15)) := by unfold Hid cutsetE; rw [if_neg (fun hc => hc hj), if_neg (by omega), if_pos hi]
  rw [HE.out]
  have CC := Lib.hid (fun (W : World) (hB : Below w.heap.size w W) => contains_any B d xs hm x W ((h'.below hB).more hB.size))
  rw [decide_eq_false hi] at CC
  have hd0 : ¬ x < 0 := by omega
  clear hi
  obtain ⟨E, hE⟩ : ∃ E, endsL es = E := ⟨_, rfl⟩
  rw [hE] at GC hx
  clear hj hE HE
  go_enter Tryz.func72, Tryz.ntmps72
  go_wp2_with fail
  refine (GC.out _ hb0).mono ?_
  rintro e w1 ⟨Ar, lr, cr, rfl, hg1, _, hb1⟩
  obtain ⟨rfl, HQ⟩ := hg1 rfl
  clear HQ
  have hd : ¬ (E.length : Int) ≤ x := by omega
  go_wp2_with fail
  refine (CC.out _ (hb0.trans (hb1.mono hb0.size))).mono ?_
  rintro e w2 ⟨rfl, rfl⟩
  go_wp2
  go_ret2
  exact ⟨none, 0, rfl, OwnI.nil_ _ _, hb0.trans (hb1.mono hb0.size)⟩
/-- The first single edges of the cutset. -/
def cutTo (E : List (Nat × Nat)) (t : List Nat) (e k : Nat) : List Nat := (List.range k).filter fun i => decide (Sep E t (E.getD i (0, 0)).1 (E.getD i (0, 0)).2 e)
theorem cutTo_succ (E : List (Nat × Nat)) (t : List Nat) (e k : Nat) : cutTo E t e (k + 1) = if Sep E t (E.getD k (0, 0)).1 (E.getD k (0, 0)).2 e then cutTo E t e k ++ [k] else cutTo E t e k := by
  unfold cutTo
  rw [List.range_succ, List.filter_append]
  by_cases h : Sep E t (E.getD k (0, 0)).1 (E.getD k (0, 0)).2 e
  · rw [if_pos h, List.filter_cons, decide_eq_true h]; rfl
  · rw [if_neg h, List.filter_cons, decide_eq_false h]; simp
theorem cutTo_len (E : List (Nat × Nat)) (t : List Nat) (e k : Nat) : (cutTo E t e k).length ≤ k := by
  unfold cutTo
  exact Nat.le_trans (List.length_filter_le _ _) (by simp)
theorem nI_snoc (l : List Nat) (k : Nat) : nI (l ++ [k]) = nI l ++ [(k : Int)] := by simp [nI]

set_option maxRecDepth 100000 in
set_option maxHeartbeats 8000000 in
theorem tcutset_main (m : Nat) (A : Option Addr) (c : Nat) (es : List E3) (hn : es.length ≤ 10000) (B : Option Addr) (d : Nat) (t : List Nat) (hR : TreeR m es t) (hel : (endsL es).length ≤ 1000000) (x : Nat) (w : World) (h : Reads w w.heap.size 3 A es.length (edgeCells es)) (h' : Reads w w.heap.size 1 B (nI t).length (ints (nI t))) (hj : treeErr m es (nI t) = 0) (hx : x < (endsL es).length) (hi : (x : Int) ∈ nI t) :
    Calls Tryz.prog 72 #[.agg #[.int .i64 m, .slice A es.length c], .slice B (nI t).length d, .int .i64 x] w fun e w' => ∃ A' c', e = .returned (.tuple #[.slice A' (cutsetE m es (nI t) x).1.length c', .int .i64 (cutsetE m es (nI t) x).2]) ∧ OwnI w' w.heap.size A' c' (cutsetE m es (nI t) x).1 ∧ Below w.heap.size w w' := by
  have hnl := nI_length t
  have htl := hR.len
  have hm12 := hR.hi
  have hm : (nI t).length ≤ 1048576 := by omega
  have GC := Lib.hid (fun (W : World) (hB : Below w.heap.size w W) => checked_any m A c es hn B d (nI t) hm W ((h.below hB).more hB.size) ((h'.below hB).more hB.size))
  have g0 := Blk.new w 24 #[.int .i64 m, .slice A es.length c]
  have hb0 : Below w.heap.size w (w.alloc (.cells #[.int .i64 m, .slice A es.length c] 24)) := (Below.refl _ _).alloc (Nat.le_refl _) _
  have c0 := g0.cell 0
  have c1 := g0.cell 1
  rw [hj] at GC
  have HE : Hid (cutsetE m es (nI t) x = (nI (cutTo (endsL es) t x (endsL es).length), 0)) := by
    unfold Hid cutsetE
    rw [if_neg (fun hc => hc hj), if_neg (by omega), if_neg (fun hc => hc hi), toN_nI, Int.toNat_natCast]
    rfl
  rw [HE.out]
  have CC := Lib.hid (fun (W : World) (hB : Below w.heap.size w W) => contains_any B d (nI t) hm (x : Int) W ((h'.below hB).more hB.size))
  rw [decide_eq_true hi] at CC
  have WC := Lib.hid (fun (W : World) (hB : Below w.heap.size w W) => twithout_any B d t x (by omega) W ((h'.below hB).more hB.size))
  have HBD := Lib.hid (bd_ends hR.hG)
  have HTE : Hid (∀ e ∈ lessL t x, e < (endsL es).length) := fun e he => hR.hT.lt e (List.mem_filter.1 he).1
  have HLL : Hid ((lessL t x).length ≤ 12) := Nat.le_trans (List.length_filter_le _ _) htl
  have hd0 : ¬ (x : Int) < 0 := by omega
  clear hi
  obtain ⟨E, hE⟩ : ∃ E, endsL es = E := ⟨_, rfl⟩
  rw [hE] at GC hx hel HBD HTE ⊢
  obtain ⟨u, hu⟩ : ∃ u, lessL t x = u := ⟨_, rfl⟩
  rw [hu] at WC HTE HLL
  have HU := Lib.hid hu
  have Hxl := Lib.hid hx
  have HNU := Lib.hid (nI_length u)
  have HEL := Lib.hid hel
  rw [hnl] at GC CC WC h' ⊢
  clear hj hR hE HE hx hnl hm h h' hu htl hel
  go_enter Tryz.func72, Tryz.ntmps72
  go_wp2_with fail
  refine (GC.out _ hb0).mono ?_
  rintro e w1 ⟨Ar, lr, cr, rfl, hg1, _, hb1⟩
  obtain ⟨rfl, HQ⟩ := hg1 rfl
  have HQ : Hid (OwnQ w1 w.heap.size Ar cr E) := own_rebase2 HQ hb0.size
  have hd : ¬ (E.length : Int) ≤ (x : Int) := by have := Hxl.out; omega
  have B1 := Lib.hid (hb0.trans (hb1.mono hb0.size))
  clear hb1 hb0 g0 c0 c1 GC
  go_wp2_with fail
  refine (CC.out _ B1.out).mono ?_
  rintro e w2 ⟨rfl, rfl⟩
  go_wp2_with fail
  refine (loose_any w1).mono ?_
  rintro e w2 ⟨rfl, hb2⟩
  have F2 : Blk (w2.alloc obj12) w2.heap.size 174 (fcells (List.range 12)) := Blk.new w2 _ _
  have hs2 := hb2.size
  have hs3 : (w2.alloc obj12).heap.size = w2.heap.size + 1 := by simp
  have BA : Hid (Below w.heap.size w (w2.alloc obj12)) := (B1.out.trans (hb2.mono B1.out.size)).alloc (Nat.le_trans B1.out.size hs2) _
  have HQ2 : Hid (Reads (w2.alloc obj12) w2.heap.size 2 Ar E.length (pair2 E)) := (((OwnQ.reads HQ.out).next hb2).alloc (Nat.le_refl _) _)
  obtain ⟨gf, hgf⟩ : ∃ gf, w2.heap.size = gf := ⟨_, rfl⟩
  have HGF := Lib.hid hgf
  rw [hgf] at F2 hs2 hs3 HQ2
  have hwg : Hid (w.heap.size ≤ gf) := Nat.le_trans B1.out.size hs2
  clear hb2 hgf HQ B1
  have W2 := Lib.hid (WC.out (w2.alloc obj12) BA.out)
  go_wp2_with fail
  refine (W2.out).mono ?_
  rintro e w3 ⟨A3, c3, rfl, o3, hb3⟩
  rw [HNU.out]
  have F3 := F2.next hb3
  have o3 : OwnI w3 (gf + 1) A3 c3 (nI u) := o3.mono (by rw [hs3]; exact Nat.le_refl _)
  have hz3 : gf + 1 ≤ w3.heap.size := by have := hb3.size; omega
  have HQ3 : Hid (Reads w3 gf 2 Ar E.length (pair2 E)) := HQ2.out.below (hb3.mono (by rw [hs3]; omega))
  have B3 := Lib.hid (BA.out.trans (hb3.mono BA.out.size))
  clear hb3 BA HQ2 W2 F2
  obtain ⟨ul, hul⟩ : ∃ ul, u.length = ul := ⟨_, rfl⟩
  have HUL := Lib.hid hul
  rw [hul]
  clear hul
  have hul12 : ul ≤ 12 := by rw [← HUL.out]; exact HLL.out
  go_wp2_with fail
  try rw [HGF.out]
  go_loopw [12, 45] (fun _ i wr => ∃ (k : Nat) (f : List Nat), k ≤ ul ∧ i = .int .i64 k ∧ Hid (FR (pk E (u.take k)) f) ∧ Hid (Blk wr gf 174 (fcells f)) ∧ Hid (OwnI wr (gf + 1) A3 c3 (nI u)) ∧ Hid (Reads wr gf 2 Ar E.length (pair2 E)) ∧ Hid (Below w.heap.size w wr)) (fun _ i _ => ul - (intOf i).toNat)
  case atStart => exact ⟨0, List.range 12, by omega, rfl, fr_nil, F3, o3, HQ3, B3⟩
  case round =>
    obtain ⟨k, f, hk, rfl, HF, HB, HO, HQ, HW⟩ := hrel
    clear F3 HQ3 o3 B3
    have hwz := HW.out.size
    by_cases hlt : k < ul
    · have hi : (k : Int) < (ul : Int) := by omega
      obtain ⟨y, hy⟩ := get_of_lt (show k < u.length by rw [HUL.out]; exact hlt)
      have hye := HTE.out y (List.mem_of_getElem? hy)
      have hab := getD_bd HBD.out hye
      obtain ⟨bB, oB, hB3, hbB, hcell⟩ := (OwnI.reads HO.out).at_ (ints_at (nI_at hy))
      obtain ⟨bA, oA, hA, hbA, q0, q1⟩ := HQ.out.pairAt (getD_some hye)
      subst hA
      have hpk := pk_take_snoc (E := E) hy
      obtain ⟨⟨a, b⟩, hp⟩ : ∃ p, E.getD y (0, 0) = p := ⟨_, rfl⟩
      rw [hp] at hab q0 q1 hpk
      dsimp only at hab q0 q1
      have hie : (y : Int) < (E.length : Int) := by omega
      have JC := Lib.hid (tjoin_any gf (pk E (u.take k)) f HF.out a b (by omega) (by omega) wr HB.out)
      have HPK := Lib.hid hpk
      clear hy hp hpk
      have HH : Hid (∀ W', Only (fun k => k = gf) wr W' → OwnI W' (gf + 1) A3 c3 (nI u) ∧ Reads W' gf 2 (some ⟨bA, oA, none⟩) E.length (pair2 E) ∧ Below w.heap.size w W') := by
        intro W' ho
        refine ⟨own_kept HO.out fun j hj => ?_, HQ.out.below (ho.below (fun j hj e => by omega) (by have := HB.out.lt; omega)), HW.out.trans (ho.below (fun j hj e => by have := hwg.out; omega) hwz)⟩
        have := OwnI.lt HO.out j (blockOf_own.2 hj)
        exact ho.block j this.2 (fun e => by omega)
      subst hB3
      go_wp2_with (go_at_call 131; (with_reducible refine (JC.out).mono ?_); rintro e w5 ⟨rfl, f', HF', HB', ho⟩)
      obtain ⟨h1, h2, h3⟩ := HH.out w5 ho
      go_roundw
      case rel => exact ⟨k + 1, f', by omega, by go_num, by rw [Hid, HPK.out]; exact HF', HB', h1, h2, h3⟩
      case measure => simp [intOf]; omega
    · obtain rfl : k = ul := by omega
      have HF : Hid (FR (pk E (lessL t x)) f) := by
        have := HF.out
        rw [← HUL.out, List.take_length, ← HU.out] at this
        exact this
      clear HO
      obtain ⟨wl, rfl⟩ : ∃ wo : World, wo = wr := ⟨_, rfl⟩
      have hgl := HB.out.lt
      obtain ⟨r, hh, hrp⟩ := HF.out
      have RC := Lib.hid (fun v hv W hW => troot_any gf _ f r hh hrp v hv W hW)
      have HRP := Lib.hid hrp
      have hA0 : Hid (OwnI wl wl.heap.size none 0 (nI (cutTo E t x 0))) := OwnI.nil_ _ _
      clear hrp hlt
      go_wp2_with fail
      go_loopw [13, 14, 15, 57] (fun o _ _ i wr => ∃ (k : Nat) (Ao : Option Addr) (co : Nat), k ≤ E.length ∧ i = .int .i64 k ∧ o = .slice Ao (nI (cutTo E t x k)).length co ∧ Hid (OwnI wr wl.heap.size Ao co (nI (cutTo E t x k))) ∧ Hid (Below wl.heap.size wl wr)) (fun _ _ _ i _ => E.length - (intOf i).toNat)
      case atStart => exact ⟨0, none, 0, by omega, rfl, rfl, hA0, Below.refl _ _⟩
      case round =>
        obtain ⟨k, Ao, co, hk, rfl, rfl, HO, HW2⟩ := hrel
        have hwz2 := HW2.out.size
        by_cases hlt : k < E.length
        · have hi : (k : Int) < (E.length : Int) := by omega
          have hab := getD_bd HBD.out hlt
          obtain ⟨bA, oA, hA, hbA, q0, q1⟩ := (HQ.out.below (HW2.out.mono (by omega))).pairAt (getD_some hlt)
          subst hA
          have hsc := cutTo_succ E t x k
          have hcl : (nI (cutTo E t x k)).length ≤ k := by rw [nI_length]; exact cutTo_len E t x k
          obtain ⟨⟨a, b⟩, hp⟩ : ∃ p, E.getD k (0, 0) = p := ⟨_, rfl⟩
          rw [hp] at hab q0 q1 hsc
          dsimp only at hab q0 q1 hsc
          have hsame := HRP.out.same a b (by omega) (by omega)
          have hFk := HB.out.below HW2.out hgl
          have hFk2 := Lib.hid (hFk.alloc (.cells #[.int .i64 a, .int .i64 b] 50)).drew
          have qb := Blk.new wr 50 #[.int .i64 a, .int .i64 b]
          have k0 := qb.cell 0
          have k1 := qb.cell 1
          have RA := Lib.hid (fun W hW => RC.out a (by omega) W hW)
          have RB := Lib.hid (fun W hW => RC.out b (by omega) W hW)
          obtain ⟨ra, hra⟩ : ∃ z, r a = z := ⟨_, rfl⟩
          obtain ⟨rb, hrb⟩ : ∃ z, r b = z := ⟨_, rfl⟩
          rw [hra] at RA hsame
          rw [hrb] at RB hsame
          obtain ⟨L, hL⟩ : ∃ L, cutTo E t x k = L := ⟨_, rfl⟩
          rw [hL] at HO hsc hcl ⊢
          have HEl := HEL.out
          have HSC := Lib.hid hsc
          have HO2 : Hid (OwnI (wr.alloc (.cells #[.int .i64 a, .int .i64 b] 50)).drew wl.heap.size Ao co (nI L)) := (HO.out.alloc (.cells #[.int .i64 a, .int .i64 b] 50)).drew
          have HW3 : Hid (Below wl.heap.size wl (wr.alloc (.cells #[.int .i64 a, .int .i64 b] 50)).drew) := below_drewN (HW2.out.alloc hwz2 (.cells #[.int .i64 a, .int .i64 b] 50)) 1
          have HSM := Lib.hid hsame
          clear hsc hp hra hrb hL hFk qb hsame
          go_wp2_with fail
          go_region_held3 (fun W => W.cell? ⟨wr.heap.size, 0, none⟩ = some (.int .i64 a) ∧ W.cell? ⟨wr.heap.size, 1, none⟩ = some (.int .i64 b)) (go_keep) (first
            | (go_at_call 132; (with_reducible refine (RA.out _ (by exact hFk2.out)).mono ?_); rintro e w5 ⟨rfl, rfl⟩)
            | (go_at_call 132; (with_reducible refine (RB.out _ (by exact hFk2.out)).mono ?_); rintro e w5 ⟨rfl, rfl⟩))
          obtain ⟨Wd, hWd⟩ : ∃ Wd, (wr.alloc (.cells #[.int .i64 a, .int .i64 b] 50)).drew = Wd := ⟨_, rfl⟩
          rw [hWd] at HO2 HW3 ⊢
          clear hWd k0 k1 hFk2
          by_cases hxy : ra = rb
          · have hbq : ((ra : Int) != (rb : Int)) = false := by rw [hxy]; simp
            have hcs : Hid (cutTo E t x (k + 1) = L) := HSC.out.trans (if_neg (fun hc => hc (HSM.out.1 hxy)))
            clear hxy
            go_wp2
            go_roundw
            case rel => exact ⟨k + 1, Ao, co, by omega, by go_num, by rw [hcs.out], by rw [Hid, hcs.out]; exact HO2.out, HW3.out⟩
            case measure => simp [intOf]; omega
          · have hbq : ((ra : Int) != (rb : Int)) = true := bne_iff_ne.2 (by omega)
            have hcs : Hid (cutTo E t x (k + 1) = L ++ [k]) := HSC.out.trans (if_pos (fun hc => hxy (HSM.out.2 hc)))
            have hzz := HW3.out.size
            clear hxy
            go_wp2_with (at_builtin; refine push_int rfl (.tmp 69) (.tmp 71) _ rfl Tryz.underlying25 wl.heap.size Ao co (nI L) (k : Int) rfl HO2.out rfl rfl (by omega) hzz ?_; intro A5 c5 w5 hown5 _ hb5)
            go_roundw
            case rel => exact ⟨k + 1, A5, c5, by omega, by go_num, by rw [hcs.out, nI_snoc, List.length_append]; rfl, by rw [Hid, hcs.out, nI_snoc]; exact hown5, HW3.out.trans hb5⟩
            case measure => simp [intOf]; omega
        · obtain rfl : k = E.length := by omega
          have BW := Lib.hid (HW.out.trans (HW2.out.mono hwz))
          have HO5 := Lib.hid (HO.out.mono hwz)
          go_wp2
          go_ret2
          exact ⟨Ao, co, rfl, HO5.out, BW.out⟩

theorem tcutset_any (n : Int) (A : Option Addr) (c : Nat) (es : List E3) (hn : es.length ≤ 10000) (hel : (endsL es).length ≤ 1000000) (B : Option Addr) (d : Nat) (xs : List Int) (hm : xs.length ≤ 11) (x : Int) (w : World) (h : Reads w w.heap.size 3 A es.length (edgeCells es)) (h' : Reads w w.heap.size 1 B xs.length (ints xs)) :
    Calls Tryz.prog 72 #[.agg #[.int .i64 n, .slice A es.length c], .slice B xs.length d, .int .i64 x] w fun e w' => ∃ A' c', e = .returned (.tuple #[.slice A' (cutsetE n es xs x).1.length c', .int .i64 (cutsetE n es xs x).2]) ∧ OwnI w' w.heap.size A' c' (cutsetE n es xs x).1 ∧ Below w.heap.size w w' := by
  have hm' : xs.length ≤ 1048576 := by omega
  by_cases hj : treeErr n es xs = 0
  · by_cases h0 : x < 0
    · exact tcutset_neg n A c es hn B d xs hm' x w h h' hj h0
    · by_cases h1 : ((endsL es).length : Int) ≤ x
      · exact tcutset_big n A c es hn B d xs hm' x w h h' hj (by omega) h1
      · by_cases hi : x ∈ xs
        · obtain ⟨m, t, rfl, rfl, hR⟩ := treeR_of hj
          obtain ⟨k, rfl⟩ := Int.eq_ofNat_of_zero_le (show 0 ≤ x by omega)
          exact tcutset_main m A c es hn B d t hR hel k w h h' hj (by omega) hi
        · exact tcutset_in n A c es hn B d xs hm' x w h h' hj (by omega) (by omega) hi
  · exact tcutset_err n A c es hn B d xs hm' x w h h' hj
end Go.Proofs.YtnbikkcalcpedaaGreatDoor

/-! ref13.Is, Check, single. -/
namespace Go.Proofs.YtnbikkcalcpedaaGreatDoor
open Go.RowKit

theorem spans_parts {n : Nat} {E : List (Nat × Nat)} (hE : BdP n E) {t : List Nat} (ht : ∀ e ∈ t, e < E.length) (hl : t.length + 1 = n) : spansB n E t = decide (partsP n (pk E t) = 1) := by
  unfold spansB
  rw [decide_eq_true hl, Bool.and_true, Bool.eq_iff_iff, foB_iff, decide_eq_true_eq, tree_of_len (bd_pk hE ht) (by rw [pk_length]; exact hl)]

set_option maxRecDepth 100000 in
set_option maxHeartbeats 4000000 in
theorem ris13_any (n : Nat) (A : Option Addr) (c : Nat) (es : List E3) (hn : es.length ≤ 40) (hG : RightG n es) (B : Option Addr) (d : Nat) (t : List Nat) (ht : ∀ e ∈ t, e < (endsL es).length) (htl : t.length ≤ 50) (w : World)
    (h : Reads w w.heap.size 3 A es.length (edgeCells es)) (h' : Reads w w.heap.size 1 B t.length (ints (nI t))) :
    Calls Tryz.prog 69 #[.agg #[.int .i64 n, .slice A es.length c], .slice B t.length d] w fun e w' => e = .returned (.bool (spansB n (endsL es) t)) ∧ Below w.heap.size w w' := by
  have hlo := hG.lo
  have hhi := hG.hi
  have hbe := bd_ends hG
  have hbd := bd_pk hbe ht
  have WC := Lib.hid (fun (W : World) (hB : Below w.heap.size w W) => rwith_any n A c es hn hG B d t ht htl W ((h.below hB).more hB.size) ((h'.below hB).more hB.size))
  have hmr := made_right (n := n) (ps := pk (endsL es) t) (by omega) (by omega) (by rw [pk_length]; exact htl)
  have hml : (madeS n (pk (endsL es) t)).length ≤ 1048576 := by
    have h1 : (madeS n (pk (endsL es) t)).length ≤ n * n := joinTo_length _ _ _
    have h2 : n * n ≤ 12 * 12 := Nat.mul_le_mul (by omega) (by omega)
    omega
  have hcb := made_parts (n := n) (ps := pk (endsL es) t) (by omega) (by omega) (by rw [pk_length]; exact htl) hbd
  have g0 := Blk.new w 24 #[.int .i64 n, .slice A es.length c]
  have hb0 : Below w.heap.size w (w.alloc (.cells #[.int .i64 n, .slice A es.length c] 24)) := (Below.refl _ _).alloc (Nat.le_refl _) _
  have c0 := g0.cell 0
  have c1 := g0.cell 1
  have hwn : IntKind.i64.wrap ((n : Int) - 1) = (n : Int) - 1 := IntWalk.i64_in _ (by omega)
  by_cases hl : t.length + 1 = n
  · have hsp := spans_parts hbe ht hl
    rw [← hcb] at hsp
    rw [hsp]
    have hq : ((t.length : Int) == (n : Int) - 1) = true := by simp; omega
    obtain ⟨M, hM⟩ : ∃ M, madeS n (pk (endsL es) t) = M := ⟨_, rfl⟩
    rw [hM] at WC hml ⊢
    have CC := Lib.hid (fun (A1 : Option Addr) (c1 : Nat) (W : World) (hr : Reads W W.heap.size 3 A1 M.length (edgeCells M)) => rconnected_any n (by omega) A1 c1 M hml W hr)
    obtain ⟨b, hb⟩ : ∃ b, connB n M = b := ⟨_, rfl⟩
    rw [hb] at CC ⊢
    clear hl hsp hcb hM hb hmr hbd hbe hG ht
    go_enter Tryz.func69, Tryz.ntmps69
    go_wp2_with first
      | (go_at_call 77; refine (WC.out _ hb0).mono ?_; rintro e w1 ⟨A1, c1', rfl, o1, hb1⟩)
      | (go_at_call 108; refine (CC.out A1 c1' w1 (Reads.of_own o1)).mono ?_; rintro e w2 ⟨rfl, hb2⟩)
    go_ret
    exact ⟨rfl, (hb0.trans (hb1.mono hb0.size)).trans (hb2.mono (hb0.trans (hb1.mono hb0.size)).size)⟩
  · have hsp : spansB n (endsL es) t = false := by unfold spansB; rw [decide_eq_false hl, Bool.and_false]
    rw [hsp]
    have hq : ((t.length : Int) == (n : Int) - 1) = false := by simp; omega
    clear hl hsp hcb hml hmr hbd hbe hG ht
    go_enter Tryz.func69, Tryz.ntmps69
    go_wp2
    go_ret
    exact ⟨rfl, hb0⟩

end Go.Proofs.YtnbikkcalcpedaaGreatDoor

