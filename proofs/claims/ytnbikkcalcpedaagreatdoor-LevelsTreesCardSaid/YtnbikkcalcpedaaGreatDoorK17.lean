/-
 Texts of this claim, put together: Given.
-/
import Derived.Test.YtnbikkcalcpedaaGreatDoorK04
import Derived.Test.YtnbikkcalcpedaaGreatDoorK14
import Derived.Test.YtnbikkcalcpedaaGreatDoorK08
import Derived.Test.YtnbikkcalcpedaaGreatDoorK05
set_option maxRecDepth 100000
set_option maxHeartbeats 4000000
namespace Go.Proofs.YtnbikkcalcpedaaGreatDoor
open Go.RowKit Go.Shelf
attribute [local go_sem] Oper.semAt_some
theorem mem_endsL {n : Int} {es : List E3} (hok : ∀ e ∈ es, okE n e) {p : Nat × Nat} : p ∈ endsL es ↔ ∃ e ∈ es, e.1 = p.1 ∧ e.2.1 = p.2 := by
 unfold endsL
 rw [List.mem_flatMap]
 constructor
 ·rintro ⟨e, he, hp⟩
  have ho := hok e he
  unfold okE at ho
  have := List.eq_of_mem_replicate hp
  subst this
  exact ⟨e, he, by simp; omega, by simp; omega⟩
 ·rintro ⟨e, he, h1, h2⟩
  have ho := hok e he
  unfold okE at ho
  refine ⟨e, he, List.mem_replicate.2 ⟨by omega, ?_⟩⟩
  have e1 : e.1.toNat = p.1 := by omega
  have e2 : e.2.1.toNat = p.2 := by omega
  rw [e1, e2]
theorem bd_ends {n : Nat} {es : List E3} (hG : RightG n es) : BdP n (endsL es) := by
 intro p hp
 obtain ⟨e, he, h1, h2⟩ := (mem_endsL hG.ok).1 hp
 have ho := hG.ok e he
 unfold okE at ho
 omega
theorem conn_cn {n : Nat} {es : List E3} (hG : RightG n es) {a b : Nat} : Conn es a b ↔ Cn (endsL es) a b := by
 constructor
 ·intro h
  induction h with
  | refl => exact .refl
  | step _ hs ih =>
    obtain ⟨e, he, hc⟩ := hs
    rcases hc with ⟨h1, h2⟩ | ⟨h1, h2⟩
    ·exact ih.step (.inl ((mem_endsL hG.ok).2 ⟨e, he, h1, h2⟩))
    ·exact ih.step (.inr ((mem_endsL hG.ok).2 ⟨e, he, h1, h2⟩))
 ·intro h
  induction h with
  | refl => exact .refl
  | step _ hs ih =>
    rcases hs with hs | hs
    ·obtain ⟨e, he, h1, h2⟩ := (mem_endsL hG.ok).1 hs
     exact ih.step ⟨e, he, .inl ⟨h1, h2⟩⟩
    ·obtain ⟨e, he, h1, h2⟩ := (mem_endsL hG.ok).1 hs
     exact ih.step ⟨e, he, .inr ⟨h1, h2⟩⟩
theorem connB_parts {n : Nat} {es : List E3} (hG : RightG n es) : connB n es = decide (partsP n (endsL es) = 1) := by
 have := hG.lo
 rw [Bool.eq_iff_iff, connB_iff hG, decide_eq_true_eq, partsP_one (by omega)]
 unfold AllConn
 exact ⟨fun h v hv => (conn_cn hG).1 (h v hv), fun h v hv => (conn_cn hG).2 (h v hv)⟩
def joinErr (n : Int) (es : List E3) : Int := if checkG n es ≠ 0 then checkG n es else if connB n.toNat es = false then 13 else 0
theorem join_zero {n : Int} {es : List E3} (h : joinErr n es = 0) : checkG n es = 0 ∧ RightG n es ∧ connB n.toNat es = true := by
 unfold joinErr at h
 by_cases hz : checkG n es = 0
 ·rw [if_neg (fun hc => hc hz)] at h
  refine ⟨hz, right_of hz, ?_⟩
  cases hc : connB n.toNat es
  ·rw [hc] at h; simp at h
  ·rfl
 ·rw [if_pos hz] at h; omega
theorem ends_bad (n : Int) (A : Option Addr) (c : Nat) (es : List E3) (hn : es.length ≤ 10000) (z : Int) (hz : checkG n es = z) (hz0 : z ≠ 0) (w : World) (h : Reads w w.heap.size 3 A es.length (edgeCells es)) :
  Calls Tryz.prog 158 #[.agg #[.int .i64 n, .slice A es.length c]] w fun e w' => e = .returned (.tuple #[.slice none 0 0, .int .i64 z]) ∧ Below w.heap.size w w' := by
 have GC := gcheck_any n A c es (by omega)
 rw [hz] at GC
 have GC := Lib.hid GC
 have hb : (z != 0) = true := by simpa using hz0
 clear hz hz0
 refine (callsIn_wide (n := 3)).1 ?_
 refine callsIn_of_wp_marks Tryz.func158 rfl trivial ?_
 simp only [Tryz.ntmps158, List.size_toArray, List.length_cons, List.length_nil, Nat.reduceAdd, Nat.reduceSub, Array.replicate_succ, Array.replicate_zero, List.push_toArray, List.append_toArray, List.nil_append, List.cons_append]
 gi_wp2_with fail
 refine ⟨trivial, ?_⟩
 refine (inW (GC.out _ ((h.alloc (Nat.le_refl _) _).more (by simp)))).mono ?_
 rintro e w1 ⟨rfl, hb1⟩
 have hB1 : Below w.heap.size w w1 := ((Below.refl _ _).alloc (Nat.le_refl _) _).trans (hb1.mono (by simp))
 gi_wp2
 refine end_marks [] _ trivial fun w' ho => ⟨.tuple #[.slice none 0 0, .int .i64 z], by simp [results, Tryz.results158, go_sem], rfl, ?_⟩
 exact hB1.trans (ho.below (fun k hk e => by cases e) hB1.size)
theorem Reads.pairAt {w : World} {B n : Nat} {A : Option Addr} {ps : List (Nat × Nat)} {k : Nat} {e : Nat × Nat} (h : Reads w B 2 A n (pair2 ps)) (he : ps[k]? = some e) :
  ∃ b off, A = some ⟨b, off, none⟩ ∧ b < B ∧ w.cell? ⟨b, off + k * 2, none⟩ = some (.int .i64 (e.1 : Int)) ∧ w.cell? ⟨b, off + k * 2 + 1, none⟩ = some (.int .i64 (e.2 : Int)) := by
 have at_ : ∀ (ps : List (Nat × Nat)) (k : Nat), ps[k]? = some e → (pair2 ps)[k * 2]? = some (.int .i64 (e.1 : Int)) ∧ (pair2 ps)[k * 2 + 1]? = some (.int .i64 (e.2 : Int)) := by
  intro ps
  induction ps with
  | nil => intro k hk; simp at hk
  | cons p ps ih =>
    intro k hk
    rcases k with _ | k
    ·have e1 : p = e := by simpa using hk
     subst e1
     exact ⟨rfl, rfl⟩
    ·obtain ⟨i1, i2⟩ := ih k (by simpa using hk)
     have e1 : pair2 (p :: ps) = .int .i64 p.1 :: .int .i64 p.2 :: pair2 ps := rfl
     rw [e1, show (k + 1) * 2 = k * 2 + 1 + 1 by omega]
     exact ⟨by simpa using i1, by simpa using i2⟩
 have hk : k < ps.length := (List.getElem?_eq_some_iff.1 he).1
 have hl := h.1
 rw [pair2_length] at hl
 obtain ⟨b, off, hA, hb, hc⟩ := h.2 (by omega)
 obtain ⟨h1, h2⟩ := at_ ps k he
 exact ⟨b, off, hA, hb, hc _ _ h1, by have := hc _ _ h2; rwa [show off + (k * 2 + 1) = off + k * 2 + 1 from by omega] at this⟩
theorem own_rebase2 {w : World} {base base' : Nat} {e : TypeId} {size : Nat} {v : Value} {n : Nat} {xs : List Value} (h : w.ownsRow base e size v n xs) (hb : base' ≤ base) : w.ownsRow base' e size v n xs := by
 obtain ⟨h1, h2⟩ := h
 refine ⟨h1, ?_⟩
 rcases h2 with h2 | ⟨g, cap, cur, hv, hg, r⟩
 ·exact .inl h2
 ·exact .inr ⟨g, cap, cur, hv, by omega, r⟩
theorem OwnQ.reads {w : World} {base : Nat} {A : Option Addr} {c : Nat} {ps : List (Nat × Nat)} (h : OwnQ w base A c ps) : Reads w w.heap.size 2 A ps.length (pair2 ps) := Reads.of_own h
abbrev obj12 : Obj := .cells #[.int .i64 0, .int .i64 1, .int .i64 2, .int .i64 3, .int .i64 4, .int .i64 5, .int .i64 6, .int .i64 7, .int .i64 8, .int .i64 9, .int .i64 10, .int .i64 11] 174
def GivenR (w : World) (z : Int) (E : List (Nat × Nat)) (e : Ending) (w' : World) : Prop :=
 ∃ Ar lr cr, e = .returned (.tuple #[.slice Ar lr cr, .int .i64 z]) ∧ (z = 0 → lr = E.length ∧ OwnQ w' w.heap.size Ar cr E) ∧ (z ≠ 0 → lr = 0 ∧ Ar = none) ∧ Below w.heap.size w w'
theorem tgiven_any (n : Int) (A : Option Addr) (c : Nat) (es : List E3) (hn : es.length ≤ 10000) (w : World) (h : Reads w w.heap.size 3 A es.length (edgeCells es)) :
  Calls Tryz.prog 105 #[.agg #[.int .i64 n, .slice A es.length c]] w fun e w' => GivenR w (joinErr n es) (endsL es) e w' := by
 have g0 := Blk.new w 24 #[.int .i64 n, .slice A es.length c]
 have hb0 : Below w.heap.size w (w.alloc (.cells #[.int .i64 n, .slice A es.length c] 24)) := (Below.refl _ _).alloc (Nat.le_refl _) _
 have c0 := g0.cell 0
 have c1 := g0.cell 1
 by_cases hz : checkG n es = 0
 ·have hG := right_of hz
  have hlo := hG.lo
  have hhi := hG.hi
  obtain ⟨m, rfl⟩ := Int.eq_ofNat_of_zero_le (show 0 ≤ n by omega)
  have hm12 : m ≤ 12 := by omega
  have EC := Lib.hid (fun (W : World) (hB : Below w.heap.size w W) => ends_ok m A c es hn hz m hG.ok W ((h.below hB).more hB.size))
  have HBD := Lib.hid (bd_ends hG)
  have HJ : Hid (joinErr m es = if partsP m (endsL es) = 1 then 0 else 13) := by
   unfold Hid joinErr
   rw [if_neg (fun hc => hc hz), Int.toNat_natCast, connB_parts hG]
   by_cases hp : partsP m (endsL es) = 1
   ·rw [if_pos hp, decide_eq_true hp]; simp
   ·rw [if_neg hp, decide_eq_false hp]; simp
  have hel := endsL_length hG.ok
  have hpos : Hid (∀ ps, 1 ≤ partsP m ps) := fun ps => partsP_pos (by omega)
  have HP0 : Hid (partsP m [] = m) := partsP_nil m
  obtain ⟨E, hE⟩ : ∃ E, endsL es = E := ⟨_, rfl⟩
  rw [hE] at EC HBD HJ hel ⊢
  rw [HJ.out]
  obtain ⟨z, hzz⟩ : ∃ z : Int, (if partsP m E = 1 then (0 : Int) else 13) = z := ⟨_, rfl⟩
  rw [hzz]
  have HZ := Lib.hid hzz
  clear hz hG hE HJ hzz
  go_enter Tryz.func105, Tryz.ntmps105
  go_wp2_with fail
  refine (EC.out _ hb0).mono ?_
  rintro e w1 ⟨Ar, cr, rfl, HQ, hb1⟩
  have B1 := hb0.trans (hb1.mono hb0.size)
  have g1 := g0.next hb1
  have HQ : Hid (OwnQ w1 w.heap.size Ar cr E) := own_rebase2 HQ hb0.size
  clear g0 hb0 c0 c1 hb1
  go_wp2_with fail
  refine (loose_any w1).mono ?_
  rintro e w2 ⟨rfl, hb2⟩
  have g2 := (g1.next hb2).alloc obj12
  have F2 : Blk (w2.alloc obj12) w2.heap.size 174 (fcells (List.range 12)) := Blk.new w2 _ _
  have B2 : Below w1.heap.size w1 (w2.alloc obj12) := hb2.alloc hb2.size _
  have hs2 := hb2.size
  have c0 := g2.cell 0
  obtain ⟨gf, hgf⟩ : ∃ gf, w2.heap.size = gf := ⟨_, rfl⟩
  have HGF := Lib.hid hgf
  rw [hgf] at F2 hs2
  clear hb2 hgf
  go_wp2_with fail
  try rw [HGF.out]
  go_loopw [7, 9, 23] (fun p _ i wr => ∃ (k : Nat) (f : List Nat), k ≤ E.length ∧ i = .int .i64 k ∧ p = .int .i64 ((partsP m (E.take k) : Nat) : Int) ∧ Hid (FR (E.take k) f) ∧ Hid (Blk wr gf 174 (fcells f)) ∧ Hid (Below w1.heap.size w1 wr)) (fun _ _ i _ => E.length - (intOf i).toNat)
  case atStart => exact ⟨0, List.range 12, by omega, rfl, by rw [List.take_zero, HP0.out], fr_nil, F2, B2⟩
  case round =>
   obtain ⟨k, f, hk, rfl, rfl, HF, HB, HW⟩ := hrel
   clear F2 B2 g2 c0
   have hwz := HW.out.size
   by_cases hlt : k < E.length
   ·obtain ⟨⟨a, b⟩, hx⟩ := get_of_lt hlt
    have hab := HBD.out _ (List.mem_of_getElem? hx)
    dsimp only at hab
    have hi : (k : Int) < (E.length : Int) := by omega
    obtain ⟨bA, oA, hA, hbA, q0, q1⟩ := ((HQ.out.reads.below HW.out)).pairAt hx
    subst hA
    have B0 := HB.out.alloc (.cells #[.int .i64 a, .int .i64 b] 50)
    have JC := Lib.hid (tjoin_any gf (E.take k) f HF.out a b (by omega) (by omega) _ B0)
    have ht := take_snoc hx
    have hpn : partsP m (E.take (k + 1)) + (if Cn (E.take k) a b then 0 else 1) = partsP m (E.take k) := by
     rw [ht]
     have hmm : ∀ p, p ∈ E.take k ++ [(a, b)] ↔ p ∈ (a, b) :: E.take k := fun p => by simp [or_comm]
     rw [partsP_congr fun _ _ => cn_same hmm]
     by_cases hc : Cn (E.take k) a b
     ·rw [if_pos hc, partsP_in (p := (a, b)) hc]; rfl
     ·rw [if_neg hc]; exact partsP_out (p := (a, b)) hab.1 hab.2 hc
    have hp1 := hpos.out (E.take (k + 1))
    have HBA : Hid (Below w1.heap.size w1 (wr.alloc (.cells #[.int .i64 a, .int .i64 b] 50))) := HW.out.alloc hwz _
    obtain ⟨P, hP⟩ : ∃ P, partsP m (E.take k) = P := ⟨_, rfl⟩
    obtain ⟨P', hP'⟩ : ∃ P', partsP m (E.take (k + 1)) = P' := ⟨_, rfl⟩
    rw [hP, hP'] at hpn
    rw [hP'] at hp1
    rw [hP]
    have hP12 : Hid (P ≤ 12) := by rw [← hP]; show (List.filter _ _).length ≤ 12; exact Nat.le_trans (List.length_filter_le _ _) (by simpa using hm12)
    have HT := Lib.hid ht
    have HP' := Lib.hid hP'
    have hgf1 : Hid (w1.heap.size ≤ gf) := hs2
    clear hx hP hP' ht
    by_cases hc : Cn (E.take k) a b
    ·rw [decide_eq_true hc] at JC
     rw [if_pos hc] at hpn
     have HN := Lib.hid hpn
     clear hc hpn
     go_wp2_with (go_at_call 131; (with_reducible refine (JC.out).mono ?_); rintro e w5 ⟨rfl, f', HF', HB', ho⟩)
     have HW5 := Lib.hid (HBA.out.trans (ho.below (fun j hj e => by have := hgf1.out; omega) HBA.out.size))
     go_roundw
     case rel => exact ⟨k + 1, f', by omega, by go_num, by have := HN.out; rw [HP'.out]; congr 1; omega, by rw [Hid, HT.out]; exact HF'.out, HB', HW5⟩
     case measure => simp [intOf]; omega
    ·rw [decide_eq_false hc] at JC
     rw [if_neg hc] at hpn
     have hwp : IntKind.i64.wrap ((P : Int) - 1) = (P : Int) - 1 := IntWalk.i64_in _ (by have := hP12.out; omega)
     have HN := Lib.hid hpn
     clear hc hpn
     go_wp2_with (go_at_call 131; (with_reducible refine (JC.out).mono ?_); rintro e w5 ⟨rfl, f', HF', HB', ho⟩)
     have HW5 := Lib.hid (HBA.out.trans (ho.below (fun j hj e => by have := hgf1.out; omega) HBA.out.size))
     go_roundw
     case rel => exact ⟨k + 1, f', by omega, by go_num, by have := HN.out; rw [HP'.out]; congr 1; omega, by rw [Hid, HT.out]; exact HF'.out, HB', HW5⟩
     case measure => simp [intOf]; omega
   ·obtain rfl : k = E.length := by omega
    rw [List.take_length] at HF ⊢
    have hp1 := hpos.out E
    have BW := Lib.hid (B1.trans (HW.out.mono B1.size))
    have HQ2 : Hid (OwnQ wr w.heap.size Ar cr E) := own_kept2 HQ.out fun j hj => HW.out.block j (World.ownsRow.lt HQ.out j (blockOf_own.2 hj)).2
    obtain ⟨P, hP⟩ : ∃ P, partsP m E = P := ⟨_, rfl⟩
    rw [hP] at hp1 ⊢
    have HP := Lib.hid hP
    clear hP
    by_cases hone : P = 1
    ·have HI : Hid (z = 0) := by rw [Hid, ← HZ.out]; exact if_pos (HP.out.trans hone)
     subst hone
     have hg : ¬ (1 : Int) < ((1 : Nat) : Int) := by omega
     go_wp2
     go_ret2
     exact ⟨Ar, _, cr, by rw [HI.out]; rfl, fun _ => ⟨rfl, HQ2.out⟩, fun h => absurd HI.out h, BW.out⟩
    ·have hg : (1 : Int) < (P : Int) := by omega
     have hi1 : z = 13 := by rw [← HZ.out]; exact if_neg (fun hc => hone (HP.out.symm.trans hc))
     have hgn : 1 < P := by omega
     have hgd : decide ((1 : Int) < (P : Int)) = true := decide_eq_true hg
     have hge : decide (1 < P) = true := decide_eq_true hgn
     have HI := Lib.hid hi1
     clear hone HZ hi1
     go_wp2
     go_ret2
     refine ⟨none, 0, 0, ?_, ?_, fun _ => ⟨rfl, rfl⟩, BW.out⟩
     ·rw [HI.out]; rfl
     ·intro h; rw [HI.out] at h; omega
 ·have hj : joinErr n es = checkG n es := by unfold joinErr; rw [if_pos hz]
  rw [hj]
  obtain ⟨z, hzz⟩ : ∃ z, checkG n es = z := ⟨_, rfl⟩
  have EC := Lib.hid (ends_bad n A c es hn z hzz (by rw [← hzz]; exact hz) _ ((h.below hb0).more hb0.size))
  rw [hzz] at hz ⊢
  have hb : (z != 0) = true := by simpa using hz
  have HZ := Lib.hid hz
  clear hz hzz hj
  go_enter Tryz.func105, Tryz.ntmps105
  go_wp2_with fail
  refine (EC.out).mono ?_
  rintro e w1 ⟨rfl, hb1⟩
  go_wp2
  go_ret2
  exact ⟨none, 0, 0, rfl, fun h => absurd h HZ.out, fun _ => ⟨rfl, rfl⟩, hb0.trans (hb1.mono hb0.size)⟩
end Go.Proofs.YtnbikkcalcpedaaGreatDoor
