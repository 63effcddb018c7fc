/-
  Texts of this claim, put together: Given, Reach.
-/
import Derived.Test.YtnbikkcalcpedaaGreatDoorK08
import Derived.Test.YtnbikkcalcpedaaGreatDoorK16
import Derived.Test.YtnbikkcalcpedaaGreatDoorK10
import Derived.Test.YtnbikkcalcpedaaGreatDoorK09
import Derived.Test.YtnbikkcalcpedaaGreatDoorK17
import Derived.Test.YtnbikkcalcpedaaGreatDoorK02
import Derived.Test.YtnbikkcalcpedaaGreatDoorK15
import Derived.Test.YtnbikkcalcpedaaGreatDoorK13
/-! Package tree: given, spans, checked, Check; connect.Edges; graph.Size. -/
namespace Go.Proofs.YtnbikkcalcpedaaGreatDoor
open Go.RowKit Go.Shelf
attribute [local go_sem] Oper.semAt_some

/-! What connects, by edges and by single edges. -/
theorem mem_endsL {n : Int} {es : List E3} (hok : ∀ e ∈ es, okE n e) {p : Nat × Nat} : p ∈ endsL es ↔ ∃ e ∈ es, e.1 = p.1 ∧ e.2.1 = p.2 := by
  unfold endsL
  rw [List.mem_flatMap]
  constructor
  · rintro ⟨e, he, hp⟩
    have ho := hok e he
    unfold okE at ho
    have := List.eq_of_mem_replicate hp
    subst this
    exact ⟨e, he, by simp; omega, by simp; omega⟩
  · rintro ⟨e, he, h1, h2⟩
    have ho := hok e he
    unfold okE at ho
    refine ⟨e, he, List.mem_replicate.2 ⟨by omega, ?_⟩⟩
    have e1 : e.1.toNat = p.1 := by omega
    have e2 : e.2.1.toNat = p.2 := by omega
    rw [e1, e2]
theorem bd_ends {n : Nat} {es : List E3} (hG : RightG n es) : BdP n (endsL es) := by
  intro p hp
  obtain ⟨e, he, h1, h2⟩ := (mem_endsL hG.ok).1 hp
  have ho := hG.ok e he
  unfold okE at ho
  omega
theorem conn_cn {n : Nat} {es : List E3} (hG : RightG n es) {a b : Nat} : Conn es a b ↔ Cn (endsL es) a b := by
  constructor
  · intro h
    induction h with
    | refl => exact .refl
    | step _ hs ih =>
      obtain ⟨e, he, hc⟩ := hs
      rcases hc with ⟨h1, h2⟩ | ⟨h1, h2⟩
      · exact ih.step (.inl ((mem_endsL hG.ok).2 ⟨e, he, h1, h2⟩))
      · exact ih.step (.inr ((mem_endsL hG.ok).2 ⟨e, he, h1, h2⟩))
  · intro h
    induction h with
    | refl => exact .refl
    | step _ hs ih =>
      rcases hs with hs | hs
      · obtain ⟨e, he, h1, h2⟩ := (mem_endsL hG.ok).1 hs
        exact ih.step ⟨e, he, .inl ⟨h1, h2⟩⟩
      · obtain ⟨e, he, h1, h2⟩ := (mem_endsL hG.ok).1 hs
        exact ih.step ⟨e, he, .inr ⟨h1, h2⟩⟩
theorem connB_parts {n : Nat} {es : List E3} (hG : RightG n es) : connB n es = decide (partsP n (endsL es) = 1) := by
  have := hG.lo
  rw [Bool.eq_iff_iff, connB_iff hG, decide_eq_true_eq, partsP_one (by omega)]
  unfold AllConn
  exact ⟨fun h v hv => (conn_cn hG).1 (h v hv), fun h v hv => (conn_cn hG).2 (h v hv)⟩
/-- The error of a graph that has to be connected. -/
def joinErr (n : Int) (es : List E3) : Int := if checkG n es ≠ 0 then checkG n es else if connB n.toNat es = false then 13 else 0
theorem join_zero {n : Int} {es : List E3} (h : joinErr n es = 0) : checkG n es = 0 ∧ RightG n es ∧ connB n.toNat es = true := by
  unfold joinErr at h
  by_cases hz : checkG n es = 0
  · rw [if_neg (fun hc => hc hz)] at h
    refine ⟨hz, right_of hz, ?_⟩
    cases hc : connB n.toNat es
    · rw [hc] at h; simp at h
    · rfl
  · rw [if_pos hz] at h; omega
set_option maxRecDepth 100000 in
set_option maxHeartbeats 2000000 in
theorem ends_bad (n : Int) (A : Option Addr) (c : Nat) (es : List E3) (hn : es.length ≤ 10000) (z : Int) (hz : checkG n es = z) (hz0 : z ≠ 0) (w : World) (h : Reads w w.heap.size 3 A es.length (edgeCells es)) :
    Calls Tryz.prog 158 #[.agg #[.int .i64 n, .slice A es.length c]] w fun e w' => e = .returned (.tuple #[.slice none 0 0, .int .i64 z]) ∧ Below w.heap.size w w' := by
  have GC := gcheck_any n A c es (by omega)
  rw [hz] at GC
  have GC := Lib.hid GC
  have hb : (z != 0) = true := by simpa using hz0
  clear hz hz0
  refine (callsIn_wide (n := 3)).1 ?_
  refine callsIn_of_wp_marks Tryz.func158 rfl trivial ?_
  simp only [Tryz.ntmps158, List.size_toArray, List.length_cons, List.length_nil, Nat.reduceAdd, Nat.reduceSub, Array.replicate_succ, Array.replicate_zero, List.push_toArray, List.append_toArray, List.nil_append, List.cons_append]
  gi_wp2_with fail
  refine ⟨trivial, ?_⟩
  refine (inW (GC.out _ ((h.alloc (Nat.le_refl _) _).more (by simp)))).mono ?_
  rintro e w1 ⟨rfl, hb1⟩
  have hB1 : Below w.heap.size w w1 := ((Below.refl _ _).alloc (Nat.le_refl _) _).trans (hb1.mono (by simp))
  gi_wp2
  refine end_marks [] _ trivial fun w' ho => ⟨.tuple #[.slice none 0 0, .int .i64 z], by simp [results, Tryz.results158, go_sem], rfl, ?_⟩
  exact hB1.trans (ho.below (fun k hk e => by cases e) hB1.size)

theorem Reads.pairAt {w : World} {B n : Nat} {A : Option Addr} {ps : List (Nat × Nat)} {k : Nat} {e : Nat × Nat} (h : Reads w B 2 A n (pair2 ps)) (he : ps[k]? = some e) :
    ∃ b off, A = some ⟨b, off, none⟩ ∧ b < B ∧ w.cell? ⟨b, off + k * 2, none⟩ = some (.int .i64 (e.1 : Int)) ∧ w.cell? ⟨b, off + k * 2 + 1, none⟩ = some (.int .i64 (e.2 : Int)) := by
  have at_ : ∀ (ps : List (Nat × Nat)) (k : Nat), ps[k]? = some e → (pair2 ps)[k * 2]? = some (.int .i64 (e.1 : Int)) ∧ (pair2 ps)[k * 2 + 1]? = some (.int .i64 (e.2 : Int)) := by
    intro ps
    induction ps with
    | nil => intro k hk; simp at hk
    | cons p ps ih =>
      intro k hk
      rcases k with _ | k
      · have e1 : p = e := by simpa using hk
        subst e1
        exact ⟨rfl, rfl⟩
      · obtain ⟨i1, i2⟩ := ih k (by simpa using hk)
        have e1 : pair2 (p :: ps) = .int .i64 p.1 :: .int .i64 p.2 :: pair2 ps := rfl
        rw [e1, show (k + 1) * 2 = k * 2 + 1 + 1 by omega]
        exact ⟨by simpa using i1, by simpa using i2⟩
  have hk : k < ps.length := (List.getElem?_eq_some_iff.1 he).1
  have hl := h.1
  rw [pair2_length] at hl
  obtain ⟨b, off, hA, hb, hc⟩ := h.2 (by omega)
  obtain ⟨h1, h2⟩ := at_ ps k he
  exact ⟨b, off, hA, hb, hc _ _ h1, by have := hc _ _ h2; rwa [show off + (k * 2 + 1) = off + k * 2 + 1 from by omega] at this⟩
theorem own_rebase2 {w : World} {base base' : Nat} {e : TypeId} {size : Nat} {v : Value} {n : Nat} {xs : List Value} (h : w.ownsRow base e size v n xs) (hb : base' ≤ base) : w.ownsRow base' e size v n xs := by
  obtain ⟨h1, h2⟩ := h
  refine ⟨h1, ?_⟩
  rcases h2 with h2 | ⟨g, cap, cur, hv, hg, r⟩
  · exact .inl h2
  · exact .inr ⟨g, cap, cur, hv, by omega, r⟩
theorem OwnQ.reads {w : World} {base : Nat} {A : Option Addr} {c : Nat} {ps : List (Nat × Nat)} (h : OwnQ w base A c ps) : Reads w w.heap.size 2 A ps.length (pair2 ps) := Reads.of_own h
abbrev obj12 : Obj := .cells #[.int .i64 0, .int .i64 1, .int .i64 2, .int .i64 3, .int .i64 4, .int .i64 5, .int .i64 6, .int .i64 7, .int .i64 8, .int .i64 9, .int .i64 10, .int .i64 11] 174

/-- What given and checked hand back: the ends, or the error z. -/
def GivenR (w : World) (z : Int) (E : List (Nat × Nat)) (e : Ending) (w' : World) : Prop :=
  ∃ Ar lr cr, e = .returned (.tuple #[.slice Ar lr cr, .int .i64 z]) ∧ (z = 0 → lr = E.length ∧ OwnQ w' w.heap.size Ar cr E) ∧ (z ≠ 0 → lr = 0 ∧ Ar = none) ∧ Below w.heap.size w w'
set_option maxRecDepth 100000 in
set_option maxHeartbeats 4000000 in
theorem tgiven_any (n : Int) (A : Option Addr) (c : Nat) (es : List E3) (hn : es.length ≤ 10000) (w : World) (h : Reads w w.heap.size 3 A es.length (edgeCells es)) :
    Calls Tryz.prog 105 #[.agg #[.int .i64 n, .slice A es.length c]] w fun e w' => GivenR w (joinErr n es) (endsL es) e w' := by
  have g0 := Blk.new w 24 #[.int .i64 n, .slice A es.length c]
  have hb0 : Below w.heap.size w (w.alloc (.cells #[.int .i64 n, .slice A es.length c] 24)) := (Below.refl _ _).alloc (Nat.le_refl _) _
  have c0 := g0.cell 0
  have c1 := g0.cell 1
  by_cases hz : checkG n es = 0
  · have hG := right_of hz
    have hlo := hG.lo
    have hhi := hG.hi
    obtain ⟨m, rfl⟩ := Int.eq_ofNat_of_zero_le (show 0 ≤ n by omega)
    have hm12 : m ≤ 12 := by omega
    have EC := Lib.hid (fun (W : World) (hB : Below w.heap.size w W) => ends_ok m A c es hn hz m hG.ok W ((h.below hB).more hB.size))
    have HBD := Lib.hid (bd_ends hG)
    have HJ : Hid (joinErr m es = if partsP m (endsL es) = 1 then 0 else 13) := by
      unfold Hid joinErr
      rw [if_neg (fun hc => hc hz), Int.toNat_natCast, connB_parts hG]
      by_cases hp : partsP m (endsL es) = 1
      · rw [if_pos hp, decide_eq_true hp]; simp
      · rw [if_neg hp, decide_eq_false hp]; simp
    have hel := endsL_length hG.ok
    have hpos : Hid (∀ ps, 1 ≤ partsP m ps) := fun ps => partsP_pos (by omega)
    have HP0 : Hid (partsP m [] = m) := partsP_nil m
    obtain ⟨E, hE⟩ : ∃ E, endsL es = E := ⟨_, rfl⟩
    rw [hE] at EC HBD HJ hel ⊢
    rw [HJ.out]
    obtain ⟨z, hzz⟩ : ∃ z : Int, (if partsP m E = 1 then (0 : Int) else 13) = z := ⟨_, rfl⟩
    rw [hzz]
    have HZ := Lib.hid hzz
    clear hz hG hE HJ hzz
    go_enter Tryz.func105, Tryz.ntmps105
    go_wp2_with fail
    refine (EC.out _ hb0).mono ?_
    rintro e w1 ⟨Ar, cr, rfl, HQ, hb1⟩
    have B1 := hb0.trans (hb1.mono hb0.size)
    have g1 := g0.next hb1
    have HQ : Hid (OwnQ w1 w.heap.size Ar cr E) := own_rebase2 HQ hb0.size
    clear g0 hb0 c0 c1 hb1
    go_wp2_with fail
    refine (loose_any w1).mono ?_
    rintro e w2 ⟨rfl, hb2⟩
    have g2 := (g1.next hb2).alloc obj12
    have F2 : Blk (w2.alloc obj12) w2.heap.size 174 (fcells (List.range 12)) := Blk.new w2 _ _
    have B2 : Below w1.heap.size w1 (w2.alloc obj12) := hb2.alloc hb2.size _
    have hs2 := hb2.size
    have c0 := g2.cell 0
    obtain ⟨gf, hgf⟩ : ∃ gf, w2.heap.size = gf := ⟨_, rfl⟩
    have HGF := Lib.hid hgf
    rw [hgf] at F2 hs2
    clear hb2 hgf
    go_wp2_with fail
    try rw [HGF.out]
    go_loopw [7, 9, 23] (fun p _ i wr => ∃ (k : Nat) (f : List Nat), k ≤ E.length ∧ i = .int .i64 k ∧ p = .int .i64 ((partsP m (E.take k) : Nat) : Int) ∧ Hid (FR (E.take k) f) ∧ Hid (Blk wr gf 174 (fcells f)) ∧ Hid (Below w1.heap.size w1 wr)) (fun _ _ i _ => E.length - (intOf i).toNat)
    case atStart => exact ⟨0, List.range 12, by omega, rfl, by rw [List.take_zero, HP0.out], fr_nil, F2, B2⟩
    case round =>
      obtain ⟨k, f, hk, rfl, rfl, HF, HB, HW⟩ := hrel
      clear F2 B2 g2 c0
      have hwz := HW.out.size
      by_cases hlt : k < E.length
      · obtain ⟨⟨a, b⟩, hx⟩ := get_of_lt hlt
        have hab := HBD.out _ (List.mem_of_getElem? hx)
        dsimp only at hab
        have hi : (k : Int) < (E.length : Int) := by omega
        obtain ⟨bA, oA, hA, hbA, q0, q1⟩ := ((HQ.out.reads.below HW.out)).pairAt hx
        subst hA
        have B0 := HB.out.alloc (.cells #[.int .i64 a, .int .i64 b] 50)
        have JC := Lib.hid (tjoin_any gf (E.take k) f HF.out a b (by omega) (by omega) _ B0)
        have ht := take_snoc hx
        have hpn : partsP m (E.take (k + 1)) + (if Cn (E.take k) a b then 0 else 1) = partsP m (E.take k) := by
          rw [ht]
          have hmm : ∀ p, p ∈ E.take k ++ [(a, b)] ↔ p ∈ (a, b) :: E.take k := fun p => by simp [or_comm]
          rw [partsP_congr fun _ _ => cn_same hmm]
          by_cases hc : Cn (E.take k) a b
          · rw [if_pos hc, partsP_in (p := (a, b)) hc]; rfl
          · rw [if_neg hc]; exact partsP_out (p := (a, b)) hab.1 hab.2 hc
        have hp1 := hpos.out (E.take (k + 1))
        have HBA : Hid (Below w1.heap.size w1 (wr.alloc (.cells #[.int .i64 a, .int .i64 b] 50))) := HW.out.alloc hwz _
        obtain ⟨P, hP⟩ : ∃ P, partsP m (E.take k) = P := ⟨_, rfl⟩
        obtain ⟨P', hP'⟩ : ∃ P', partsP m (E.take (k + 1)) = P' := ⟨_, rfl⟩
        rw [hP, hP'] at hpn
        rw [hP'] at hp1
        rw [hP]
        have hP12 : Hid (P ≤ 12) := by rw [← hP]; show (List.filter _ _).length ≤ 12; exact Nat.le_trans (List.length_filter_le _ _) (by simpa using hm12)
        have HT := Lib.hid ht
        have HP' := Lib.hid hP'
        have hgf1 : Hid (w1.heap.size ≤ gf) := hs2
        clear hx hP hP' ht
        by_cases hc : Cn (E.take k) a b
        · rw [decide_eq_true hc] at JC
          rw [if_pos hc] at hpn
          have HN := Lib.hid hpn
          clear hc hpn
          go_wp2_with (go_at_call 131; (with_reducible refine (JC.out).mono ?_); rintro e w5 ⟨rfl, f', HF', HB', ho⟩)
          have HW5 := Lib.hid (HBA.out.trans (ho.below (fun j hj e => by have := hgf1.out; omega) HBA.out.size))
          go_roundw
          case rel => exact ⟨k + 1, f', by omega, by go_num, by have := HN.out; rw [HP'.out]; congr 1; omega, by rw [Hid, HT.out]; exact HF'.out, HB', HW5⟩
          case measure => simp [intOf]; omega
        · rw [decide_eq_false hc] at JC
          rw [if_neg hc] at hpn
          have hwp : IntKind.i64.wrap ((P : Int) - 1) = (P : Int) - 1 := IntWalk.i64_in _ (by have := hP12.out; omega)
          have HN := Lib.hid hpn
          clear hc hpn
          go_wp2_with (go_at_call 131; (with_reducible refine (JC.out).mono ?_); rintro e w5 ⟨rfl, f', HF', HB', ho⟩)
          have HW5 := Lib.hid (HBA.out.trans (ho.below (fun j hj e => by have := hgf1.out; omega) HBA.out.size))
          go_roundw
          case rel => exact ⟨k + 1, f', by omega, by go_num, by have := HN.out; rw [HP'.out]; congr 1; omega, by rw [Hid, HT.out]; exact HF'.out, HB', HW5⟩
          case measure => simp [intOf]; omega
      · obtain rfl : k = E.length := by omega
        rw [List.take_length] at HF ⊢
        have hp1 := hpos.out E
        have BW := Lib.hid (B1.trans (HW.out.mono B1.size))
        have HQ2 : Hid (OwnQ wr w.heap.size Ar cr E) := own_kept2 HQ.out fun j hj => HW.out.block j (World.ownsRow.lt HQ.out j (blockOf_own.2 hj)).2
        obtain ⟨P, hP⟩ : ∃ P, partsP m E = P := ⟨_, rfl⟩
        rw [hP] at hp1 ⊢
        have HP := Lib.hid hP
        clear hP
        by_cases hone : P = 1
        · have HI : Hid (z = 0) := by rw [Hid, ← HZ.out]; exact if_pos (HP.out.trans hone)
          subst hone
          have hg : ¬ (1 : Int) < ((1 : Nat) : Int) := by omega
          go_wp2
          go_ret2
          exact ⟨Ar, _, cr, by rw [HI.out]; rfl, fun _ => ⟨rfl, HQ2.out⟩, fun h => absurd HI.out h, BW.out⟩
        · have hg : (1 : Int) < (P : Int) := by omega
          have hi1 : z = 13 := by rw [← HZ.out]; exact if_neg (fun hc => hone (HP.out.symm.trans hc))
          have hgn : 1 < P := by omega
          have hgd : decide ((1 : Int) < (P : Int)) = true := decide_eq_true hg
          have hge : decide (1 < P) = true := decide_eq_true hgn
          have HI := Lib.hid hi1
          clear hone HZ hi1
          go_wp2
          go_ret2
          refine ⟨none, 0, 0, ?_, ?_, fun _ => ⟨rfl, rfl⟩, BW.out⟩
          · rw [HI.out]; rfl
          · intro h; rw [HI.out] at h; omega
  · have hj : joinErr n es = checkG n es := by unfold joinErr; rw [if_pos hz]
    rw [hj]
    obtain ⟨z, hzz⟩ : ∃ z, checkG n es = z := ⟨_, rfl⟩
    have EC := Lib.hid (ends_bad n A c es hn z hzz (by rw [← hzz]; exact hz) _ ((h.below hb0).more hb0.size))
    rw [hzz] at hz ⊢
    have hb : (z != 0) = true := by simpa using hz
    have HZ := Lib.hid hz
    clear hz hzz hj
    go_enter Tryz.func105, Tryz.ntmps105
    go_wp2_with fail
    refine (EC.out).mono ?_
    rintro e w1 ⟨rfl, hb1⟩
    go_wp2
    go_ret2
    exact ⟨none, 0, 0, rfl, fun h => absurd h HZ.out, fun _ => ⟨rfl, rfl⟩, hb0.trans (hb1.mono hb0.size)⟩
end Go.Proofs.YtnbikkcalcpedaaGreatDoor

/-! ref08.Reached, ref08.Parts, ref08.Connected. -/
namespace Go.Proofs.YtnbikkcalcpedaaGreatDoor
open Go.RowKit

theorem bools_getB {o : List Bool} {k : Nat} (h : k < o.length) : (bools o)[k]? = some (.bool (getB o k)) := by
  simp [bools, getB, List.getD_eq_getElem?_getD, List.getElem?_eq_getElem h]

set_option maxRecDepth 100000 in
set_option maxHeartbeats 4000000 in
theorem reached_any (n : Nat) (hn12 : n ≤ 12) (A : Option Addr) (c : Nat) (es : List E3) (hn : es.length ≤ 1048576) (v : Nat) (hv : v < n) (w : World) (h : Reads w w.heap.size 3 A es.length (edgeCells es)) :
    Calls Tryz.prog 76 #[.agg #[.int .i64 n, .slice A es.length c], .int .i64 v] w fun e w' => ∃ g, e = .returned (.slice (some ⟨g, 0, none⟩) n n) ∧ Blk w' g 4 (bools (reached es n v)) ∧ w.heap.size ≤ g ∧ Below w.heap.size w w' := by
  have hmk := make_bools n (by omega)
  have hvi : (v : Int) < (n : Int) := by omega
  have hc0 : ((bools (List.replicate n false)))[v]? = some (.bool false) := by rw [bools_getB (by simpa using hv)]; simp [getB, List.getD_eq_getElem?_getD, hv]
  have g0 := (Blk.new w 24 #[.int .i64 n, .slice A es.length c]).alloc (.cells (bools (List.replicate n false)) 4)
  have gs := Blk.new (w.alloc (.cells #[.int .i64 n, .slice A es.length c] 24)) 4 (bools (List.replicate n false))
  rw [show (w.alloc (.cells #[.int .i64 n, .slice A es.length c] 24)).heap.size = w.heap.size + 1 from by simp] at gs
  have q1 := gs.cell v
  rw [hc0] at q1
  have q2 := gs.frozen v
  have HR : Hid (reached es n v = reachR es n ((List.replicate n false).set v true) n) := rfl
  obtain ⟨o0, ho0⟩ : ∃ o0, (List.replicate n false).set v true = o0 := ⟨_, rfl⟩
  have hl0 : o0.length = n := by rw [← ho0]; simp
  have e0 : (bools (List.replicate n false)).setIfInBounds v (.bool true) = bools o0 := by rw [bools_set, ho0]
  have g0' := (Blk.new w 24 #[.int .i64 n, .slice A es.length c]).alloc (.cells ((bools (List.replicate n false)).setIfInBounds v (.bool true)) 4)
  have gs' : Blk ((w.alloc (.cells #[.int .i64 n, .slice A es.length c] 24)).alloc (.cells ((bools (List.replicate n false)).setIfInBounds v (.bool true)) 4)) (w.heap.size + 1) 4 (bools o0) := by
    rw [← e0]
    have := Blk.new (w.alloc (.cells #[.int .i64 n, .slice A es.length c] 24)) 4 ((bools (List.replicate n false)).setIfInBounds v (.bool true))
    rwa [show (w.alloc (.cells #[.int .i64 n, .slice A es.length c] 24)).heap.size = w.heap.size + 1 from by simp] at this
  rw [ho0] at HR
  have HL := Lib.hid hl0
  clear ho0 hl0 hc0 g0 gs e0
  go_enter Tryz.func76, Tryz.ntmps76
  go_wp2
  go_loopw [6] (fun i wr => ∃ k : Nat, k ≤ n ∧ i = .int .i64 k ∧ Below w.heap.size w wr ∧ Blk wr w.heap.size 24 #[.int .i64 n, .slice A es.length c] ∧ Blk wr (w.heap.size + 1) 4 (bools (reachR es n o0 k))) (fun i _ => n - (intOf i).toNat)
  case atStart => exact ⟨0, by omega, rfl, ((Below.refl _ _).alloc (Nat.le_refl _) _).alloc (by simp) _, g0', gs'⟩
  case round =>
    obtain ⟨k, hk, rfl, hbel, g1, g2⟩ := hrel
    clear g0' gs' q1 q2 hmk
    obtain ⟨o1, ho1⟩ : ∃ o1, reachR es n o0 k = o1 := ⟨_, rfl⟩
    have hl1 : o1.length = n := by rw [← ho1, reachR_length, HL.out]
    have HO1 := Lib.hid ho1
    have HL1 := Lib.hid hl1
    rw [ho1] at g2
    clear ho1 hl1
    have c0 := g1.cell 0
    by_cases hlt : k < n
    · have hi : (k : Int) < (n : Int) := by omega
      go_wp2
      obtain ⟨wo, rfl⟩ : ∃ wo : World, wo = wr := ⟨_, rfl⟩
      clear c0
      go_loopw [7] (fun i wr => ∃ a : Nat, a ≤ n ∧ i = .int .i64 a ∧ Below w.heap.size w wr ∧ Blk wr w.heap.size 24 #[.int .i64 n, .slice A es.length c] ∧ Blk wr (w.heap.size + 1) 4 (bools (reachA es n o1 a))) (fun i _ => n - (intOf i).toNat)
      case atStart => exact ⟨0, by omega, rfl, hbel, g1, g2⟩
      case round =>
        obtain ⟨a, ha, rfl, hbel', g1', g2'⟩ := hrel
        clear hbel g1 g2
        obtain ⟨o2, ho2⟩ : ∃ o2, reachA es n o1 a = o2 := ⟨_, rfl⟩
        have hl2 : o2.length = n := by rw [← ho2, reachA_length, HL1.out]
        have HO2 := Lib.hid ho2
        have HL2 := Lib.hid hl2
        rw [ho2] at g2'
        clear ho2 hl2
        have c0 := g1'.cell 0
        by_cases hlta : a < n
        · have hi : (a : Int) < (n : Int) := by omega
          go_wp2
          obtain ⟨wo', rfl⟩ : ∃ wo : World, wo = wr := ⟨_, rfl⟩
          clear c0
          go_loopw [8] (fun i wr => ∃ b : Nat, b ≤ n ∧ i = .int .i64 b ∧ Below w.heap.size w wr ∧ Blk wr w.heap.size 24 #[.int .i64 n, .slice A es.length c] ∧ Blk wr (w.heap.size + 1) 4 (bools (reachB es a o2 b))) (fun i _ => n - (intOf i).toNat)
          case atStart => exact ⟨0, by omega, rfl, hbel', g1', g2'⟩
          case round =>
            obtain ⟨b, hb, rfl, hbel, g1, g2⟩ := hrel
            clear hbel' g1' g2'
            have hbs := reachB_succ es a o2 b
            obtain ⟨o3, ho3⟩ : ∃ o3, reachB es a o2 b = o3 := ⟨_, rfl⟩
            have hl3 : o3.length = n := by rw [← ho3, reachB_length, HL2.out]
            rw [ho3] at g2 hbs
            have HO3 := Lib.hid ho3
            clear ho3
            have c0 := g1.cell 0
            have c1 := g1.cell 1
            by_cases hltb : b < n
            · have hib : (b : Int) < (n : Int) := by omega
              have ca := g2.cell a
              rw [bools_getB (by omega)] at ca
              have cb := g2.cell b
              rw [bools_getB (by omega)] at cb
              have fb := g2.frozen b
              have hsz := hbel.size
              unfold stepB at hbs
              cases hga : getB o3 a
              · rw [hga] at ca hbs
                rw [if_neg (fun hc => by cases hc.1)] at hbs
                have HBS := Lib.hid hbs
                clear hbs hga cb fb
                go_wp2
                go_roundw
                case rel => exact ⟨b + 1, by omega, by go_num, hbel, g1, by rw [HBS.out]; exact g2⟩
                case measure => simp [intOf]; omega
              · rw [hga] at ca hbs
                have BC := Lib.hid (between_any n A c es hn a b wr ((h.below hbel).more hsz))
                obtain ⟨q, hq⟩ : ∃ q, btw es a b = q := ⟨_, rfl⟩
                rw [hq] at BC hbs
                clear hq hga
                by_cases hpos : 0 < q
                · rw [if_pos ⟨rfl, hpos⟩] at hbs
                  have HBS := Lib.hid hbs
                  clear hbs
                  go_wp2_with (go_at_call 104; (with_reducible refine (BC.out).mono ?_); rintro e w' ⟨rfl, hb'⟩
                               have k1 := g1.next hb'
                               have k2 := g2.next hb'
                               have d0 := k2.cell b
                               rw [bools_getB (by omega)] at d0
                               have d1 := k2.frozen b)
                  go_roundw
                  case rel =>
                    refine ⟨b + 1, by omega, by go_num, (hbel.trans (hb'.mono hsz)).setCell (by simp) _, k1.far (by simp) _, ?_⟩
                    have := k2.set_ b (.bool true)
                    rw [bools_set] at this
                    rw [HBS.out]; exact this
                  case measure => simp [intOf]; omega
                · rw [if_neg (fun hc => hpos hc.2)] at hbs
                  have HBS := Lib.hid hbs
                  clear hbs
                  go_wp2_with (go_at_call 104; (with_reducible refine (BC.out).mono ?_); rintro e w' ⟨rfl, hb'⟩)
                  go_roundw
                  case rel => exact ⟨b + 1, by omega, by go_num, hbel.trans (hb'.mono hsz), g1.next hb', by rw [HBS.out]; exact g2.next hb'⟩
                  case measure => simp [intOf]; omega
            · obtain rfl : b = n := by omega
              clear hbs
              go_wp2
              go_roundw
              case rel => exact ⟨a + 1, by omega, by go_num, hbel, g1, by rw [reachA_succ, HO2.out, HO3.out]; exact g2⟩
              case measure => simp [intOf]; omega
        · obtain rfl : a = n := by omega
          go_wp2
          go_roundw
          case rel => exact ⟨k + 1, by omega, by go_num, hbel', g1', by rw [reachR_succ, HO1.out, HO2.out]; exact g2'⟩
          case measure => simp [intOf]; omega
    · obtain rfl : k = n := by omega
      go_wp2
      go_ret
      exact ⟨w.heap.size + 1, rfl, by rw [HR.out, HO1.out]; exact g2, by omega, hbel⟩
end Go.Proofs.YtnbikkcalcpedaaGreatDoor

/-! ref08.Parts, ref08.Connected; the errors of graphs with sinks and configurations, as the reference finds them. -/
namespace Go.Proofs.YtnbikkcalcpedaaGreatDoor
open Go.RowKit

set_option maxRecDepth 100000 in
set_option maxHeartbeats 4000000 in
theorem rparts_any (n : Nat) (hn12 : n ≤ 12) (A : Option Addr) (c : Nat) (es : List E3) (hn : es.length ≤ 1048576) (w : World) (h : Reads w w.heap.size 3 A es.length (edgeCells es)) :
    Calls Tryz.prog 102 #[.agg #[.int .i64 n, .slice A es.length c]] w fun e w' => e = .returned (.int .i64 ((partsTo es n n).1 : Nat)) ∧ Below w.heap.size w w' := by
  have hmk := make_bools n (by omega)
  have g0 := (Blk.new w 24 #[.int .i64 n, .slice A es.length c]).alloc (.cells (bools (List.replicate n false)) 4)
  have gs := Blk.new (w.alloc (.cells #[.int .i64 n, .slice A es.length c] 24)) 4 (bools (List.replicate n false))
  rw [show (w.alloc (.cells #[.int .i64 n, .slice A es.length c] 24)).heap.size = w.heap.size + 1 from by simp] at gs
  go_enter Tryz.func102, Tryz.ntmps102
  go_wp2
  go_loopw [3, 5] (fun m i wr => ∃ (k x : Nat) (s : List Bool), k ≤ n ∧ i = .int .i64 k ∧ m = .int .i64 x ∧ x ≤ k ∧ Hid (partsTo es n k = (x, s)) ∧ Below w.heap.size w wr ∧ Blk wr w.heap.size 24 #[.int .i64 n, .slice A es.length c] ∧ Blk wr (w.heap.size + 1) 4 (bools s)) (fun _ i _ => n - (intOf i).toNat)
  case atStart => exact ⟨0, 0, _, by omega, rfl, rfl, by omega, rfl, ((Below.refl _ _).alloc (Nat.le_refl _) _).alloc (by simp) _, g0, gs⟩
  case round =>
    obtain ⟨k, x, s, hk, rfl, rfl, hx, HS, hbel, g1, g2⟩ := hrel
    clear g0 gs hmk
    have c0 := g1.cell 0
    have hsl : s.length = n := by have := partsTo_length es n k; rw [HS.out] at this; exact this
    have hps := partsTo_succ es n k
    rw [HS.out] at hps
    have hsz := hbel.size
    have hlt2 := g2.lt
    by_cases hlt : k < n
    · have hi : (k : Int) < (n : Int) := by omega
      have ck := g2.cell k
      rw [bools_getB (by omega)] at ck
      cases hsk : getB s k
      · rw [hsk] at ck
        rw [show getB (x, s).2 k = getB s k from rfl, hsk] at hps
        simp only [Bool.false_eq_true, if_false] at hps
        have HP := Lib.hid hps
        have RC := Lib.hid (reached_any n hn12 A c es hn k hlt wr ((h.below hbel).more hsz))
        obtain ⟨r, hr⟩ : ∃ r, reached es n k = r := ⟨_, rfl⟩
        have hrl : r.length = n := by rw [← hr, reached_length]
        rw [hr] at RC HP
        have c1 := g1.cell 1
        have hx1 : (x : Int) + 1 ≤ 100 := by omega
        clear hps hsk hr
        go_wp2_with (go_at_call 76; (with_reducible refine (RC.out).mono ?_); rintro e w' ⟨gr, rfl, kr, hgr, hb'⟩
                     have k1 := g1.next hb'
                     have k2 := g2.next hb'
                     have kB := hbel.trans (hb'.mono hsz)
                     have kc := k1.cell 0)
        obtain ⟨wo, rfl⟩ : ∃ wo : World, wo = w' := ⟨_, rfl⟩
        clear g1 g2 hbel hb' kc c0 ck c1
        have hne : gr ≠ w.heap.size + 1 := by omega
        go_loopw [7] (fun i wr => ∃ u : Nat, u ≤ n ∧ i = .int .i64 u ∧ Below w.heap.size w wr ∧ Blk wr w.heap.size 24 #[.int .i64 n, .slice A es.length c] ∧ Blk wr (w.heap.size + 1) 4 (bools (orTo s r u)) ∧ Blk wr gr 4 (bools r)) (fun i _ => n - (intOf i).toNat)
        case atStart => exact ⟨0, by omega, rfl, kB, k1, k2, kr⟩
        case round =>
          obtain ⟨u, hu, rfl, hbel, g1, g2, g3⟩ := hrel
          clear kB k1 k2 kr
          have hos := orTo_succ s r u
          have hol : (orTo s r u).length = n := by rw [orTo_length, hsl]
          obtain ⟨o, ho⟩ : ∃ o, orTo s r u = o := ⟨_, rfl⟩
          rw [ho] at hos hol g2
          have HO := Lib.hid ho
          clear ho
          have c0 := g1.cell 0
          by_cases hltu : u < n
          · have hi : (u : Int) < (n : Int) := by omega
            have ca := g2.cell u
            rw [bools_getB (by omega)] at ca
            have cb := g3.cell u
            rw [bools_getB (by omega)] at cb
            have fa := g2.frozen u
            cases ha : getB o u <;> cases hb : getB r u
            all_goals
              rw [ha] at ca hos
              rw [hb] at cb hos
              have HOS := Lib.hid hos
              clear hos ha hb
              go_wp2
              go_roundw
              case rel =>
                refine ⟨u + 1, by omega, by go_num, hbel.setCell (by simp) _, g1.far (by simp) _, ?_, g3.far (by simpa using hne) _⟩
                rw [HOS.out, ← bools_set]
                exact g2.set_ u _
              case measure => simp [intOf]; omega
          · obtain rfl : u = n := by omega
            clear hos
            go_wp2
            go_roundw
            case rel => exact ⟨k + 1, x + 1, o, by omega, by go_num, by go_num, by omega, by rw [Hid, HP.out, HO.out], hbel, g1, g2⟩
            case measure => simp [intOf]; omega
      · rw [hsk] at ck
        rw [show getB (x, s).2 k = getB s k from rfl, hsk] at hps
        simp only [if_true] at hps
        have HP := Lib.hid hps
        clear hps hsk
        go_wp2
        go_roundw
        case rel => exact ⟨k + 1, x, s, by omega, by go_num, rfl, by omega, HP.out, hbel, g1, g2⟩
        case measure => simp [intOf]; omega
    · obtain rfl : k = n := by omega
      clear hps
      go_wp2
      go_ret
      exact ⟨ret_int (by rw [HS.out]), hbel⟩
set_option maxHeartbeats 1000000 in
theorem rconnected_any (n : Nat) (hn12 : n ≤ 12) (A : Option Addr) (c : Nat) (es : List E3) (hn : es.length ≤ 1048576) (w : World) (h : Reads w w.heap.size 3 A es.length (edgeCells es)) :
    Calls Tryz.prog 108 #[.agg #[.int .i64 n, .slice A es.length c]] w fun e w' => e = .returned (.bool (connB n es)) ∧ Below w.heap.size w w' := by
  have PC := Lib.hid (rparts_any n hn12 A c es hn)
  unfold connB
  obtain ⟨q, hq⟩ : ∃ q, (partsTo es n n).1 = q := ⟨_, rfl⟩
  rw [hq] at PC ⊢
  clear hq
  go_enter Tryz.func108, Tryz.ntmps108
  go_wp2_with fail
  refine (PC.out _ ((h.alloc (Nat.le_refl _) _).more (by simp))).mono ?_
  rintro e w1 ⟨rfl, hb1⟩
  have hbel1 : Below w.heap.size w w1 := ((Below.refl _ _).alloc (Nat.le_refl _) _).trans (hb1.mono (by simp))
  go_wp2
  go_ret
  refine ⟨ret_bool ?_, hbel1⟩
  rw [Bool.eq_iff_iff]; simp; omega

end Go.Proofs.YtnbikkcalcpedaaGreatDoor

