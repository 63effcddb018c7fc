/-
  Texts of this claim, put together: RAll13, TCount, RCutset, ActP.
-/
import Derived.Test.YtnbikkcalcpedaaGreatDoorK14
import Derived.Test.YtnbikkcalcpedaaGreatDoorK28
import Derived.Test.YtnbikkcalcpedaaGreatDoorK27
import Derived.Test.YtnbikkcalcpedaaGreatDoorK29
import Derived.Test.YtnbikkcalcpedaaGreatDoorK09
import Derived.Test.YtnbikkcalcpedaaGreatDoorK19
import Derived.Deep.QuietTactic
import Derived.BigQuiet
import Derived.Deep.RegionHeld3
import Derived.Deep.RegionLaw
import Derived.Deep.CutRange
import Derived.Deep.DrawnRows
/-! ref13.All: the spanning trees among all sets, in order. -/
namespace Go.Proofs.YtnbikkcalcpedaaGreatDoor
open Go.RowKit

end Go.Proofs.YtnbikkcalcpedaaGreatDoor

/-! Package tree: All for all graphs; Count. -/
namespace Go.Proofs.YtnbikkcalcpedaaGreatDoor
open Go.RowKit

theorem tall_any (n : Int) (A : Option Addr) (c : Nat) (es : List E3) (hn : es.length ≤ 10000) (hl : (tallE n es).1.length ≤ 16384) (w : World) (h : Reads w w.heap.size 3 A es.length (edgeCells es)) :
    Calls Tryz.prog 49 #[.agg #[.int .i64 n, .slice A es.length c]] w fun e w' => ∃ Ar cr vs, e = .returned (.tuple #[.slice Ar (tallE n es).1.length cr, .int .i64 (tallE n es).2]) ∧ OwnRows w' w.heap.size Ar cr vs (tallE n es).1 ∧ Below w.heap.size w w' := by
  by_cases hj : joinErr n es = 0
  · obtain ⟨_, hG, _⟩ := join_zero hj
    obtain ⟨m, rfl⟩ := Int.eq_ofNat_of_zero_le (show 0 ≤ n by have := hG.lo; omega)
    have hE : tallE m es = ((treesT m (endsL es)).map nI, 0) := by unfold tallE; rw [if_neg (fun hc => hc hj), Int.toNat_natCast]
    rw [hE] at hl ⊢
    dsimp only at hl ⊢
    rw [List.length_map] at hl ⊢
    exact tall_ok m A c es hn hj _ rfl hl w h
  · exact tall_err n A c es hn w h hj

set_option maxHeartbeats 1000000 in
theorem tcount_any (n : Int) (A : Option Addr) (c : Nat) (es : List E3) (hn : es.length ≤ 10000) (hl : (tallE n es).1.length ≤ 16384) (w : World) (h : Reads w w.heap.size 3 A es.length (edgeCells es)) :
    Calls Tryz.prog 17 #[.agg #[.int .i64 n, .slice A es.length c]] w fun e w' => e = .returned (.tuple #[.int .i64 ((tallE n es).1.length : Nat), .int .i64 (tallE n es).2]) ∧ Below w.heap.size w w' := by
  have AC := Lib.hid (fun (W : World) (hB : Below w.heap.size w W) => tall_any n A c es hn hl W ((h.below hB).more hB.size))
  have g0 := Blk.new w 24 #[.int .i64 n, .slice A es.length c]
  have hb0 : Below w.heap.size w (w.alloc (.cells #[.int .i64 n, .slice A es.length c] 24)) := (Below.refl _ _).alloc (Nat.le_refl _) _
  have c0 := g0.cell 0
  have c1 := g0.cell 1
  obtain ⟨X, hX⟩ : ∃ X, tallE n es = X := ⟨_, rfl⟩
  rw [hX] at AC ⊢
  clear hX hl
  go_enter Tryz.func17, Tryz.ntmps17
  go_wp2_with fail
  refine (AC.out _ hb0).mono ?_
  rintro e w1 ⟨Ar, cr, vs, rfl, _, hb1⟩
  go_wp2
  go_ret2
  exact ⟨rfl, hb0.trans (hb1.mono hb0.size)⟩
end Go.Proofs.YtnbikkcalcpedaaGreatDoor

/-! ref08.Cut; ref13.Separated, Cutset. -/
namespace Go.Proofs.YtnbikkcalcpedaaGreatDoor
open Go.RowKit

theorem mem_nI {v : Nat} {S : List Nat} : (v : Int) ∈ nI S ↔ v ∈ S := by
  unfold nI
  rw [List.mem_map]
  constructor
  · rintro ⟨u, hu, e⟩; have : u = v := by omega
    exact this ▸ hu
  · intro h; exact ⟨v, h, rfl⟩
def inB (S : List Nat) (v : Nat) : Bool := decide (v ∈ S)
/-- The single edges with just one end in a set, below a bound. -/
def cutR (E : List (Nat × Nat)) (S : List Nat) (k : Nat) : List Nat := (List.range k).filter fun i => !(inB S (E.getD i (0, 0)).1 == inB S (E.getD i (0, 0)).2)
theorem cutR_succ {E : List (Nat × Nat)} {S : List Nat} {k : Nat} : cutR E S (k + 1) = if (!(inB S (E.getD k (0, 0)).1 == inB S (E.getD k (0, 0)).2)) = true then cutR E S k ++ [k] else cutR E S k := by
  unfold cutR
  rw [List.range_succ, List.filter_append]
  by_cases h : (!(inB S (E.getD k (0, 0)).1 == inB S (E.getD k (0, 0)).2)) = true
  · rw [if_pos h, List.filter_cons, if_pos h]; rfl
  · rw [if_neg h, List.filter_cons, if_neg h]; simp
theorem cutR_len {E : List (Nat × Nat)} {S : List Nat} {k : Nat} : (cutR E S k).length ≤ k := Nat.le_trans (List.length_filter_le _ _) (by simp)

set_option maxRecDepth 100000 in
set_option maxHeartbeats 4000000 in
theorem rcut_any (n : Int) (A : Option Addr) (c : Nat) (es : List E3) (hn : es.length ≤ 40) (N : Int) (hok : ∀ e ∈ es, okE N e) (D : Option Addr) (f : Nat) (S : List Nat) (hS : S.length ≤ 1000) (w : World) (h : Reads w w.heap.size 3 A es.length (edgeCells es)) (h' : Reads w w.heap.size 1 D S.length (ints (nI S))) :
    Calls Tryz.prog 79 #[.agg #[.int .i64 n, .slice A es.length c], .slice D S.length f] w fun e w' => ∃ A' c', e = .returned (.slice A' (cutR (endsL es) S (endsL es).length).length c') ∧ OwnI w' w.heap.size A' c' (nI (cutR (endsL es) S (endsL es).length)) ∧ Below w.heap.size w w' := by
  have EC := Lib.hid (fun (W : World) (hB : Below w.heap.size w W) => rendsC_any n A c es hn N hok W ((h.below hB).more hB.size))
  have hEl : (endsL es).length ≤ 2000 := endsL_len40 hok hn
  have HH : Hid (∀ (v : Nat) (W : World), Reads W W.heap.size 1 D S.length (ints (nI S)) → Calls Tryz.prog 51 #[.slice D S.length f, .int .i64 v] W fun e w' => e = .returned (.bool (inB S v)) ∧ W = w') := by
    intro v W hr
    have := holds_any D f (nI S) (by rw [nI_length]; omega) (v : Int) W (by rw [nI_length]; exact hr)
    rw [nI_length] at this
    refine this.mono ?_
    rintro e w' ⟨rfl, he⟩
    exact ⟨by simp only [mem_nI]; rfl, he⟩
  have g0 := Blk.new w 24 #[.int .i64 n, .slice A es.length c]
  have hB := (Below.refl w.heap.size w).alloc (Nat.le_refl _) (.cells #[.int .i64 n, .slice A es.length c] 24)
  have k0 := g0.cell 0
  have k1 := g0.cell 1
  obtain ⟨E, hE⟩ : ∃ E, endsL es = E := ⟨_, rfl⟩
  rw [hE] at EC hEl ⊢
  have HEL := Lib.hid hEl
  clear hE hEl hok
  go_enter Tryz.func79, Tryz.ntmps79
  go_wp2_with fail
  refine (EC.out _ hB).mono ?_
  rintro e w1 ⟨AE, cE, rfl, oE, hbE⟩
  have HB1 := Lib.hid (hB.trans (hbE.mono hB.size))
  have RE := OwnQ.reads oE
  have RS : Hid (Reads w1 w1.heap.size 1 D S.length (ints (nI S))) := (h'.below HB1.out).more HB1.out.size
  have hz1 := HB1.out.size
  clear oE hbE hB g0 k0 k1 EC
  go_wp2_with fail
  go_loopw [5, 7] (fun o i wr => ∃ (k : Nat) (Ao : Option Addr) (co : Nat), k ≤ E.length ∧ i = .int .i64 k ∧ o = .slice Ao (cutR E S k).length co ∧ Hid (OwnI wr w1.heap.size Ao co (nI (cutR E S k))) ∧ Hid (Below w1.heap.size w1 wr)) (fun _ i _ => E.length - (intOf i).toNat)
  case atStart => exact ⟨0, none, 0, by omega, rfl, rfl, OwnI.nil_ _ _, Below.refl _ _⟩
  case round =>
    obtain ⟨k, Ao, co, hk, rfl, rfl, HO, HW⟩ := hrel
    have hwz := HW.out.size
    by_cases hlt : k < E.length
    · have hi : (k : Int) < (E.length : Int) := by omega
      have hE2 := HEL.out
      have hst := cutR_succ (E := E) (S := S) (k := k)
      have hcl := cutR_len (E := E) (S := S) (k := k)
      obtain ⟨bE, oE, hAE, hbE, q0, q1⟩ := (RE.below HW.out).pairAt (getD_some hlt)
      subst hAE
      obtain ⟨⟨y1, y2⟩, hpq⟩ : ∃ z, E.getD k (0, 0) = z := ⟨_, rfl⟩
      rw [hpq] at q0 q1 hst
      dsimp only at q0 q1 hst
      have R2 : Hid (Reads wr wr.heap.size 1 D S.length (ints (nI S))) := (RS.out.below HW.out).more hwz
      obtain ⟨L, hL⟩ : ∃ L, cutR E S k = L := ⟨_, rfl⟩
      rw [hL] at HO hst hcl ⊢
      have HNL := Lib.hid (nI_length L)
      have HST := Lib.hid hst
      clear hst hpq hL
      go_wp2_with fail
      go_quiet ((go_at_call 51; exact Calls.quiet_of_same ((HH.out _ _ (by exact R2.out)).mono fun _ _ h => ⟨h.1, h.2.symm⟩)))
      have HO2 : Hid (OwnI (wr.drewN nq) w1.heap.size Ao co (nI L)) := HO.out
      have hwz2 : w1.heap.size ≤ (wr.drewN nq).heap.size := hwz
      have HW2 : Hid (Below w1.heap.size w1 (wr.drewN nq)) := ⟨HW.out.os, HW.out.tape, HW.out.output, HW.out.size, HW.out.block⟩
      obtain ⟨r, hr⟩ : ∃ r, (inB S y1 == inB S y2) = r := ⟨_, rfl⟩
      rw [hr] at HST ⊢
      clear hr
      rcases r with _ | _
      rotate_left
      · have HF := Lib.hid (HST.out.trans (if_neg (by decide)))
        go_wp2
        go_roundw
        case rel => exact ⟨k + 1, Ao, co, by omega, by go_num, by rw [HF.out], by rw [Hid, HF.out]; exact HO2.out, HW2⟩
        case measure => simp [intOf]; omega
      · have HF := Lib.hid (HST.out.trans (if_pos rfl))
        go_wp2_with (first | (at_builtin; refine append_go rfl (.tmp 31) (.tmp 33) _ rfl w1.heap.size 3 Tryz.underlying25 info_int rfl (by omega) Ao co L.length (ints (nI L)) rfl (World.ownsRow.alloc (own_len HO2.out HNL.out) _) ((wr.drewN nq).heap.size + 1) [.int .i64 (k : Int)] rfl (Reads.box1 (wr.drewN nq) _ _) (by simp [Value.oneCell']) (by omega) (Nat.le_trans hwz2 (by simp)) ?_; intro A5 c5 w5 hown5 _ hb5 _; have HB5 := Lib.hid ((HW2.out.alloc hwz2 (.cells #[.int .i64 (k : Int)] 3)).trans hb5)) | fail)
        have O5 : Hid (OwnI w5 w1.heap.size A5 c5 (nI (L ++ [k]))) := by rw [Hid, nI_snoc]; unfold OwnI; rw [List.length_append, HNL.out, ints_snoc]; exact hown5
        go_wp2
        go_roundw
        case rel => exact ⟨k + 1, A5, c5, by omega, by go_num, by rw [HF.out, List.length_append]; rfl, by rw [Hid, HF.out]; exact O5.out, HB5⟩
        case measure => simp [intOf]; omega
    · obtain rfl : k = E.length := by omega
      go_wp2
      go_ret
      exact ⟨Ao, co, rfl, HO.out.mono hz1, HB1.out.trans (HW.out.mono hz1)⟩

/-- The vertices that a list of bools says, below a bound. -/
def sideL (R : List Bool) (k : Nat) : List Nat := (List.range k).filter fun v => getB R v
theorem sideL_succ {R : List Bool} {k : Nat} : sideL R (k + 1) = if getB R k = true then sideL R k ++ [k] else sideL R k := by
  unfold sideL
  rw [List.range_succ, List.filter_append]
  by_cases h : getB R k = true
  · rw [if_pos h, List.filter_cons, if_pos h]; rfl
  · rw [if_neg h, List.filter_cons, if_neg h]; simp
theorem sideL_len {R : List Bool} {k : Nat} : (sideL R k).length ≤ k := Nat.le_trans (List.length_filter_le _ _) (by simp)
theorem mem_side {R : List Bool} {k v : Nat} : v ∈ sideL R k ↔ v < k ∧ getB R v = true := by simp [sideL]
/-- The single edges between the side of one end and the others are those whose ends are separated. -/
theorem cutR_sep {m x p q : Nat} {es : List E3} {t : List Nat} (hR : TreeR m es t) (hx : x ∈ t) (hab : (endsL es)[x]? = some (p, q)) {S : List Nat} (hS : ∀ v, v ∈ S ↔ v < m ∧ Cn (pk (endsL es) (lessL t x)) p v) :
    cutR (endsL es) S (endsL es).length = cutL (endsL es) t x := by
  unfold cutR cutL
  apply List.filter_congr
  intro i hi
  have hil := List.mem_range.1 hi
  have hg : (endsL es).getD x (0, 0) = (p, q) := by rw [List.getD_eq_getElem?_getD, hab]; rfl
  obtain ⟨⟨a, b⟩, hpq⟩ : ∃ z, (endsL es).getD i (0, 0) = z := ⟨_, rfl⟩
  have hbd := hR.hT.bd _ (List.mem_of_getElem? (getD_some hil))
  rw [hpq] at hbd ⊢
  dsimp only at hbd ⊢
  have hbr := hR.hT.bridge hx
  rw [hg] at hbr
  dsimp only at hbr
  have hsp := (cn_split (E := endsL es) (t := t) (e := x) (a := a) (b := b) hx).1 (hR.cn hbd.1 hbd.2)
  rw [hg] at hsp
  dsimp only at hsp
  have e1 : inB S a = decide (Cn (pk (endsL es) (lessL t x)) p a) := by unfold inB; rw [Bool.eq_iff_iff, decide_eq_true_eq, decide_eq_true_eq, hS]; exact ⟨fun h => h.2, fun h => ⟨hbd.1, h⟩⟩
  have e2 : inB S b = decide (Cn (pk (endsL es) (lessL t x)) p b) := by unfold inB; rw [Bool.eq_iff_iff, decide_eq_true_eq, decide_eq_true_eq, hS]; exact ⟨fun h => h.2, fun h => ⟨hbd.2, h⟩⟩
  rw [e1, e2, Bool.eq_iff_iff, Bool.not_eq_true', beq_eq_false_iff_ne, decide_eq_true_eq]
  unfold Sep
  by_cases h1 : Cn (pk (endsL es) (lessL t x)) p a
  · by_cases h2 : Cn (pk (endsL es) (lessL t x)) p b
    · rw [decide_eq_true h1, decide_eq_true h2]
      exact ⟨fun h => absurd rfl h, fun h => absurd (h1.symm.trans h2) h⟩
    · rw [decide_eq_true h1, decide_eq_false h2]
      exact ⟨fun _ hc => h2 (h1.trans hc), fun _ h => by cases h⟩
  · by_cases h2 : Cn (pk (endsL es) (lessL t x)) p b
    · rw [decide_eq_false h1, decide_eq_true h2]
      exact ⟨fun _ hc => h1 (h2.trans hc.symm), fun _ h => by cases h⟩
    · rw [decide_eq_false h1, decide_eq_false h2]
      refine ⟨fun h => absurd rfl h, fun h => ?_⟩
      rcases hsp with hsp | ⟨hsp, _⟩ | ⟨_, hsp⟩
      · exact absurd hsp h
      · exact absurd hsp.symm h1
      · exact absurd hsp h2

attribute [local go_sem ↓] Go.wp_at_zero Go.wp_at_succ in
set_option maxRecDepth 100000 in
set_option maxHeartbeats 32000000 in
theorem rsep_any (m : Nat) (A : Option Addr) (c : Nat) (es : List E3) (hn : es.length ≤ 40) (B : Option Addr) (d : Nat) (t : List Nat) (hR : TreeR m es t) (x p q : Nat) (hx : x ∈ t) (hab : (endsL es)[x]? = some (p, q)) (w : World) (h : Reads w w.heap.size 3 A es.length (edgeCells es)) (h' : Reads w w.heap.size 1 B t.length (ints (nI t))) :
    Calls Tryz.prog 26 #[.agg #[.int .i64 m, .slice A es.length c], .slice B t.length d, .int .i64 x] w fun e w' => ∃ A' c', e = .returned (.slice A' (cutL (endsL es) t x).length c') ∧ OwnI w' w.heap.size A' c' (nI (cutL (endsL es) t x)) ∧ Below w.heap.size w w' := by
  have hm12 := hR.hi
  have hm1 := hR.lo
  have htl := hR.len
  obtain ⟨hp, hq⟩ := bd_ends hR.hG _ (List.mem_of_getElem? hab)
  dsimp only at hp hq
  have hTlt : ∀ e ∈ lessL t x, e < (endsL es).length := fun e he => hR.hT.lt e (mem_less.1 he).1
  have hTl : (lessL t x).length ≤ 12 := Nat.le_trans (List.length_filter_le _ _) htl
  have hbd := bd_pk hR.hT.bd hTlt
  have hmr := made_right (n := m) (ps := pk (endsL es) (lessL t x)) (by omega) (by omega) (by rw [pk_length]; omega)
  have hml : (madeS m (pk (endsL es) (lessL t x))).length ≤ 1048576 := by
    have h1 : (madeS m (pk (endsL es) (lessL t x))).length ≤ m * m := joinTo_length _ _ _
    have h2 : m * m ≤ 12 * 12 := Nat.mul_le_mul (by omega) (by omega)
    omega
  have hmc : ∀ v, Cn (endsL (madeS m (pk (endsL es) (lessL t x)))) p v ↔ Cn (pk (endsL es) (lessL t x)) p v := fun v => made_cn (by omega) (by omega) (by rw [pk_length]; omega) hbd
  have EC : Hid (∀ (W : World) (hB : Below w.heap.size w W), Calls Tryz.prog 24 #[.agg #[.int .i64 m, .slice A es.length c]] W fun e w' => ∃ A' c', e = .returned (.slice A' (endsL es).length c') ∧ Reads w' w'.heap.size 2 A' (endsL es).length (pair2 (endsL es)) ∧ Below W.heap.size W w') := by
    intro W hB
    refine (rendsC_any m A c es hn m hR.hG.ok W ((h.below hB).more hB.size)).mono ?_
    rintro e w' ⟨A', c', rfl, o, hb⟩
    exact ⟨A', c', rfl, OwnQ.reads o, hb⟩
  have LC : Hid (∀ (W : World) (hB : Below w.heap.size w W), Calls Tryz.prog 78 #[.slice B t.length d, .int .i64 x] W fun e w' => ∃ A' c', e = .returned (.slice A' (lessL t x).length c') ∧ Reads w' w'.heap.size 1 A' (lessL t x).length (ints (nI (lessL t x))) ∧ Below W.heap.size W w') := by
    intro W hB
    have h2 := (h'.below hB).more hB.size
    have := rless_any B d (nI t) (by rw [nI_length]; omega) x W (by rw [nI_length]; exact h2)
    rw [nI_length] at this
    refine this.mono ?_
    rintro e w' ⟨A', c', rfl, o, hb⟩
    have hf := nI_less t x
    rw [hf] at o ⊢
    have o := o.reads
    rw [nI_length] at o ⊢
    exact ⟨A', c', rfl, o, hb⟩
  have WC : Hid (∀ (A' : Option Addr) (c' : Nat) (W : World) (hB : Below w.heap.size w W) (hr : Reads W W.heap.size 1 A' (lessL t x).length (ints (nI (lessL t x)))), Calls Tryz.prog 77 #[.agg #[.int .i64 m, .slice A es.length c], .slice A' (lessL t x).length c'] W fun e w' => ∃ A1 c1, e = .returned (.agg #[.int .i64 m, .slice A1 (madeS m (pk (endsL es) (lessL t x))).length c1]) ∧ Reads w' w'.heap.size 3 A1 (madeS m (pk (endsL es) (lessL t x))).length (edgeCells (madeS m (pk (endsL es) (lessL t x)))) ∧ Below W.heap.size W w') := by
    intro A' c' W hB hr
    refine (rwith_any m A c es hn hR.hG A' c' (lessL t x) hTlt (by omega) W ((h.below hB).more hB.size) hr).mono ?_
    rintro e w' ⟨A1, c1, rfl, o, hb⟩
    exact ⟨A1, c1, rfl, Reads.of_own o, hb⟩
  obtain ⟨M, hM⟩ : ∃ M, madeS m (pk (endsL es) (lessL t x)) = M := ⟨_, rfl⟩
  rw [hM] at WC hml hmr hmc
  have RC : Hid (∀ (A1 : Option Addr) (c1 : Nat) (W : World) (hr : Reads W W.heap.size 3 A1 M.length (edgeCells M)), Calls Tryz.prog 76 #[.agg #[.int .i64 m, .slice A1 M.length c1], .int .i64 p] W fun e w' => ∃ g, e = .returned (.slice (some ⟨g, 0, none⟩) m m) ∧ Blk w' g 4 (bools (reached M m p)) ∧ Below W.heap.size W w') := by
    intro A1 c1 W hr
    refine (reached_any m (by omega) A1 c1 M hml p hp W hr).mono ?_
    rintro e w' ⟨g, he, hk, _, hb⟩
    exact ⟨g, he, hk, hb⟩
  have HL : Hid ((reached M m p).length = m) := reached_length _ _ p
  have HS : Hid (cutR (endsL es) (sideL (reached M m p) m) (endsL es).length = cutL (endsL es) t x) := by
    refine cutR_sep hR hx hab fun v => ?_
    rw [mem_side, reached_iff hmr hp, conn_cn hmr, hmc]
  have CC := Lib.hid (fun (S : List Nat) (hS : S.length ≤ 1000) (D : Option Addr) (f : Nat) (W : World) (hB : Below w.heap.size w W) (hr : Reads W W.heap.size 1 D S.length (ints (nI S))) => rcut_any m A c es hn m hR.hG.ok D f S hS W ((h.below hB).more hB.size) hr)
  obtain ⟨R, hRR⟩ : ∃ R, reached M m p = R := ⟨_, rfl⟩
  rw [hRR] at RC HL HS
  obtain ⟨T, hT⟩ : ∃ T, lessL t x = T := ⟨_, rfl⟩
  rw [hT] at LC WC
  have hxl : x < (endsL es).length := (List.getElem?_eq_some_iff.1 hab).1
  obtain ⟨Z, hZ⟩ : ∃ Z, cutL (endsL es) t x = Z := ⟨_, rfl⟩
  rw [hZ] at HS ⊢
  obtain ⟨E, hE⟩ : ∃ E, endsL es = E := ⟨_, rfl⟩
  rw [hE] at EC CC HS hab hxl
  have hxi : (x : Int) < (E.length : Int) := by omega
  have hx0 : (0 : Int) ≤ (x : Int) := by omega
  have HAB := Lib.hid hab
  have HM := Lib.hid hm12
  have g := Blk.new w 24 #[.int .i64 m, .slice A es.length c]
  have hB := (Below.refl w.heap.size w).alloc (Nat.le_refl _) (.cells #[.int .i64 m, .slice A es.length c] 24)
  have k0 := g.cell 0
  have k1 := g.cell 1
  clear hE hR hM hRR hT hab hmr hmc hml hbd hTlt hTl htl hp hq hx hm1 hm12 hZ hxl
  go_enter Tryz.func26, Tryz.ntmps26
  go_wp2_with fail
  have g := g.drew
  have hB := hB.drew
  have k0 := g.cell 0
  have k1 := g.cell 1
  go_cut [7] from 10 to 21 (fun s wx => ∃ gR, s = .slice (some ⟨gR, 0, none⟩) m m ∧ Blk wx gR 4 (bools R) ∧ Blk wx w.heap.size 24 #[.int .i64 m, .slice A es.length c] ∧ Hid (Below w.heap.size w wx))
  case first =>
    go_region_law (first
      | (go_simp; go_at_call 78; (with_reducible refine (LC.out _ (by exact hB)).mono ?_); rintro e wn ⟨AL, cL, rfl, rL, hb⟩; have g := g.next hb; have hB := hB.trans (hb.mono hB.size); have k0 := g.cell 0; have k1 := g.cell 1; (try (have q0 := (hb.cell (p := ⟨bE, oE' + x * 2, none⟩) hbE').trans q0)); (try (have hbE' := Nat.lt_of_lt_of_le hbE' hb.size)); (try (have rM := rM.next hb)))
      | (go_simp; go_at_call 77; (with_reducible refine (WC.out _ _ _ (by exact hB) (by exact rL)).mono ?_); rintro e wn ⟨AM, cM, rfl, rM, hb⟩; have g := g.next hb; have hB := hB.trans (hb.mono hB.size); have k0 := g.cell 0; have k1 := g.cell 1; (try (have q0 := (hb.cell (p := ⟨bE, oE' + x * 2, none⟩) hbE').trans q0)); (try (have hbE' := Nat.lt_of_lt_of_le hbE' hb.size)); (try (have rL := rL.next hb)))
      | (go_simp; go_at_call 24; (with_reducible refine (EC.out _ (by exact hB)).mono ?_); rintro e wn ⟨AE, cE, rfl, rE, hb⟩; obtain ⟨bE, oE', hAE, hbE', q0, q1⟩ := rE.pairAt HAB.out; subst hAE; clear rE q1; have g := g.next hb; have hB := hB.trans (hb.mono hB.size); have k0 := g.cell 0; have k1 := g.cell 1; (try (have rL := rL.next hb)); (try (have rM := rM.next hb)))
      | (go_simp; go_at_call 76; (with_reducible refine (RC.out _ _ _ (by exact rM)).mono ?_); rintro e wn ⟨gR, rfl, bR, hb⟩; have g := g.next hb; have hB := hB.trans (hb.mono hB.size); have k0 := g.cell 0; have k1 := g.cell 1)
      | fail)
    all_goals
      go_wp2
      go_meet
      exact ⟨gR, rfl, bR, g, hB⟩
  case rest =>
    obtain ⟨gR, rfl, bR, g, hB⟩ := hcut
    have HB1 := Lib.hid hB.out
    have hz1 := hB.out.size
    have HG1 := Lib.hid g
    have BR1 := Lib.hid bR
    obtain ⟨wo, rfl⟩ : ∃ wo : World, wo = wc := ⟨_, rfl⟩
    clear g hB k0 k1 bR LC WC EC RC
    have k0 := HG1.out.cell 0
    go_wp2_with fail
    go_loopw [8, 9] (fun o i wr => ∃ (k : Nat) (Ao : Option Addr) (co : Nat), k ≤ m ∧ i = .int .i64 k ∧ o = .slice Ao (sideL R k).length co ∧ Hid (OwnI wr wo.heap.size Ao co (nI (sideL R k))) ∧ Hid (Below wo.heap.size wo wr)) (fun _ i _ => m - (intOf i).toNat)
    case atStart => exact ⟨0, none, 0, by omega, rfl, rfl, OwnI.nil_ _ _, Below.refl _ _⟩
    case round =>
      obtain ⟨k, Ao, co, hk, rfl, rfl, HO, HW⟩ := hrel
      have hwz := HW.out.size
      have g2 := HG1.out.next HW.out
      have k0 := g2.cell 0
      have k1 := g2.cell 1
      have hmm := HM.out
      by_cases hlt : k < m
      · have hi : (k : Int) < (m : Int) := by omega
        have hst := sideL_succ (R := R) (k := k)
        have hcl := sideL_len (R := R) (k := k)
        have qc := (BR1.out.next HW.out).cell k
        have hcell : (bools R)[k]? = some (.bool (getB R k)) := bools_getB (by rw [HL.out]; exact hlt)
        rw [hcell] at qc
        obtain ⟨r, hr⟩ : ∃ r, getB R k = r := ⟨_, rfl⟩
        rw [hr] at hst qc
        obtain ⟨L, hL⟩ : ∃ L, sideL R k = L := ⟨_, rfl⟩
        rw [hL] at HO hst hcl ⊢
        have HNL := Lib.hid (nI_length L)
        have HST := Lib.hid hst
        clear hst hr hL hcell
        rcases r with _ | _
        · have HF := Lib.hid (HST.out.trans (if_neg (by decide)))
          go_wp2
          go_roundw
          case rel => exact ⟨k + 1, Ao, co, by omega, by go_num, by rw [HF.out], by rw [Hid, HF.out]; exact HO.out, HW⟩
          case measure => simp [intOf]; omega
        · have HF := Lib.hid (HST.out.trans (if_pos rfl))
          go_wp2_with (first | (at_builtin; refine append_go rfl (.tmp 32) (.tmp 34) _ rfl wo.heap.size 3 Tryz.underlying25 info_int rfl (by omega) Ao co L.length (ints (nI L)) rfl (World.ownsRow.alloc (own_len HO.out HNL.out) _) (wr.heap.size + 1) [.int .i64 (k : Int)] rfl (Reads.box1 wr _ _) (by simp [Value.oneCell']) (by omega) (Nat.le_trans hwz (by simp)) ?_; intro A5 c5 w5 hown5 _ hb5 _; have HB5 := Lib.hid ((HW.out.alloc hwz (.cells #[.int .i64 (k : Int)] 3)).trans hb5)) | fail)
          have O5 : Hid (OwnI w5 wo.heap.size A5 c5 (nI (L ++ [k]))) := by rw [Hid, nI_snoc]; unfold OwnI; rw [List.length_append, HNL.out, ints_snoc]; exact hown5
          go_wp2
          go_roundw
          case rel => exact ⟨k + 1, A5, c5, by omega, by go_num, by rw [HF.out, List.length_append]; rfl, by rw [Hid, HF.out]; exact O5.out, HB5⟩
          case measure => simp [intOf]; omega
      · obtain rfl : k = m := by omega
        have hcl := sideL_len (R := R) (k := k)
        have B2 := HB1.out.trans (HW.out.mono hz1)
        have r2 : Reads wr wr.heap.size 1 Ao (sideL R k).length (ints (nI (sideL R k))) := by have := HO.out.reads; rw [nI_length] at this; exact this
        have CD := Lib.hid (CC.out (sideL R k) (by omega) Ao co wr B2 r2)
        rw [HS.out] at CD
        obtain ⟨S, hS⟩ : ∃ S, sideL R k = S := ⟨_, rfl⟩
        rw [hS] at CD
        rw [hS]
        clear hcl r2 hS
        go_wp2_with fail
        refine (CD.out).mono ?_
        rintro e w7 ⟨A7, c7, rfl, o7, hb7⟩
        go_wp2
        go_ret
        exact ⟨A7, c7, rfl, o7.mono B2.size, B2.trans (hb7.mono B2.size)⟩
end Go.Proofs.YtnbikkcalcpedaaGreatDoor

/-! Active single edges, by the first one of a cutset or a cycle, and by all of it. No program is in sight. -/
namespace Go.Proofs.YtnbikkcalcpedaaGreatDoor
section
variable {n : Nat} {E : List (Nat × Nat)} {t : List Nat} {e f : Nat}
theorem head_least {l : List Int} {x : Int} (hs : l.Pairwise (· ≤ ·)) (hx : x ∈ l) : l.head? = some x ↔ ∀ y ∈ l, x ≤ y := by
  cases l with
  | nil => cases hx
  | cons a l =>
    rw [List.head?_cons, List.pairwise_cons] at *
    constructor
    · intro h
      injection h with h
      subst h
      intro y hy
      rcases List.mem_cons.1 hy with rfl | hy
      · exact Int.le_refl _
      · exact hs.1 y hy
    · intro h
      have h1 := h a (by simp)
      rcases List.mem_cons.1 hx with rfl | hx
      · rfl
      · have h2 := hs.1 x hx
        congr 1; omega
theorem mem_cutL {i : Nat} : i ∈ cutL E t f ↔ i < E.length ∧ Sep E t (E.getD i (0, 0)).1 (E.getD i (0, 0)).2 f := by
  unfold cutL; rw [List.mem_filter, List.mem_range, decide_eq_true_eq]
theorem nI_asc {l : List Nat} (h : l.Pairwise (· < ·)) : (nI l).Pairwise (· ≤ ·) := by
  unfold nI
  rw [List.pairwise_map]
  exact h.imp fun h => by omega
theorem cutL_asc : (cutL E t f).Pairwise (· < ·) := List.pairwise_lt_range.sublist List.filter_sublist
/-- The list that a search tells is least at f: as the program and the reference ask. -/
theorem cut_least : (∀ y ∈ nI (cutL E t f), (f : Int) ≤ y) ↔ IAct E t f := by
  constructor
  · intro h i hi hs
    have := h (i : Int) (mem_nI9.2 (mem_cutL.2 ⟨hi, hs⟩))
    omega
  · intro h y hy
    obtain ⟨i, hi, rfl⟩ := List.mem_map.1 hy
    obtain ⟨h1, h2⟩ := mem_cutL.1 hi
    have := h i h1 h2
    omega
theorem cut_head (hT : FoE n E t) (hf : f ∈ t) : (nI (cutL E t f)).head? = some (f : Int) ↔ IAct E t f := by
  rw [head_least (nI_asc cutL_asc) (mem_nI9.2 (mem_cutL.2 ⟨hT.lt f hf, sep_self hT hf⟩)), cut_least]
theorem cyc_least (hT : FoE n E t) (hc : Cn (pk E t) (E.getD e (0, 0)).1 (E.getD e (0, 0)).2) {l : List Int} (hl : ∀ y, y ∈ l ↔ y = (e : Int) ∨ y ∈ nI (pathL E t (E.getD e (0, 0)).1 (E.getD e (0, 0)).2)) : (∀ y ∈ l, (e : Int) ≤ y) ↔ EAct E t e := by
  constructor
  · intro h f hf hs
    have := h (f : Int) ((hl _).2 (.inr (mem_nI9.2 ((path_mem hT hc f).2 ⟨hf, hs⟩))))
    omega
  · intro h y hy
    rcases (hl y).1 hy with rfl | hy
    · omega
    · obtain ⟨f, hf, rfl⟩ := List.mem_map.1 hy
      obtain ⟨h1, h2⟩ := (path_mem hT hc f).1 hf
      have := h f h1 h2
      omega
theorem cyc_head (hT : FoE n E t) (hc : Cn (pk E t) (E.getD e (0, 0)).1 (E.getD e (0, 0)).2) : (sortG ltI (nI (pathL E t (E.getD e (0, 0)).1 (E.getD e (0, 0)).2) ++ [(e : Int)])).head? = some (e : Int) ↔ EAct E t e := by
  have hp := sortG_perm (lt := ltI) (nI (pathL E t (E.getD e (0, 0)).1 (E.getD e (0, 0)).2) ++ [(e : Int)])
  rw [head_least ((sortG_sorted ltI_tr ltI_as _).imp fun {a b} h => by simp [ltI] at h; omega) (hp.mem_iff.2 (by simp))]
  refine cyc_least hT hc fun y => ?_
  rw [hp.mem_iff, List.mem_append, List.mem_singleton]
  exact Or.comm
end
end Go.Proofs.YtnbikkcalcpedaaGreatDoor

