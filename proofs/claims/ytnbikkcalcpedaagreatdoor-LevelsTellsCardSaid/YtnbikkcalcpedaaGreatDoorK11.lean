/-
  Texts of this claim, put together: LawG, ConnB, DelF, Sort.
-/
import Derived.Test.YtnbikkcalcpedaaGreatDoorK03
import Derived.Test.YtnbikkcalcpedaaGreatDoorK10
import Derived.Deep.Slices
import Derived.Test.YtnbikkcalcpedaaGreatDoorK02
import Derived.Lib.SliceRun
import Derived.WalkKit
import Derived.Test.YtnbikkcalcpedaaGreatDoorK06
import Derived.Deep.QuietTactic
import Derived.BigQuiet
namespace Go.Proofs.YtnbikkcalcpedaaGreatDoor
open Go.ChangeShapes Go.WideShapes Go.ChangeAt Go.RowKit Go.Deep
section
variable {H : Type} {enc : TypeId × Value → H} {W : World}
theorem open_row {t : TypeId} (ht : Tryz.prog.underlying t = some (.slice 3)) {fuel : Nat} {cs : List Value} {x : DataW H × List MemPlace} (h : DataW.trod enc Tryz.prog W 0 (fun _ => true) true fuel t cs = some x) :
    ∃ (a : Option Addr) (cap : Nat) (xs : List Int), cs = [.slice a xs.length cap] ∧ xs.length ≤ maxLen ∧ Reads W W.heap.size 1 a xs.length (ints xs) ∧ ∀ x ∈ xs, (Lit.int .i64 x).wf = true := by
  obtain ⟨a, len, cap, zs, hcs, hz⟩ : ∃ a len cap zs, cs = [.slice a len cap] ∧ IsRow .i64 W a len cap zs := by
    rcases open_ints ht Tryz.underlying3 (by kernel_rfl) h with ⟨hcs, _⟩ | ⟨x, l, c, zs, hcs, _, hl, hm, hz, _, hcell, hwz⟩
    · exact ⟨none, 0, 0, [], hcs, .inl ⟨rfl, rfl, rfl, rfl⟩⟩
    · exact ⟨_, _, _, zs, hcs, .inr ⟨_, rfl, hl, hm, by simpa using hz, hcell, hwz⟩⟩
  obtain ⟨xs, rfl, hm, hr, hw⟩ := hz.reads
  exact ⟨a, cap, xs, hcs, hm, hr, hw⟩
set_option maxRecDepth 100000 in
theorem open_graph {fuel : Nat} {cs : List Value} {x : DataW H × List MemPlace} (h : DataW.trod enc Tryz.prog W 0 (fun _ => true) true fuel 24 cs = some x) :
    ∃ (n : Int) (a : Option Addr) (cap : Nat) (es : List E3), cs = [.int .i64 n, .slice a es.length cap] ∧ es.length ≤ maxLen ∧ Reads W W.heap.size 3 a es.length (edgeCells es) ∧ (Lit.int .i64 n).wf = true := by
  obtain ⟨ys, m, rfl, _, hlen, hys, hf⟩ := DataW.trod_struct Tryz.underlying24 h
  rw [show Tryz.prog.cellsOf 24 = 2 from by kernel_rfl] at hlen
  match cs, hlen with
  | [u0, u1], _ =>
    have f0 := hf 0 _ rfl
    have f1 := hf 1 _ rfl
    have hsz : ys.length = 2 := hys
    obtain ⟨y0, hy0⟩ : ∃ y, ys[0]? = some y := ⟨_, List.getElem?_eq_getElem (by omega)⟩
    obtain ⟨y1, hy1⟩ : ∃ y, ys[1]? = some y := ⟨_, List.getElem?_eq_getElem (by omega)⟩
    rw [hy0] at f0
    rw [hy1] at f1
    have ci : Tryz.prog.cellsOf 3 = 1 := by kernel_rfl
    have cl : Tryz.prog.cellsOf 22 = 1 := by kernel_rfl
    simp [ci, cl] at f0 f1
    obtain ⟨n, hn, _, hw⟩ := DataW.trod_int Tryz.underlying3 f0
    injection hn with hn
    subst hn
    rcases open_slice Tryz.underlying22 f1 with ⟨hcs, _⟩ | ⟨a, len, cap, k, fu, D, Pl, hcs, hb, hl, hm, hk, _, hx⟩
    · injection hcs with hcs
      subst hcs
      exact ⟨n, none, 0, [], rfl, by simp, Reads.nil_, hw⟩
    · injection hcs with hcs
      subst hcs
      have hk : k = cap := by simpa using hk
      have ce : Tryz.prog.cellsOf 107 = 3 := by kernel_rfl
      have each : ∀ i, i < len → ∃ e : E3, W.cell? (a.add (i * 3)) = some (.int .i64 e.1) ∧ W.cell? (a.add (i * 3 + 1)) = some (.int .i64 e.2.1) ∧ W.cell? (a.add (i * 3 + 2)) = some (.int .i64 e.2.2) := by
        intro i hi
        obtain ⟨cs', h1, h2⟩ := hx i (by omega)
        rw [ce] at h1
        obtain ⟨_, hlen, hcell⟩ := World.cells?_some h1
        obtain ⟨xs, k, _, _, _, hxl, hf⟩ := DataW.trod_struct Tryz.underlying107 h2
        match xs, hxl, cs', hlen with
        | [y0, y1, y2], _, [v0, v1, v2], _ =>
          have g0 := hf 0 _ rfl
          have g1 := hf 1 _ rfl
          have g2 := hf 2 _ rfl
          simp [ci] at g0 g1 g2
          have e0 := hcell 0 (by omega)
          have e1 := hcell 1 (by omega)
          have e2 := hcell 2 (by omega)
          rw [add_add] at e0 e1 e2
          obtain ⟨n0, q0, _, _⟩ := DataW.trod_int Tryz.underlying3 g0
          obtain ⟨n1, q1, _, _⟩ := DataW.trod_int Tryz.underlying3 g1
          obtain ⟨n2, q2, _, _⟩ := DataW.trod_int Tryz.underlying3 g2
          injection q0 with q0
          injection q1 with q1
          injection q2 with q2
          subst q0 q1 q2
          exact ⟨(n0, n1, n2), by simpa using e0, by simpa using e1, by simpa using e2⟩
      obtain ⟨F, hF⟩ := choose_lt each
      have hlen : ((List.range len).map F).length = len := by simp
      have hspot : 0 < len → ∃ b off, a = ⟨b, off, none⟩ ∧ b < W.heap.size := by
        intro h0
        have hc := (hF 0 h0).1
        obtain ⟨b, off, spot⟩ := a
        obtain rfl : spot = none := by simpa [Addr.add] using World.cell?_spot hc
        have := World.block_lt_of_cell? W _ hc
        exact ⟨b, off, rfl, by simpa [Addr.add] using this⟩
      refine ⟨n, some a, cap, (List.range len).map F, by rw [hlen], by rw [hlen]; omega, ⟨edgeCells_length _, fun hn => ?_⟩, hw⟩
      rw [hlen] at hn
      obtain ⟨b, off, rfl, hb2⟩ := hspot hn
      refine ⟨b, off, rfl, hb2, fun j u hu => ?_⟩
      have hj : j < (edgeCells ((List.range len).map F)).length := (List.getElem?_eq_some_iff.1 hu).1
      rw [edgeCells_length, hlen] at hj
      have hi : j / 3 < len := by omega
      have hget : ((List.range len).map F)[j / 3]? = some (F (j / 3)) := by rw [List.getElem?_map, List.getElem?_range hi]; rfl
      obtain ⟨k0, k1, k2⟩ := edgeCells_at hget
      obtain ⟨m0, m1, m2⟩ := hF _ hi
      rw [add_plain] at m0 m1 m2
      have h3 : j = j / 3 * 3 ∨ j = j / 3 * 3 + 1 ∨ j = j / 3 * 3 + 2 := by omega
      rcases h3 with h3 | h3 | h3
      · rw [h3, k0] at hu; injection hu with hu; rw [show off + j = off + (j / 3 * 3) from by omega, ← hu]; exact m0
      · rw [h3, k1] at hu; injection hu with hu; rw [show off + j = off + (j / 3 * 3 + 1) from by omega, ← hu]; exact m1
      · rw [h3, k2] at hu; injection hu with hu; rw [show off + j = off + (j / 3 * 3 + 2) from by omega, ← hu]; exact m2
end
end Go.Proofs.YtnbikkcalcpedaaGreatDoor
namespace Go.Proofs.YtnbikkcalcpedaaGreatDoor
open Go.RowKit
def connB (n : Nat) (es : List E3) : Bool := decide ((partsTo es n n).1 = 1)
theorem connB_iff {n : Nat} {es : List E3} (hG : RightG n es) : connB n es = true ↔ AllConn n es := by
  rw [← partsTo_connected hG]; simp [connB]
theorem connB_joins {n : Nat} {es : List E3} {f : List Nat} (hG : RightG n es) (h : Joins es f) : connB n es = decide (rootsTo f n = 1) := by
  rw [Bool.eq_iff_iff, connB_iff hG, ← joins_connected h hG]; simp
end Go.Proofs.YtnbikkcalcpedaaGreatDoor
namespace Go.Proofs.YtnbikkcalcpedaaGreatDoor
open Go.RowKit
theorem OwnI.cut {w : World} {base c g : Nat} {xs : List Int} (h : OwnI w base (some ⟨g, 0, none⟩) c xs) (k : Nat) (hk : k ≤ xs.length) : OwnI w base (some ⟨g, 0, none⟩) c (xs.take k) := by
  obtain ⟨h1, h2⟩ := h
  have e : (xs.take k).length = k := by simp; omega
  rcases h2 with ⟨h2, h3⟩ | ⟨g', cap, cur, hv, hg, hh, r1, r2, r3, r4⟩
  · simp at h2
  · injection hv with hv1 hv2 hv3
    refine ⟨by rw [ints_length]; simp, .inr ⟨g', cap, cur, by rw [hv1, hv3], hg, hh, by omega, r2, r3, ?_⟩⟩
    rw [e, Nat.mul_one]
    rw [Nat.mul_one] at r4
    have : (cur.toList.take xs.length).take k = (ints xs).take k := by rw [r4]
    rw [List.take_take, Nat.min_eq_left hk] at this
    rw [this]; simp [ints, List.map_take]
theorem OwnI.zero {base c g : Nat} {xs : List Int} : ∀ (n o : Nat) {w : World}, OwnI w base (some ⟨g, 0, none⟩) c xs → xs.length ≤ o → OwnI (w.setCells g o (List.replicate n (.int .i64 0))) base (some ⟨g, 0, none⟩) c xs
  | 0, _, _, h, _ => h
  | n + 1, o, w, h, ho => by
    rw [List.replicate_succ]
    refine OwnI.zero n (o + 1) (w := w.setCell ⟨g, o, none⟩ (.int .i64 0)) ?_ (by omega)
    have := h.put o 0
    rw [List.set_eq_of_length_le ho] at this
    exact this
theorem OwnI.cap {w : World} {base c g : Nat} {xs : List Int} (h : OwnI w base (some ⟨g, 0, none⟩) c xs) : xs.length ≤ c := by
  obtain ⟨h1, h2⟩ := h
  rcases h2 with ⟨h2, h3⟩ | ⟨g', cap, cur, hv, hg, hh, r1, r2, r3, r4⟩
  · simp at h2
  · injection hv with hv1 hv2 hv3
    omega
def Kept (p : Int → Bool) (xs ks : List Int) (i j : Nat) : Prop := ks.length = xs.length ∧ i < j ∧ j ≤ xs.length ∧ ks.take i = (xs.take j).filter (fun x => !p x) ∧ ∀ q, j ≤ q → ks[q]? = xs[q]?
theorem Kept.start {p : Int → Bool} {xs : List Int} {k : Nat} {x : Int} (h1 : xs[k]? = some x) (h2 : p x = true) (h3 : ∀ x ∈ xs.take k, p x = false) : Kept p xs xs k (k + 1) := by
  obtain ⟨hk, e⟩ := List.getElem?_eq_some_iff.1 h1
  refine ⟨rfl, by omega, by omega, ?_, fun _ _ => rfl⟩
  rw [take_snoc h1, List.filter_append]
  have : (xs.take k).filter (fun x => !p x) = xs.take k := List.filter_eq_self.2 fun x hx => by simp [h3 x hx]
  rw [this]; simp [h2]
theorem Kept.keep {p : Int → Bool} {xs ks : List Int} {i j : Nat} {x : Int} (h : Kept p xs ks i j) (h1 : xs[j]? = some x) (h2 : p x = false) : Kept p xs (ks.set i x) (i + 1) (j + 1) := by
  obtain ⟨hk, e⟩ := List.getElem?_eq_some_iff.1 h1
  obtain ⟨a, b, c, d, f⟩ := h
  refine ⟨by simpa using a, by omega, by omega, ?_, fun q hq => ?_⟩
  · have hs : (ks.set i x)[i]? = some x := by rw [List.getElem?_set_self (by omega)]
    rw [take_snoc hs, List.take_set_of_le (Nat.le_refl _), d, take_snoc h1, List.filter_append]; simp [h2]
  · rw [List.getElem?_set_ne (by omega)]; exact f q (by omega)
theorem Kept.done {p : Int → Bool} {xs ks : List Int} {i : Nat} (h : Kept p xs ks i xs.length) : ks.take i = xs.filter (fun x => !p x) := by
  obtain ⟨a, b, c, d, f⟩ := h
  rw [d, List.take_length]
end Go.Proofs.YtnbikkcalcpedaaGreatDoor
namespace Go.Proofs.YtnbikkcalcpedaaGreatDoor
open Go.RowKit
set_option maxHeartbeats 400000 in
theorem less_any (x y : Int) (w : World) : Calls Tryz.prog 249 #[.int .i64 x, .int .i64 y] w fun e w' => e = .returned (.bool (decide (x < y))) ∧ w = w' := by
  by_cases h : x < y
  · have hd : decide (x < y) = true := decide_eq_true h
    rw [hd]
    go_enter Tryz.func249, Tryz.ntmps249
    go_wp2
    go_ret
    exact ⟨ret_bool (by simp), rfl⟩
  · have hd : decide (x < y) = false := decide_eq_false h
    rw [hd]
    go_enter Tryz.func249, Tryz.ntmps249
    go_wp2
    go_ret
    exact ⟨ret_bool (by simp), rfl⟩
theorem lessq_any (x y : Int) (w : World) : Calls Tryz.prog 249 #[.int .i64 x, .int .i64 y] w fun e w' => e = .returned (.bool (decide (x < y))) ∧ ∃ m, w' = w.drewN m :=
  (less_any x y w).mono fun _ _ ⟨he, hw⟩ => ⟨he, 0, hw.symm⟩
def Srt (L : List Int) (i j : Nat) : Prop := ∀ p q, p < q → q ≤ i → q ≠ j → ∀ x y, L[p]? = some x → L[q]? = some y → x ≤ y
def swapL (L : List Int) (m : Nat) (a b : Int) : List Int := (L.set (m + 1) a).set m b
theorem swapL_perm {L : List Int} {m : Nat} {a b : Int} (ha : L[m]? = some a) (hb : L[m + 1]? = some b) : (swapL L m a b).Perm L := by
  obtain ⟨l1, e1⟩ := List.getElem?_eq_some_iff.1 ha
  obtain ⟨l2, e2⟩ := List.getElem?_eq_some_iff.1 hb
  have h : ((L.set (m + 1) L[m]).set m L[m + 1]).Perm L := List.set_set_perm l2 l1
  rw [e1, e2] at h
  exact h
theorem swapL_get {L : List Int} {m : Nat} {a b : Int} (h : m + 1 < L.length) (q : Nat) : (swapL L m a b)[q]? = if q = m then some b else if q = m + 1 then some a else L[q]? := by
  unfold swapL
  by_cases h1 : q = m
  · subst h1; rw [if_pos rfl, List.getElem?_set_self (by rw [List.length_set]; omega)]
  · rw [if_neg h1, List.getElem?_set_ne (fun e => h1 e.symm)]
    by_cases h2 : q = m + 1
    · subst h2; rw [if_pos rfl, List.getElem?_set_self h]
    · rw [if_neg h2, List.getElem?_set_ne (fun e => h2 e.symm)]
theorem Srt.swap {L : List Int} {i m : Nat} {a b : Int} (hs : Srt L i (m + 1)) (ha : L[m]? = some a) (hb : L[m + 1]? = some b) (hab : b < a) : Srt (swapL L m a b) i m := by
  have hl : m + 1 < L.length := (List.getElem?_eq_some_iff.1 hb).1
  intro p q hpq hq hqm x y hx hy
  rw [swapL_get hl] at hx hy
  rw [if_neg hqm] at hy
  by_cases h2 : q = m + 1
  · rw [if_pos h2] at hy
    injection hy with hy
    subst hy
    by_cases h3 : p = m
    · rw [if_pos h3] at hx; injection hx with hx; omega
    · rw [if_neg h3, if_neg (by omega)] at hx
      exact hs p m (by omega) (by omega) (by omega) x a hx ha
  · rw [if_neg h2] at hy
    by_cases h3 : p = m
    · rw [if_pos h3] at hx; injection hx with hx; subst hx
      exact hs (m + 1) q (by omega) hq h2 b y hb hy
    · rw [if_neg h3] at hx
      by_cases h4 : p = m + 1
      · rw [if_pos h4] at hx; injection hx with hx; subst hx
        exact hs m q (by omega) hq h2 a y ha hy
      · rw [if_neg h4] at hx
        exact hs p q hpq hq h2 x y hx hy
theorem Srt.done {L : List Int} {i m : Nat} {a b : Int} (hs : Srt L i (m + 1)) (_hi : m + 1 ≤ i) (ha : L[m]? = some a) (hb : L[m + 1]? = some b) (hab : a ≤ b) : Srt L i (i + 1) := by
  intro p q hpq hq _ x y hx hy
  by_cases h2 : q = m + 1
  · subst h2
    rw [hb] at hy; injection hy with hy; subst hy
    by_cases h3 : p = m
    · subst h3; rw [ha] at hx; injection hx with hx; omega
    · have := hs p m (by omega) (by omega) (by omega) x a hx ha; omega
  · exact hs p q hpq hq h2 x y hx hy
theorem Srt.zero {L : List Int} {i : Nat} (hs : Srt L i 0) : Srt L i (i + 1) := fun p q hpq hq _ x y hx hy => hs p q hpq hq (by omega) x y hx hy
theorem Srt.next {L : List Int} {i : Nat} (hs : Srt L i (i + 1)) : Srt L (i + 1) (i + 1) := fun p q hpq hq hne x y hx hy => hs p q hpq (by omega) hne x y hx hy
set_option maxRecDepth 100000 in
theorem bitsLen_any (n : Nat) (hn : n ≤ 12) (w : World) : Calls Tryz.prog 118 #[.int .u64 n] w fun e w' => (∃ v : Int, e = .returned (.int .i64 v)) ∧ w = w' := by
  have hc : n = 0 ∨ n = 1 ∨ n = 2 ∨ n = 3 ∨ n = 4 ∨ n = 5 ∨ n = 6 ∨ n = 7 ∨ n = 8 ∨ n = 9 ∨ n = 10 ∨ n = 11 ∨ n = 12 := by omega
  rcases hc with rfl | rfl | rfl | rfl | rfl | rfl | rfl | rfl | rfl | rfl | rfl | rfl | rfl
  all_goals (
    go_enter Tryz.func118, Tryz.ntmps118
    go_wp2
    go_ret
    exact ⟨⟨_, rfl⟩, rfl⟩)
end Go.Proofs.YtnbikkcalcpedaaGreatDoor
