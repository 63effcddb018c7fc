/-
  Texts of this claim, put together: Legal, Legal2, MayP, PushE, Blocks, BelowP, WavesP, Waves, RBurn2.
-/
import Derived.Test.YtghigdcpinengaaGreatK01
import Derived.Test.YtghigdcpinengaaGreatK24
import Derived.Test.YtghigdcpinengaaGreatK10
import Derived.Deep.QuietTactic
import Derived.BigQuiet
import Derived.BigRegion
import Derived.Test.YtghigdcpinengaaGreatK21
import Derived.Laws.EntriesVeiled
import Derived.Test.YtghigdcpinengaaGreatK29
import Derived.Test.YtghigdcpinengaaGreatK09
import Derived.Test.YtghigdcpinengaaGreatK42
import Derived.Test.YtghigdcpinengaaGreatK22
/-! Package firing: may a set fire legally? -/
/-! Sets of vertices: graph.Subset; slices.Index and Contains on ints; firing.given and subset. -/
namespace Go.Proofs.YtghigdcpinengaaGreat
open Go.RowKit

end Go.Proofs.YtghigdcpinengaaGreat

namespace Go.Proofs.YtghigdcpinengaaGreat
open Go.RowKit

/-- The vertex of a set from which an edge leads out of the set. -/
def goesE (S : List Int) (e : E3) : Option Int := if e.1 ∈ S ∧ e.2.1 ∉ S then some e.1 else if e.2.1 ∈ S ∧ e.1 ∉ S then some e.2.1 else none
def lostE : List E3 → List Int → Int → Int
  | [], _, _ => 0
  | e :: es, S, v => (if goesE S e = some v then e.2.2 else 0) + lostE es S v
def leavesE (es : List E3) (S : List Int) : Bool := es.any fun e => (goesE S e).isSome
theorem lostE_bd {N : Int} {es : List E3} (h : ∀ e ∈ es, okE N e) (S : List Int) (v : Int) : 0 ≤ lostE es S v ∧ lostE es S v ≤ 50 * es.length := by
  induction es with
  | nil => simp [lostE]
  | cons e es ih =>
    have h1 := h e (by simp)
    have h2 := ih fun x hx => h x (by simp [hx])
    unfold okE at h1
    rw [lostE]
    simp only [List.length_cons]
    split <;> omega
end Go.Proofs.YtghigdcpinengaaGreat

/-! Package firing: LegalSet. -/
namespace Go.Proofs.YtghigdcpinengaaGreat
open Go.RowKit

/-- May the set fire legally? -/
def legB (es : List E3) (cs S : List Int) : Bool := leavesE es S && !(S.any fun v => !decide (lostE es S v ≤ cs.getD v.toNat 0))
end Go.Proofs.YtghigdcpinengaaGreat

/-! Plain laws of sets that may fire: as the reference counts, and as the program does; Dhar's law: the unburnt vertices block, and each set that blocks is unburnt. -/
namespace Go.Proofs.YtghigdcpinengaaGreat
open Go.RowKit

/-- How many single edges lead from a vertex out of a set, to the vertices below k. -/
def outTo (es : List E3) (S : List Int) (v : Int) : Nat → Int
  | 0 => 0
  | k + 1 => outTo es S v k + if (k : Int) ∈ S then 0 else btw es v k
/-- The reference's way through a set. -/
def mayFrom (es : List E3) (cs S : List Int) (n : Nat) : List Int → Int → Bool
  | [], sum => decide (0 < sum)
  | v :: r, sum => if cs.getD v.toNat 0 < outTo es S v n then false else mayFrom es cs S n r (sum + outTo es S v n)
theorem outTo_nil (S : List Int) (v : Int) : ∀ k, outTo [] S v k = 0
  | 0 => rfl
  | k + 1 => by rw [outTo, outTo_nil S v k, btw_nil]; split <;> rfl
theorem outTo_append {es fs : List E3} (h : (es ++ fs).Pairwise ltE) (hm : ∀ e ∈ es, 0 < e.2.2) (S : List Int) (v : Int) : ∀ k, outTo (es ++ fs) S v k = outTo es S v k + outTo fs S v k
  | 0 => rfl
  | k + 1 => by
    rw [outTo, outTo, outTo, outTo_append h hm S v k, btw_append h hm]
    split <;> omega
theorem outTo_one (e : E3) (he : e.1 ≤ e.2.1) (S : List Int) (v : Int) (hv : v ∈ S) : ∀ k, outTo [e] S v k = if (v = e.1 ∧ e.2.1 ∉ S ∧ 0 ≤ e.2.1 ∧ e.2.1 < k) ∨ (v = e.2.1 ∧ e.1 ∉ S ∧ 0 ≤ e.1 ∧ e.1 < k) then e.2.2 else 0
  | 0 => by rw [if_neg (by omega)]; rfl
  | k + 1 => by
    rw [outTo, outTo_one e he S v hv k, btw_cons, btw_nil]
    by_cases hk : (k : Int) ∈ S
    · rw [if_pos hk, Int.add_zero]
      have h1 : e.2.1 ∉ S → e.2.1 ≠ (k : Int) := fun h e => h (e ▸ hk)
      have h2 : e.1 ∉ S → e.1 ≠ (k : Int) := fun h e => h (e ▸ hk)
      by_cases hc : (v = e.1 ∧ e.2.1 ∉ S ∧ 0 ≤ e.2.1 ∧ e.2.1 < k) ∨ (v = e.2.1 ∧ e.1 ∉ S ∧ 0 ≤ e.1 ∧ e.1 < k)
      · rw [if_pos hc, if_pos (hc.imp (fun h => ⟨h.1, h.2.1, h.2.2.1, by omega⟩) (fun h => ⟨h.1, h.2.1, h.2.2.1, by omega⟩))]
      · rw [if_neg hc, if_neg]
        rintro (⟨c1, c2, c3, c4⟩ | ⟨c1, c2, c3, c4⟩)
        · exact hc (.inl ⟨c1, c2, c3, by have := h1 c2; omega⟩)
        · exact hc (.inr ⟨c1, c2, c3, by have := h2 c2; omega⟩)
    · rw [if_neg hk]
      have hvk : v ≠ (k : Int) := fun e => hk (e ▸ hv)
      by_cases hb : e.1 = min v k ∧ e.2.1 = max v k
      · rw [if_pos hb, if_neg (by omega), Int.zero_add, if_pos]
        by_cases hlt : v < k
        · refine .inl ⟨by omega, ?_, by omega, by omega⟩
          rw [show e.2.1 = (k : Int) from by omega]; exact hk
        · refine .inr ⟨by omega, ?_, by omega, by omega⟩
          rw [show e.1 = (k : Int) from by omega]; exact hk
      · rw [if_neg hb, Int.add_zero]
        by_cases hc : (v = e.1 ∧ e.2.1 ∉ S ∧ 0 ≤ e.2.1 ∧ e.2.1 < k) ∨ (v = e.2.1 ∧ e.1 ∉ S ∧ 0 ≤ e.1 ∧ e.1 < k)
        · rw [if_pos hc, if_pos (hc.imp (fun h => ⟨h.1, h.2.1, h.2.2.1, by omega⟩) (fun h => ⟨h.1, h.2.1, h.2.2.1, by omega⟩))]
        · rw [if_neg hc, if_neg]
          rintro (⟨c1, c2, c3, c4⟩ | ⟨c1, c2, c3, c4⟩)
          · exact hc (.inl ⟨c1, c2, c3, by omega⟩)
          · exact hc (.inr ⟨c1, c2, c3, by omega⟩)
theorem goesE_iff {S : List Int} {e : E3} {v : Int} (hv : v ∈ S) : goesE S e = some v ↔ (v = e.1 ∧ e.2.1 ∉ S) ∨ (v = e.2.1 ∧ e.1 ∉ S) := by
  unfold goesE
  by_cases h1 : e.1 ∈ S ∧ e.2.1 ∉ S
  · rw [if_pos h1]
    constructor
    · intro h; injection h with h; exact .inl ⟨h.symm, h1.2⟩
    · rintro (⟨rfl, _⟩ | ⟨rfl, h⟩)
      · rfl
      · exact absurd h1.1 h
  · rw [if_neg h1]
    by_cases h2 : e.2.1 ∈ S ∧ e.1 ∉ S
    · rw [if_pos h2]
      constructor
      · intro h; injection h with h; exact .inr ⟨h.symm, h2.2⟩
      · rintro (⟨rfl, h⟩ | ⟨rfl, _⟩)
        · exact absurd h2.1 h
        · rfl
    · rw [if_neg h2]
      constructor
      · intro h; cases h
      · rintro (⟨rfl, h⟩ | ⟨rfl, h⟩)
        · exact absurd ⟨hv, h⟩ h1
        · exact absurd ⟨hv, h⟩ h2
/-- What leaves a set at a vertex is what the vertex loses. -/
theorem outTo_lost {n : Nat} {es : List E3} (hok : ∀ e ∈ es, okE n e) (hs : es.Pairwise ltE) (S : List Int) (v : Int) (hv : v ∈ S) : outTo es S v n = lostE es S v := by
  induction es with
  | nil => rw [outTo_nil]; rfl
  | cons e es ih =>
    have h0 := hok e (by simp)
    unfold okE at h0
    have hap := outTo_append (es := [e]) (fs := es) (by simpa using hs) (fun x hx => by simp at hx; subst hx; omega) S v n
    rw [List.singleton_append] at hap
    rw [hap, lostE, ih (fun x hx => hok x (by simp [hx])) (List.pairwise_cons.1 hs).2, outTo_one e h0.2.1 S v hv]
    congr 1
    have hi := goesE_iff (S := S) (e := e) hv
    by_cases hg : goesE S e = some v
    · rw [if_pos hg, if_pos ((hi.1 hg).imp (fun h => ⟨h.1, h.2, by omega, by omega⟩) (fun h => ⟨h.1, h.2, by omega, by omega⟩))]
    · rw [if_neg hg, if_neg (fun h => hg (hi.2 (h.imp (fun h => ⟨h.1, h.2.1⟩) (fun h => ⟨h.1, h.2.1⟩))))]
theorem goesE_mem {S : List Int} {e : E3} {v : Int} (h : goesE S e = some v) : v ∈ S := by
  unfold goesE at h
  split at h
  · rename_i h1; injection h with h; exact h ▸ h1.1
  · split at h
    · rename_i h1; injection h with h; exact h ▸ h1.1
    · cases h
theorem lostE_pos {N : Int} {es : List E3} (hok : ∀ e ∈ es, okE N e) {S : List Int} {v : Int} : 0 < lostE es S v ↔ ∃ e ∈ es, goesE S e = some v := by
  induction es with
  | nil => simp [lostE]
  | cons e es ih =>
    have h0 := hok e (by simp)
    have ih := ih fun x hx => hok x (by simp [hx])
    have hb := lostE_bd (N := N) (es := es) (fun x hx => hok x (by simp [hx])) S v
    unfold okE at h0
    rw [lostE]
    by_cases hg : goesE S e = some v
    · rw [if_pos hg]
      exact ⟨fun _ => ⟨e, by simp, hg⟩, fun _ => by omega⟩
    · rw [if_neg hg, Int.zero_add, ih]
      constructor
      · rintro ⟨x, hx, h⟩; exact ⟨x, by simp [hx], h⟩
      · rintro ⟨x, hx, h⟩
        rcases List.mem_cons.1 hx with rfl | hx
        · exact absurd h hg
        · exact ⟨x, hx, h⟩
theorem leaves_iff {es : List E3} {S : List Int} : leavesE es S = true ↔ ∃ v ∈ S, ∃ e ∈ es, goesE S e = some v := by
  unfold leavesE
  rw [List.any_eq_true]
  constructor
  · rintro ⟨e, he, h⟩
    obtain ⟨v, hv⟩ := Option.isSome_iff_exists.1 h
    exact ⟨v, goesE_mem hv, e, he, hv⟩
  · rintro ⟨v, _, e, he, h⟩; exact ⟨e, he, by rw [h]; rfl⟩
theorem mayFrom_eq {n : Nat} {es : List E3} (hG : RightG n es) (cs S : List Int) : ∀ (r : List Int) (sum : Int), (∀ v ∈ r, v ∈ S) → 0 ≤ sum →
    mayFrom es cs S n r sum = (!(r.any fun v => !decide (lostE es S v ≤ cs.getD v.toNat 0)) && (decide (0 < sum) || r.any fun v => decide (0 < lostE es S v)))
  | [], sum, _, _ => by simp [mayFrom]
  | v :: r, sum, h, hs => by
    have hv := h v (by simp)
    have hb := lostE_bd hG.ok S v
    rw [mayFrom, outTo_lost hG.ok hG.sorted S v hv]
    by_cases hc : cs.getD v.toNat 0 < lostE es S v
    · rw [if_pos hc, List.any_cons]
      have : decide (lostE es S v ≤ cs.getD v.toNat 0) = false := decide_eq_false (by omega)
      rw [this]; rfl
    · rw [if_neg hc, mayFrom_eq hG cs S r _ (fun x hx => h x (by simp [hx])) (by omega), List.any_cons, List.any_cons]
      have h1 : decide (lostE es S v ≤ cs.getD v.toNat 0) = true := decide_eq_true (by omega)
      rw [h1]
      by_cases hp : 0 < lostE es S v
      · have h2 : decide (0 < sum + lostE es S v) = true := decide_eq_true (by omega)
        have h3 : decide (0 < lostE es S v) = true := decide_eq_true hp
        rw [h2, h3]; simp
      · have h2 : decide (0 < sum + lostE es S v) = decide (0 < sum) := by congr 1; simp; omega
        have h3 : decide (0 < lostE es S v) = false := decide_eq_false hp
        rw [h2, h3]; simp
/-- Both ways agree. -/
theorem may_leg {n : Nat} {es : List E3} (hG : RightG n es) (cs S : List Int) : mayFrom es cs S n S 0 = legB es cs S := by
  rw [mayFrom_eq hG cs S S 0 (fun _ h => h) (Int.le_refl _)]
  unfold legB
  rw [Bool.and_comm]
  congr 1
  rw [show decide ((0 : Int) < 0) = false from rfl, Bool.false_or, Bool.eq_iff_iff, List.any_eq_true, leaves_iff]
  constructor
  · rintro ⟨v, hv, h⟩; exact ⟨v, hv, (lostE_pos hG.ok).1 (by simpa using h)⟩
  · rintro ⟨v, hv, h⟩; exact ⟨v, hv, by simpa using (lostE_pos hG.ok).2 h⟩
theorem leg_nonempty {es : List E3} {cs S : List Int} (h : legB es cs S = true) : S ≠ [] := by
  rintro rfl
  unfold legB at h
  rw [Bool.and_eq_true, leaves_iff] at h
  obtain ⟨⟨v, hv, _⟩, _⟩ := h
  simp at hv

/-! Dhar's law. -/
/-- What is lost at a vertex of a set is how often it is joined with the others. -/
theorem outTo_joins {es : List E3} {S : List Int} {n : Nat} {v : Nat} : ∀ k, outTo es S v k = joinsN es v ((List.range k).filter fun u => !decide ((u : Int) ∈ S))
  | 0 => rfl
  | k + 1 => by
    rw [outTo, outTo_joins (n := n) k, List.range_succ, List.filter_append]
    by_cases h : (k : Int) ∈ S
    · simp [h]
    · simp [h, joinsN_snoc]
theorem filter_ok (n : Nat) (p : Nat → Bool) : LOk n ((List.range n).filter p) := ⟨List.Nodup.sublist List.filter_sublist List.nodup_range, fun u hu => by simpa using (List.mem_filter.1 hu).1⟩
theorem legB_iff {es : List E3} {cs S : List Int} : legB es cs S = true ↔ leavesE es S = true ∧ ∀ v ∈ S, lostE es S v ≤ cs.getD v.toNat 0 := by
  unfold legB
  rw [Bool.and_eq_true]
  refine and_congr_right fun _ => ?_
  rw [Bool.not_eq_true', List.any_eq_false]
  refine forall_congr' fun v => imp_congr_right fun _ => ?_
  simp
/-- Each set that blocks is unburnt. -/
theorem blocks_unburnt {n q : Nat} {es : List E3} (hG : RightG n es) (hq : q < n) {cs S : List Int} (hqS : (q : Int) ∉ S) (h : legB es cs S = true) : ∀ v : Nat, (v : Int) ∈ S → v ∉ burntL es cs n q := by
  obtain ⟨_, hle⟩ := legB_iff.1 h
  have hok : LOk n ((List.range n).filter fun u => !decide ((u : Int) ∈ S)) := filter_ok n _
  have hall := burns_same (es := es) (c := cs) (n := n) (l := [q]) (l' := (List.range n).filter fun u => !decide ((u : Int) ∈ S))
    (fun u hu => by simp at hu; subst hu; simp [hq, hqS]) (fun u hu => by
      rw [← Bool.not_eq_true, catL_true]
      rintro ⟨h1, h2⟩
      have huS : (u : Int) ∈ S := by
        refine Classical.byContradiction fun hc => h1 ?_
        simp [hu, hc]
      have h3 := hle _ huS
      rw [← outTo_lost hG.ok hG.sorted S _ huS, outTo_joins (n := n)] at h3
      simp only [Int.toNat_natCast] at h3
      omega) hok (fun a b => (btw_bd hG.ok a b).1) n ⟨by simp, by simpa using hq⟩
  intro v hv hb
  have := hall v hb
  simp [hv] at this
/-- The unburnt vertices, if there are any, block. -/
theorem unburnt_blocks {n q : Nat} {es : List E3} (hG : RightG n es) (hC : AllConn n es) (hq : q < n) {cs : List Int} (hne : restL n (burntL es cs n q) ≠ []) : legB es cs ((restL n (burntL es cs n q)).map fun u : Nat => (u : Int)) = true ∧ (q : Int) ∉ (restL n (burntL es cs n q)).map fun u : Nat => (u : Int) := by
  have hl : LOk n (burntL es cs n q) := burnL_ok n _ ⟨by simp, by simpa using hq⟩
  have hqb : q ∈ burntL es cs n q := (burnL_pre n [q]).subset (by simp)
  have hdone := burnL_done (es := es) (c := cs) (n := n) (k := n) (l := [q]) ⟨by simp, by simpa using hq⟩ (by simp)
  obtain ⟨b, hb⟩ : ∃ b, burntL es cs n q = b := ⟨_, rfl⟩
  change ∀ u, u < n → catL es cs (burntL es cs n q) u = false at hdone
  rw [hb] at hl hqb hdone hne ⊢
  obtain ⟨S, hS⟩ : ∃ S, ((restL n b).map fun u : Nat => (u : Int)) = S := ⟨_, rfl⟩
  have hmem : ∀ u : Nat, (u : Int) ∈ S ↔ u < n ∧ u ∉ b := by
    intro u
    rw [← hS, ← mem_rest]
    simp only [List.mem_map]
    constructor
    · rintro ⟨x, hx, e⟩; obtain rfl : x = u := by omega
      exact hx
    · intro h; exact ⟨u, h, rfl⟩
  have hnat : ∀ v ∈ S, ∃ u : Nat, v = u := by
    intro v hv
    rw [← hS, List.mem_map] at hv
    obtain ⟨u, _, rfl⟩ := hv
    exact ⟨u, rfl⟩
  rw [hS]
  refine ⟨legB_iff.2 ⟨?_, ?_⟩, ?_⟩
  · -- an edge leads out
    rw [leaves_iff]
    obtain ⟨u0, hu0⟩ := List.exists_mem_of_ne_nil _ hne
    have hu1 := mem_rest.1 hu0
    have hconn : Conn es q u0 := (hC q hq).symm.trans (hC u0 hu1.1)
    have key : ∀ x, Conn es q x → x ∉ b → ∃ y z, y ∈ b ∧ z ∉ b ∧ adjE es y z := by
      intro x hx
      induction hx with
      | refl => intro h; exact absurd hqb h
      | @step y z h1 h2 ih =>
        intro hz
        by_cases hy : y ∈ b
        · exact ⟨y, z, hy, hz, h2⟩
        · exact ih hy
    obtain ⟨y, z, hy, hz, e, he, hyz⟩ := key u0 hconn hu1.2
    have hok := hG.ok e he
    unfold okE at hok
    have hzn : z < n := by omega
    have hzS : (z : Int) ∈ S := (hmem z).2 ⟨hzn, hz⟩
    have hyS : (y : Int) ∉ S := fun h => ((hmem y).1 h).2 hy
    refine ⟨z, hzS, e, he, (goesE_iff hzS).2 ?_⟩
    rcases hyz with ⟨h1, h2⟩ | ⟨h1, h2⟩
    · exact .inr ⟨h2.symm, by rw [h1]; exact hyS⟩
    · exact .inl ⟨h1.symm, by rw [h2]; exact hyS⟩
  · intro v hv
    obtain ⟨u, rfl⟩ := hnat v hv
    have hu := (hmem u).1 hv
    have hc := hdone u hu.1
    rw [← outTo_lost hG.ok hG.sorted S _ hv, outTo_joins (n := n)]
    simp only [Int.toNat_natCast]
    rw [← Bool.not_eq_true, catL_true] at hc
    have hle : ¬ cs.getD u 0 < joinsN es u b := fun h => hc ⟨hu.2, h⟩
    have hmono := joins_mono (es := es) (fun a b => (btw_bd hG.ok a b).1) (filter_ok n fun u => !decide ((u : Int) ∈ S)) hl (fun x hx => by
      have h1 := List.mem_filter.1 hx
      have h2 : x < n := by simpa using h1.1
      refine Classical.byContradiction fun h3 => ?_
      have := (hmem x).2 ⟨h2, h3⟩
      simp [this] at h1) u
    omega
  · intro h; exact ((hmem q).1 h).2 hqb
end Go.Proofs.YtghigdcpinengaaGreat

/-! What Push returns, as a relation, with its errors. -/
namespace Go.Proofs.YtghigdcpinengaaGreat
open Go.RowKit

/-- How far the pushing has come. -/
def PState (es : List E3) (n q : Nat) (r : Option (List Int × List Int)) (cs ss : List Int) (m : Nat) : Prop :=
  cs.length = n ∧ ss.length = n ∧ ((m ≤ 1048576 ∧ PushR es n q cs ss m r ∧ Bd (1048576 + 14400 * m) cs ∧ Bd m ss) ∨ (1048576 < m ∧ r = none))
theorem PState.next {es : List E3} {n q : Nat} {r : Option (List Int × List Int)} {cs ss : List Int} {m : Nat} (h : PState es n q r cs ss m) (hn : n ≤ 12) {N : Int} (hok : ∀ e ∈ es, okE N e) (hm : m ≤ 1048576) (hne : leftC es n q cs ≠ []) :
    PState es n q r (stepC es n q cs) (bumpL ss (leftC es n q cs)) (m + (leftC es n q cs).length) := by
  obtain ⟨h1, h2, h3⟩ := h
  refine ⟨by rw [stepC_length]; exact h1, by rw [bumpL_length]; exact h2, ?_⟩
  rcases h3 with ⟨_, h4, h5, h6⟩ | ⟨h4, _⟩
  · have hp := List.length_pos_iff.2 hne
    by_cases hov : m + (leftC es n q cs).length ≤ 1048576
    · exact .inl ⟨hov, h4.step_inv hne hov, (stepC_bd hok hn (by omega) h5).mono (by push_cast; omega), (bumpL_bd (by omega) h6 _).mono (by push_cast; omega)⟩
    · exact .inr ⟨by omega, h4.over_inv hne (by omega)⟩
  · omega

/-- What Push returns. -/
def PushE (n : Int) (es : List E3) (q : Int) (cs ds ss : List Int) (e : Int) : Prop :=
  (burnErr n es q cs ≠ 0 ∧ ds = [] ∧ ss = [] ∧ e = burnErr n es q cs) ∨
  (burnErr n es q cs = 0 ∧ ∃ r, PushR es n.toNat q.toNat cs (List.replicate n.toNat 0) 0 r ∧ ((r = some (ds, ss) ∧ e = 0) ∨ (r = none ∧ ds = [] ∧ ss = [] ∧ e = 12)))
end Go.Proofs.YtghigdcpinengaaGreat

/-! Plain laws of pushing right configurations: a push comes to an end; adding chips first or later leads to the same. No program is in sight. -/
namespace Go.Proofs.YtghigdcpinengaaGreat

/-- An error of a graph and a sink there is none where one configuration has none. -/
theorem burn_zero_of {n : Int} {es : List E3} {q : Int} {a cs : List Int} (h : burnErr n es q a = 0) (hl : (cs.length : Int) = n) (hb : ∀ x ∈ cs, -1048576 ≤ x ∧ x ≤ 1048576) (h0 : ∀ x, 0 ≤ cs.getD x 0) (hq : cs.getD q.toNat 0 = 0) : burnErr n es q cs = 0 := by
  have hc := (burn_zero h).1
  have hr : rootErr n es q = 0 := by
    rcases conf_cases n es q a with ⟨h1, h2⟩ | ⟨h1, _⟩ | ⟨h1, _⟩
    · exact absurd (h2 ▸ hc) h1
    · exact h1
    · exact h1
  obtain ⟨hG, _⟩ := conf_zero hc
  have hd : divErr cs n = 0 := by
    unfold divErr
    have hlo := hG.lo
    have hhi := hG.hi
    rw [if_neg (by omega), if_neg (by omega), if_pos (List.all_eq_true.2 fun x hx => chipB_true.2 (hb x hx))]
  have hdebt : debtTo cs q cs.length = false := by
    unfold debtTo
    rw [List.any_eq_false]
    intro v _
    have := h0 v
    rw [Bool.and_eq_true, decide_eq_true_eq, decide_eq_true_eq]
    omega
  have hcf : confErr n es q cs = 0 := by
    unfold confErr
    rw [if_neg (by omega), if_neg (by omega), hdebt]; rfl
  unfold burnErr
  rw [if_neg (by omega), if_neg (by omega)]

end Go.Proofs.YtghigdcpinengaaGreat

/-! Package burning: Blocks. -/
namespace Go.Proofs.YtghigdcpinengaaGreat
open Go.RowKit

end Go.Proofs.YtghigdcpinengaaGreat

/-! Plain laws for BurningBelow: each set that blocks is unburnt; with fewer chips no more vertices are unburnt. No program is in sight. -/
namespace Go.Proofs.YtghigdcpinengaaGreat

end Go.Proofs.YtghigdcpinengaaGreat

/-! Plain laws: the waves of a fire; a configuration is superstable exactly if no set blocks. No program is in sight. -/
namespace Go.Proofs.YtghigdcpinengaaGreat

section
variable {es : List E3} {cs : List Int} {n : Nat}
end

/-- Does a set block? -/
def bloB (es : List E3) (q : Int) (cs S : List Int) : Bool := legB es cs S && !decide (q ∈ S)
/-- A configuration is superstable exactly if no set blocks. -/
theorem super_sets {n q : Nat} {es : List E3} {cs : List Int} (hG : RightG n es) (hC : AllConn n es) (hq : q < n) :
    decide (restL n (burntL es cs n q) = []) = !((subsL n (2 ^ n)).any fun S => bloB es q cs S) := by
  by_cases hr : restL n (burntL es cs n q) = []
  · rw [decide_eq_true hr]
    symm
    rw [Bool.not_eq_true', List.any_eq_false]
    intro S hS hb
    unfold bloB at hb
    rw [Bool.and_eq_true] at hb
    obtain ⟨D, _, rfl⟩ := List.mem_map.1 hS
    have hqS : (q : Int) ∉ natsI (bitsL n D) := by simpa using hb.2
    have hall := blocks_unburnt hG hq hqS hb.1
    have hne := leg_nonempty hb.1
    cases hl : bitsL n D with
    | nil => rw [hl] at hne; exact hne rfl
    | cons v l =>
      have hv : v ∈ bitsL n D := by rw [hl]; simp
      have h1 := hall v (natsI_mem.2 hv)
      have : v ∈ restL n (burntL es cs n q) := mem_rest.2 ⟨bits_lt v hv, h1⟩
      rw [hr] at this
      simp at this
  · rw [decide_eq_false hr]
    symm
    rw [Bool.not_eq_false', List.any_eq_true]
    obtain ⟨D, hD, hb⟩ := bits_all (fun v => !decide (v ∈ burntL es cs n q)) n
    have he : natsI (bitsL n D) = (restL n (burntL es cs n q)).map fun u : Nat => (u : Int) := by rw [hb]; rfl
    have hblk := unburnt_blocks (cs := cs) hG hC hq hr
    refine ⟨natsI (bitsL n D), List.mem_map.2 ⟨D, by simpa using hD, rfl⟩, ?_⟩
    unfold bloB
    rw [he, hblk.1, decide_eq_false hblk.2]; rfl
end Go.Proofs.YtghigdcpinengaaGreat

/-! burning.Waves. -/
namespace Go.Proofs.YtghigdcpinengaaGreat
open Go.RowKit

end Go.Proofs.YtghigdcpinengaaGreat

/-! The reference's fire: ref23.Burnt, ref23.Unburnt. -/
namespace Go.Proofs.YtghigdcpinengaaGreat
open Go.RowKit

end Go.Proofs.YtghigdcpinengaaGreat

/-! The reference's fire: ref23.Unburnt. -/
namespace Go.Proofs.YtghigdcpinengaaGreat
open Go.RowKit

end Go.Proofs.YtghigdcpinengaaGreat

