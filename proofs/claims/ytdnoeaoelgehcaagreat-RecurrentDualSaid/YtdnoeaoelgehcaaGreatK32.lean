/-
  Texts of this claim, put together: MayP, PushE, BitsP.
-/
import Derived.Test.YtdnoeaoelgehcaaGreatK31
import Derived.Test.YtdnoeaoelgehcaaGreatK07
import Derived.Test.YtdnoeaoelgehcaaGreatK19
import Derived.Test.YtdnoeaoelgehcaaGreatK06
/-! Plain laws of sets that may fire: as the reference counts, and as the program does; Dhar's law: the unburnt vertices block, and each set that blocks is unburnt. -/
namespace Go.Proofs.YtdnoeaoelgehcaaGreat
open Go.RowKit

/-- How many single edges lead from a vertex out of a set, to the vertices below k. -/
def outTo (es : List E3) (S : List Int) (v : Int) : Nat → Int
  | 0 => 0
  | k + 1 => outTo es S v k + if (k : Int) ∈ S then 0 else btw es v k
/-- The reference's way through a set. -/
def mayFrom (es : List E3) (cs S : List Int) (n : Nat) : List Int → Int → Bool
  | [], sum => decide (0 < sum)
  | v :: r, sum => if cs.getD v.toNat 0 < outTo es S v n then false else mayFrom es cs S n r (sum + outTo es S v n)
theorem outTo_nil (S : List Int) (v : Int) : ∀ k, outTo [] S v k = 0
  | 0 => rfl
  | k + 1 => by rw [outTo, outTo_nil S v k, btw_nil]; split <;> rfl
theorem outTo_append {es fs : List E3} (h : (es ++ fs).Pairwise ltE) (hm : ∀ e ∈ es, 0 < e.2.2) (S : List Int) (v : Int) : ∀ k, outTo (es ++ fs) S v k = outTo es S v k + outTo fs S v k
  | 0 => rfl
  | k + 1 => by
    rw [outTo, outTo, outTo, outTo_append h hm S v k, btw_append h hm]
    split <;> omega
theorem outTo_one (e : E3) (he : e.1 ≤ e.2.1) (S : List Int) (v : Int) (hv : v ∈ S) : ∀ k, outTo [e] S v k = if (v = e.1 ∧ e.2.1 ∉ S ∧ 0 ≤ e.2.1 ∧ e.2.1 < k) ∨ (v = e.2.1 ∧ e.1 ∉ S ∧ 0 ≤ e.1 ∧ e.1 < k) then e.2.2 else 0
  | 0 => by rw [if_neg (by omega)]; rfl
  | k + 1 => by
    rw [outTo, outTo_one e he S v hv k, btw_cons, btw_nil]
    by_cases hk : (k : Int) ∈ S
    · rw [if_pos hk, Int.add_zero]
      have h1 : e.2.1 ∉ S → e.2.1 ≠ (k : Int) := fun h e => h (e ▸ hk)
      have h2 : e.1 ∉ S → e.1 ≠ (k : Int) := fun h e => h (e ▸ hk)
      by_cases hc : (v = e.1 ∧ e.2.1 ∉ S ∧ 0 ≤ e.2.1 ∧ e.2.1 < k) ∨ (v = e.2.1 ∧ e.1 ∉ S ∧ 0 ≤ e.1 ∧ e.1 < k)
      · rw [if_pos hc, if_pos (hc.imp (fun h => ⟨h.1, h.2.1, h.2.2.1, by omega⟩) (fun h => ⟨h.1, h.2.1, h.2.2.1, by omega⟩))]
      · rw [if_neg hc, if_neg]
        rintro (⟨c1, c2, c3, c4⟩ | ⟨c1, c2, c3, c4⟩)
        · exact hc (.inl ⟨c1, c2, c3, by have := h1 c2; omega⟩)
        · exact hc (.inr ⟨c1, c2, c3, by have := h2 c2; omega⟩)
    · rw [if_neg hk]
      have hvk : v ≠ (k : Int) := fun e => hk (e ▸ hv)
      by_cases hb : e.1 = min v k ∧ e.2.1 = max v k
      · rw [if_pos hb, if_neg (by omega), Int.zero_add, if_pos]
        by_cases hlt : v < k
        · refine .inl ⟨by omega, ?_, by omega, by omega⟩
          rw [show e.2.1 = (k : Int) from by omega]; exact hk
        · refine .inr ⟨by omega, ?_, by omega, by omega⟩
          rw [show e.1 = (k : Int) from by omega]; exact hk
      · rw [if_neg hb, Int.add_zero]
        by_cases hc : (v = e.1 ∧ e.2.1 ∉ S ∧ 0 ≤ e.2.1 ∧ e.2.1 < k) ∨ (v = e.2.1 ∧ e.1 ∉ S ∧ 0 ≤ e.1 ∧ e.1 < k)
        · rw [if_pos hc, if_pos (hc.imp (fun h => ⟨h.1, h.2.1, h.2.2.1, by omega⟩) (fun h => ⟨h.1, h.2.1, h.2.2.1, by omega⟩))]
        · rw [if_neg hc, if_neg]
          rintro (⟨c1, c2, c3, c4⟩ | ⟨c1, c2, c3, c4⟩)
          · exact hc (.inl ⟨c1, c2, c3, by omega⟩)
          · exact hc (.inr ⟨c1, c2, c3, by omega⟩)
theorem goesE_iff {S : List Int} {e : E3} {v : Int} (hv : v ∈ S) : goesE S e = some v ↔ (v = e.1 ∧ e.2.1 ∉ S) ∨ (v = e.2.1 ∧ e.1 ∉ S) := by
  unfold goesE
  by_cases h1 : e.1 ∈ S ∧ e.2.1 ∉ S
  · rw [if_pos h1]
    constructor
    · intro h; injection h with h; exact .inl ⟨h.symm, h1.2⟩
    · rintro (⟨rfl, _⟩ | ⟨rfl, h⟩)
      · rfl
      · exact absurd h1.1 h
  · rw [if_neg h1]
    by_cases h2 : e.2.1 ∈ S ∧ e.1 ∉ S
    · rw [if_pos h2]
      constructor
      · intro h; injection h with h; exact .inr ⟨h.symm, h2.2⟩
      · rintro (⟨rfl, h⟩ | ⟨rfl, _⟩)
        · exact absurd h2.1 h
        · rfl
    · rw [if_neg h2]
      constructor
      · intro h; cases h
      · rintro (⟨rfl, h⟩ | ⟨rfl, h⟩)
        · exact absurd ⟨hv, h⟩ h1
        · exact absurd ⟨hv, h⟩ h2
/-- What leaves a set at a vertex is what the vertex loses. -/
theorem outTo_lost {n : Nat} {es : List E3} (hok : ∀ e ∈ es, okE n e) (hs : es.Pairwise ltE) (S : List Int) (v : Int) (hv : v ∈ S) : outTo es S v n = lostE es S v := by
  induction es with
  | nil => rw [outTo_nil]; rfl
  | cons e es ih =>
    have h0 := hok e (by simp)
    unfold okE at h0
    have hap := outTo_append (es := [e]) (fs := es) (by simpa using hs) (fun x hx => by simp at hx; subst hx; omega) S v n
    rw [List.singleton_append] at hap
    rw [hap, lostE, ih (fun x hx => hok x (by simp [hx])) (List.pairwise_cons.1 hs).2, outTo_one e h0.2.1 S v hv]
    congr 1
    have hi := goesE_iff (S := S) (e := e) hv
    by_cases hg : goesE S e = some v
    · rw [if_pos hg, if_pos ((hi.1 hg).imp (fun h => ⟨h.1, h.2, by omega, by omega⟩) (fun h => ⟨h.1, h.2, by omega, by omega⟩))]
    · rw [if_neg hg, if_neg (fun h => hg (hi.2 (h.imp (fun h => ⟨h.1, h.2.1⟩) (fun h => ⟨h.1, h.2.1⟩))))]
theorem goesE_mem {S : List Int} {e : E3} {v : Int} (h : goesE S e = some v) : v ∈ S := by
  unfold goesE at h
  split at h
  · rename_i h1; injection h with h; exact h ▸ h1.1
  · split at h
    · rename_i h1; injection h with h; exact h ▸ h1.1
    · cases h
theorem lostE_pos {N : Int} {es : List E3} (hok : ∀ e ∈ es, okE N e) {S : List Int} {v : Int} : 0 < lostE es S v ↔ ∃ e ∈ es, goesE S e = some v := by
  induction es with
  | nil => simp [lostE]
  | cons e es ih =>
    have h0 := hok e (by simp)
    have ih := ih fun x hx => hok x (by simp [hx])
    have hb := lostE_bd (N := N) (es := es) (fun x hx => hok x (by simp [hx])) S v
    unfold okE at h0
    rw [lostE]
    by_cases hg : goesE S e = some v
    · rw [if_pos hg]
      exact ⟨fun _ => ⟨e, by simp, hg⟩, fun _ => by omega⟩
    · rw [if_neg hg, Int.zero_add, ih]
      constructor
      · rintro ⟨x, hx, h⟩; exact ⟨x, by simp [hx], h⟩
      · rintro ⟨x, hx, h⟩
        rcases List.mem_cons.1 hx with rfl | hx
        · exact absurd h hg
        · exact ⟨x, hx, h⟩
theorem leaves_iff {es : List E3} {S : List Int} : leavesE es S = true ↔ ∃ v ∈ S, ∃ e ∈ es, goesE S e = some v := by
  unfold leavesE
  rw [List.any_eq_true]
  constructor
  · rintro ⟨e, he, h⟩
    obtain ⟨v, hv⟩ := Option.isSome_iff_exists.1 h
    exact ⟨v, goesE_mem hv, e, he, hv⟩
  · rintro ⟨v, _, e, he, h⟩; exact ⟨e, he, by rw [h]; rfl⟩
theorem mayFrom_eq {n : Nat} {es : List E3} (hG : RightG n es) (cs S : List Int) : ∀ (r : List Int) (sum : Int), (∀ v ∈ r, v ∈ S) → 0 ≤ sum →
    mayFrom es cs S n r sum = (!(r.any fun v => !decide (lostE es S v ≤ cs.getD v.toNat 0)) && (decide (0 < sum) || r.any fun v => decide (0 < lostE es S v)))
  | [], sum, _, _ => by simp [mayFrom]
  | v :: r, sum, h, hs => by
    have hv := h v (by simp)
    have hb := lostE_bd hG.ok S v
    rw [mayFrom, outTo_lost hG.ok hG.sorted S v hv]
    by_cases hc : cs.getD v.toNat 0 < lostE es S v
    · rw [if_pos hc, List.any_cons]
      have : decide (lostE es S v ≤ cs.getD v.toNat 0) = false := decide_eq_false (by omega)
      rw [this]; rfl
    · rw [if_neg hc, mayFrom_eq hG cs S r _ (fun x hx => h x (by simp [hx])) (by omega), List.any_cons, List.any_cons]
      have h1 : decide (lostE es S v ≤ cs.getD v.toNat 0) = true := decide_eq_true (by omega)
      rw [h1]
      by_cases hp : 0 < lostE es S v
      · have h2 : decide (0 < sum + lostE es S v) = true := decide_eq_true (by omega)
        have h3 : decide (0 < lostE es S v) = true := decide_eq_true hp
        rw [h2, h3]; simp
      · have h2 : decide (0 < sum + lostE es S v) = decide (0 < sum) := by congr 1; simp; omega
        have h3 : decide (0 < lostE es S v) = false := decide_eq_false hp
        rw [h2, h3]; simp
/-- Both ways agree. -/
theorem may_leg {n : Nat} {es : List E3} (hG : RightG n es) (cs S : List Int) : mayFrom es cs S n S 0 = legB es cs S := by
  rw [mayFrom_eq hG cs S S 0 (fun _ h => h) (Int.le_refl _)]
  unfold legB
  rw [Bool.and_comm]
  congr 1
  rw [show decide ((0 : Int) < 0) = false from rfl, Bool.false_or, Bool.eq_iff_iff, List.any_eq_true, leaves_iff]
  constructor
  · rintro ⟨v, hv, h⟩; exact ⟨v, hv, (lostE_pos hG.ok).1 (by simpa using h)⟩
  · rintro ⟨v, hv, h⟩; exact ⟨v, hv, by simpa using (lostE_pos hG.ok).2 h⟩
theorem leg_nonempty {es : List E3} {cs S : List Int} (h : legB es cs S = true) : S ≠ [] := by
  rintro rfl
  unfold legB at h
  rw [Bool.and_eq_true, leaves_iff] at h
  obtain ⟨⟨v, hv, _⟩, _⟩ := h
  simp at hv

/-! Dhar's law. -/
/-- What is lost at a vertex of a set is how often it is joined with the others. -/
theorem outTo_joins {es : List E3} {S : List Int} {n : Nat} {v : Nat} : ∀ k, outTo es S v k = joinsN es v ((List.range k).filter fun u => !decide ((u : Int) ∈ S))
  | 0 => rfl
  | k + 1 => by
    rw [outTo, outTo_joins (n := n) k, List.range_succ, List.filter_append]
    by_cases h : (k : Int) ∈ S
    · simp [h]
    · simp [h, joinsN_snoc]
theorem filter_ok (n : Nat) (p : Nat → Bool) : LOk n ((List.range n).filter p) := ⟨List.Nodup.sublist List.filter_sublist List.nodup_range, fun u hu => by simpa using (List.mem_filter.1 hu).1⟩
theorem legB_iff {es : List E3} {cs S : List Int} : legB es cs S = true ↔ leavesE es S = true ∧ ∀ v ∈ S, lostE es S v ≤ cs.getD v.toNat 0 := by
  unfold legB
  rw [Bool.and_eq_true]
  refine and_congr_right fun _ => ?_
  rw [Bool.not_eq_true', List.any_eq_false]
  refine forall_congr' fun v => imp_congr_right fun _ => ?_
  simp
/-- Each set that blocks is unburnt. -/
theorem blocks_unburnt {n q : Nat} {es : List E3} (hG : RightG n es) (hq : q < n) {cs S : List Int} (hqS : (q : Int) ∉ S) (h : legB es cs S = true) : ∀ v : Nat, (v : Int) ∈ S → v ∉ burntL es cs n q := by
  obtain ⟨_, hle⟩ := legB_iff.1 h
  have hok : LOk n ((List.range n).filter fun u => !decide ((u : Int) ∈ S)) := filter_ok n _
  have hall := burns_same (es := es) (c := cs) (n := n) (l := [q]) (l' := (List.range n).filter fun u => !decide ((u : Int) ∈ S))
    (fun u hu => by simp at hu; subst hu; simp [hq, hqS]) (fun u hu => by
      rw [← Bool.not_eq_true, catL_true]
      rintro ⟨h1, h2⟩
      have huS : (u : Int) ∈ S := by
        refine Classical.byContradiction fun hc => h1 ?_
        simp [hu, hc]
      have h3 := hle _ huS
      rw [← outTo_lost hG.ok hG.sorted S _ huS, outTo_joins (n := n)] at h3
      simp only [Int.toNat_natCast] at h3
      omega) hok (fun a b => (btw_bd hG.ok a b).1) n ⟨by simp, by simpa using hq⟩
  intro v hv hb
  have := hall v hb
  simp [hv] at this
/-- The unburnt vertices, if there are any, block. -/
theorem unburnt_blocks {n q : Nat} {es : List E3} (hG : RightG n es) (hC : AllConn n es) (hq : q < n) {cs : List Int} (hne : restL n (burntL es cs n q) ≠ []) : legB es cs ((restL n (burntL es cs n q)).map fun u : Nat => (u : Int)) = true ∧ (q : Int) ∉ (restL n (burntL es cs n q)).map fun u : Nat => (u : Int) := by
  have hl : LOk n (burntL es cs n q) := burnL_ok n _ ⟨by simp, by simpa using hq⟩
  have hqb : q ∈ burntL es cs n q := (burnL_pre n [q]).subset (by simp)
  have hdone := burnL_done (es := es) (c := cs) (n := n) (k := n) (l := [q]) ⟨by simp, by simpa using hq⟩ (by simp)
  obtain ⟨b, hb⟩ : ∃ b, burntL es cs n q = b := ⟨_, rfl⟩
  change ∀ u, u < n → catL es cs (burntL es cs n q) u = false at hdone
  rw [hb] at hl hqb hdone hne ⊢
  obtain ⟨S, hS⟩ : ∃ S, ((restL n b).map fun u : Nat => (u : Int)) = S := ⟨_, rfl⟩
  have hmem : ∀ u : Nat, (u : Int) ∈ S ↔ u < n ∧ u ∉ b := by
    intro u
    rw [← hS, ← mem_rest]
    simp only [List.mem_map]
    constructor
    · rintro ⟨x, hx, e⟩; obtain rfl : x = u := by omega
      exact hx
    · intro h; exact ⟨u, h, rfl⟩
  have hnat : ∀ v ∈ S, ∃ u : Nat, v = u := by
    intro v hv
    rw [← hS, List.mem_map] at hv
    obtain ⟨u, _, rfl⟩ := hv
    exact ⟨u, rfl⟩
  rw [hS]
  refine ⟨legB_iff.2 ⟨?_, ?_⟩, ?_⟩
  · -- an edge leads out
    rw [leaves_iff]
    obtain ⟨u0, hu0⟩ := List.exists_mem_of_ne_nil _ hne
    have hu1 := mem_rest.1 hu0
    have hconn : Conn es q u0 := (hC q hq).symm.trans (hC u0 hu1.1)
    have key : ∀ x, Conn es q x → x ∉ b → ∃ y z, y ∈ b ∧ z ∉ b ∧ adjE es y z := by
      intro x hx
      induction hx with
      | refl => intro h; exact absurd hqb h
      | @step y z h1 h2 ih =>
        intro hz
        by_cases hy : y ∈ b
        · exact ⟨y, z, hy, hz, h2⟩
        · exact ih hy
    obtain ⟨y, z, hy, hz, e, he, hyz⟩ := key u0 hconn hu1.2
    have hok := hG.ok e he
    unfold okE at hok
    have hzn : z < n := by omega
    have hzS : (z : Int) ∈ S := (hmem z).2 ⟨hzn, hz⟩
    have hyS : (y : Int) ∉ S := fun h => ((hmem y).1 h).2 hy
    refine ⟨z, hzS, e, he, (goesE_iff hzS).2 ?_⟩
    rcases hyz with ⟨h1, h2⟩ | ⟨h1, h2⟩
    · exact .inr ⟨h2.symm, by rw [h1]; exact hyS⟩
    · exact .inl ⟨h1.symm, by rw [h2]; exact hyS⟩
  · intro v hv
    obtain ⟨u, rfl⟩ := hnat v hv
    have hu := (hmem u).1 hv
    have hc := hdone u hu.1
    rw [← outTo_lost hG.ok hG.sorted S _ hv, outTo_joins (n := n)]
    simp only [Int.toNat_natCast]
    rw [← Bool.not_eq_true, catL_true] at hc
    have hle : ¬ cs.getD u 0 < joinsN es u b := fun h => hc ⟨hu.2, h⟩
    have hmono := joins_mono (es := es) (fun a b => (btw_bd hG.ok a b).1) (filter_ok n fun u => !decide ((u : Int) ∈ S)) hl (fun x hx => by
      have h1 := List.mem_filter.1 hx
      have h2 : x < n := by simpa using h1.1
      refine Classical.byContradiction fun h3 => ?_
      have := (hmem x).2 ⟨h2, h3⟩
      simp [this] at h1) u
    omega
  · intro h; exact ((hmem q).1 h).2 hqb
end Go.Proofs.YtdnoeaoelgehcaaGreat

/-! What Push returns, as a relation, with its errors. -/
namespace Go.Proofs.YtdnoeaoelgehcaaGreat
open Go.RowKit

/-- How far the pushing has come. -/
def PState (es : List E3) (n q : Nat) (r : Option (List Int × List Int)) (cs ss : List Int) (m : Nat) : Prop :=
  cs.length = n ∧ ss.length = n ∧ ((m ≤ 1048576 ∧ PushR es n q cs ss m r ∧ Bd (1048576 + 14400 * m) cs ∧ Bd m ss) ∨ (1048576 < m ∧ r = none))
theorem PState.next {es : List E3} {n q : Nat} {r : Option (List Int × List Int)} {cs ss : List Int} {m : Nat} (h : PState es n q r cs ss m) (hn : n ≤ 12) {N : Int} (hok : ∀ e ∈ es, okE N e) (hm : m ≤ 1048576) (hne : leftC es n q cs ≠ []) :
    PState es n q r (stepC es n q cs) (bumpL ss (leftC es n q cs)) (m + (leftC es n q cs).length) := by
  obtain ⟨h1, h2, h3⟩ := h
  refine ⟨by rw [stepC_length]; exact h1, by rw [bumpL_length]; exact h2, ?_⟩
  rcases h3 with ⟨_, h4, h5, h6⟩ | ⟨h4, _⟩
  · have hp := List.length_pos_iff.2 hne
    by_cases hov : m + (leftC es n q cs).length ≤ 1048576
    · exact .inl ⟨hov, h4.step_inv hne hov, (stepC_bd hok hn (by omega) h5).mono (by push_cast; omega), (bumpL_bd (by omega) h6 _).mono (by push_cast; omega)⟩
    · exact .inr ⟨by omega, h4.over_inv hne (by omega)⟩
  · omega

/-- What Push returns. -/
def PushE (n : Int) (es : List E3) (q : Int) (cs ds ss : List Int) (e : Int) : Prop :=
  (burnErr n es q cs ≠ 0 ∧ ds = [] ∧ ss = [] ∧ e = burnErr n es q cs) ∨
  (burnErr n es q cs = 0 ∧ ∃ r, PushR es n.toNat q.toNat cs (List.replicate n.toNat 0) 0 r ∧ ((r = some (ds, ss) ∧ e = 0) ∨ (r = none ∧ ds = [] ∧ ss = [] ∧ e = 12)))
theorem PushE.total (n : Int) (es : List E3) (q : Int) (cs : List Int) : ∃ ds ss e, PushE n es q cs ds ss e := by
  by_cases h : burnErr n es q cs = 0
  · obtain ⟨r, hr⟩ := PushR.total es n.toNat q.toNat 1048577 cs (List.replicate n.toNat 0) 0 (by omega)
    cases r with
    | none => exact ⟨[], [], 12, .inr ⟨h, _, hr, .inr ⟨rfl, rfl, rfl, rfl⟩⟩⟩
    | some p => exact ⟨p.1, p.2, 0, .inr ⟨h, _, hr, .inl ⟨rfl, rfl⟩⟩⟩
  · exact ⟨[], [], _, .inl ⟨h, rfl, rfl, rfl⟩⟩
end Go.Proofs.YtdnoeaoelgehcaaGreat

/-! Plain laws of pushing right configurations: a push comes to an end; adding chips first or later leads to the same. No program is in sight. -/
namespace Go.Proofs.YtdnoeaoelgehcaaGreat

/-- What is given at the start has no debts, so what is pushed has none. -/
theorem PushR.nonneg {es : List E3} {n q : Nat} (he : ∀ a b, 0 ≤ btw es a b) (hq : q < n) {c s : List Int} {m : Nat} {r} (h : PushR es n q c s m r) : c.length = n → (∀ x, x < n → x ≠ q → 0 ≤ c.getD x 0) →
    ∀ d t, r = some (d, t) → ∀ x, x < n → x ≠ q → 0 ≤ d.getD x 0 := by
  induction h with
  | done h1 => intro hc h0 d t e; injection e with e; injection e with e1 e2; subst e1 e2; exact h0
  | over _ _ => intro _ _ d t e; cases e
  | @step c s m r h1 h2 h3 ih => intro hc h0 d t e; exact ih (by rw [stepC_length]; exact hc) (step_nonneg he hq hc h0) d t e
theorem getD_out {xs : List Int} {k : Nat} (h : xs.length ≤ k) : xs.getD k 0 = 0 := by
  rw [List.getD_eq_getElem?_getD, List.getElem?_eq_none h]; rfl
/-- A script moves no chips into the graph. -/
theorem ByS.sum_le {es : List E3} {n q : Nat} {c d s : List Int} (he : ∀ a b, 0 ≤ btw es a b) (hq : q < n) (h : ByS es n q c d s) (hcq : c.getD q 0 = 0) (hdq : d.getD q 0 = 0) (hsq : s.getD q 0 = 0) (hs : ∀ x, 0 ≤ s.getD x 0) : sumTo (fun x => d.getD x 0) n ≤ sumTo (fun x => c.getD x 0) n := by
  have htt : ∀ a b, 0 ≤ tt es a b := fun a b => by unfold tt; split; (· omega); exact he _ _
  have h0 := sumTo_anti (g := fun x w => tt es x w * (s.getD w 0 - s.getD x 0)) (fun x w => by rw [tt_comm es w x, ← Int.mul_neg]; congr 1; omega) n
  have h1 : sumTo (fun x => d.getD x 0) n ≤ sumTo (fun x => c.getD x 0 + sumTo (fun w => tt es x w * (s.getD w 0 - s.getD x 0)) n) n := by
    refine sumTo_le fun x hx => ?_
    by_cases hxq : x = q
    · subst hxq
      have : 0 ≤ sumTo (fun w => tt es x w * (s.getD w 0 - s.getD x 0)) n := sumTo_nonneg fun w _ => Int.mul_nonneg (htt _ _) (by have := hs w; omega)
      omega
    · rw [h x hx hxq]; exact Int.le_refl _
  rw [sumTo_add, h0] at h1
  omega

/-- An error of a graph and a sink there is none where one configuration has none. -/
theorem burn_zero_of {n : Int} {es : List E3} {q : Int} {a cs : List Int} (h : burnErr n es q a = 0) (hl : (cs.length : Int) = n) (hb : ∀ x ∈ cs, -1048576 ≤ x ∧ x ≤ 1048576) (h0 : ∀ x, 0 ≤ cs.getD x 0) (hq : cs.getD q.toNat 0 = 0) : burnErr n es q cs = 0 := by
  have hc := (burn_zero h).1
  have hr : rootErr n es q = 0 := by
    rcases conf_cases n es q a with ⟨h1, h2⟩ | ⟨h1, _⟩ | ⟨h1, _⟩
    · exact absurd (h2 ▸ hc) h1
    · exact h1
    · exact h1
  obtain ⟨hG, _⟩ := conf_zero hc
  have hd : divErr cs n = 0 := by
    unfold divErr
    have hlo := hG.lo
    have hhi := hG.hi
    rw [if_neg (by omega), if_neg (by omega), if_pos (List.all_eq_true.2 fun x hx => chipB_true.2 (hb x hx))]
  have hdebt : debtTo cs q cs.length = false := by
    unfold debtTo
    rw [List.any_eq_false]
    intro v _
    have := h0 v
    rw [Bool.and_eq_true, decide_eq_true_eq, decide_eq_true_eq]
    omega
  have hcf : confErr n es q cs = 0 := by
    unfold confErr
    rw [if_neg (by omega), if_neg (by omega), hdebt]; rfl
  unfold burnErr
  rw [if_neg (by omega), if_neg (by omega)]

/-- Pushing a right configuration of few chips. -/
theorem push_right {n q : Nat} {es : List E3} {cs : List Int} {T : Int} (hz : burnErr n es q cs = 0) (h0 : ∀ x, 0 ≤ cs.getD x 0) (hT : sumTo (fun x => cs.getD x 0) n ≤ T) (hT0 : 0 ≤ T) (hbig : (n : Int) * (n * T) ≤ 1048576) :
    ∃ d t, PushE n es q cs d t 0 ∧ d.length = n ∧ t.length = n ∧ leftC es n q d = [] ∧ d.getD q 0 = 0 ∧ t.getD q 0 = 0 ∧ (∀ x, 0 ≤ t.getD x 0) ∧ (∀ x, 0 ≤ d.getD x 0) ∧ ByS es n q cs d t ∧ sumTo (fun x => d.getD x 0) n ≤ sumTo (fun x => cs.getD x 0) n ∧ (leftC es n q cs = [] → d = cs ∧ t = List.replicate n 0) := by
  obtain ⟨hc, hcq⟩ := burn_zero hz
  obtain ⟨hG, hC, _, hqn, hlen, _, _⟩ := conf_zero hc
  simp only [Int.toNat_natCast] at hcq hC
  have hq : q < n := by omega
  have hl : cs.length = n := by omega
  have he : ∀ a b, 0 ≤ btw es a b := fun a b => (btw_bd hG.ok a b).1
  obtain ⟨r, hr⟩ := PushR.total es n q 1048577 cs (List.replicate n 0) 0 (by omega)
  have hz0 : ∀ x, (List.replicate n (0 : Int)).getD x 0 = 0 := fun x => by
    rw [List.getD_eq_getElem?_getD, List.getElem?_replicate]; split <;> rfl
  have hB : ByS es n q cs cs (List.replicate n 0) := fun x hx _ => by
    rw [sumTo_zero fun w _ => ?_, Int.add_zero]
    rw [hz0, hz0]; simp
  have hne := hr.ends hG hC hq h0 hT hT0 hbig hl (by simp) (hz0 q) (fun x _ _ => h0 x) hB (by rw [sumTo_zero fun x _ => hz0 x]; rfl)
  cases r with
  | none => exact absurd rfl hne
  | some p =>
    obtain ⟨d, t⟩ := p
    obtain ⟨g1, g2, g3, g4, g5, g6, g7⟩ := hr.goal hq hl (by simp) hcq (hz0 q) (fun x => by rw [hz0]; exact Int.le_refl _) hB d t rfl
    have hpos := hr.nonneg he hq hl (fun x _ _ => h0 x) d t rfl
    refine ⟨d, t, .inr ⟨hz, _, by simpa using hr, .inl ⟨rfl, rfl⟩⟩, g2, g3, g1, g4, g5, g6, fun x => ?_, g7, g7.sum_le he hq hcq g4 g5 g6, fun hL => ?_⟩
    · by_cases hx : x < n
      · by_cases hxq : x = q
        · subst hxq; omega
        · exact hpos x hx hxq
      · rw [getD_out (by omega)]; exact Int.le_refl _
    · have := hr.done_inv hL
      injection this with this; injection this with e1 e2
      exact ⟨e1, e2⟩

/-- The sum of two divisors. -/
def sumK (xs ys : List Int) (k : Nat) : List Int := (List.range xs.length).map fun v => xs.getD v 0 + if v < k then ys.getD v 0 else 0
def sumL (xs ys : List Int) : List Int := sumK xs ys xs.length
theorem sumK_length (xs ys : List Int) (k : Nat) : (sumK xs ys k).length = xs.length := by simp [sumK]
theorem sumK_at (xs ys : List Int) (k : Nat) {v : Nat} (h : v < xs.length) : (sumK xs ys k)[v]? = some (xs.getD v 0 + if v < k then ys.getD v 0 else 0) := by
  unfold sumK; rw [List.getElem?_map, List.getElem?_range h]; rfl
theorem sumK_zero (xs ys : List Int) : sumK xs ys 0 = xs := by
  apply List.ext_getElem?
  intro v
  by_cases h : v < xs.length
  · rw [sumK_at _ _ _ h, if_neg (by omega), Int.add_zero, List.getD_eq_getElem?_getD, List.getElem?_eq_getElem h]; rfl
  · rw [List.getElem?_eq_none (by rw [sumK_length]; omega), List.getElem?_eq_none (by omega)]
theorem sumK_succ (xs ys : List Int) {k : Nat} (h : k < xs.length) : sumK xs ys (k + 1) = (sumK xs ys k).set k (xs.getD k 0 + ys.getD k 0) := by
  apply List.ext_getElem?
  intro v
  rw [List.getElem?_set]
  by_cases hv : v < xs.length
  · by_cases e : k = v
    · subst e; rw [if_pos rfl, sumK_length, if_pos h, sumK_at _ _ _ h, if_pos (by omega)]
    · rw [if_neg e, sumK_at _ _ _ hv, sumK_at _ _ _ hv]
      by_cases hvk : v < k
      · rw [if_pos hvk, if_pos (by omega)]
      · rw [if_neg hvk, if_neg (by omega)]
  · rw [if_neg (by omega), List.getElem?_eq_none (by rw [sumK_length]; omega), List.getElem?_eq_none (by rw [sumK_length]; omega)]
theorem sumL_length (xs ys : List Int) : (sumL xs ys).length = xs.length := sumK_length _ _ _
theorem sumL_getD {xs ys : List Int} (h : xs.length = ys.length) (v : Nat) : (sumL xs ys).getD v 0 = xs.getD v 0 + ys.getD v 0 := by
  by_cases hv : v < xs.length
  · unfold sumL
    rw [List.getD_eq_getElem?_getD, sumK_at _ _ _ hv, if_pos hv]; rfl
  · rw [getD_out (by rw [sumL_length]; omega), getD_out (by omega), getD_out (by omega)]; rfl
theorem mem_le_sum {cs : List Int} {n : Nat} (hl : cs.length = n) (h0 : ∀ x, 0 ≤ cs.getD x 0) : ∀ x ∈ cs, 0 ≤ x ∧ x ≤ sumTo (fun x => cs.getD x 0) n := by
  intro x hx
  obtain ⟨i, hi, rfl⟩ := List.getElem_of_mem hx
  have e : cs.getD i 0 = cs[i] := by rw [List.getD_eq_getElem?_getD, List.getElem?_eq_getElem hi]; rfl
  have := sumTo_one (f := fun x => cs.getD x 0) (k := n) (fun j _ => h0 j) i (by omega)
  have h1 := h0 i
  rw [← e]
  exact ⟨h1, this⟩

/-- Adding first or later leads to the same. -/
theorem adds_same {n q : Nat} {es : List E3} {a b : List Int} (ha : burnErr n es q a = 0) (hb : burnErr n es q b = 0) (hn : n ≤ 6) (ha1 : ∀ x ∈ a, x ≤ 60) (hb1 : ∀ x ∈ b, x ≤ 60) :
    ∃ d s c t u, PushE n es q (sumL a b) d s 0 ∧ PushE n es q a c t 0 ∧ c.length = n ∧ PushE n es q (sumL c b) d u 0 ∧ d.length = n ∧ Bd 1048576 c := by
  have full : ∀ {c : List Int}, burnErr n es q c = 0 → (∀ x ∈ c, x ≤ 60) → c.length = n ∧ c.getD q 0 = 0 ∧ (∀ x, 0 ≤ c.getD x 0) ∧ sumTo (fun x => c.getD x 0) n ≤ 360 := by
    intro c h h60
    obtain ⟨hc, hcq⟩ := burn_zero h
    obtain ⟨_, _, _, _, hlen, _, hpos⟩ := conf_zero hc
    simp only [Int.toNat_natCast] at hcq
    refine ⟨by omega, hcq, fun x => ?_, ?_⟩
    · by_cases hx : x < n
      · by_cases hxq : x = q
        · subst hxq; omega
        · exact hpos x (by omega) (by omega)
      · rw [getD_out (by omega)]; exact Int.le_refl _
    · have : sumTo (fun x => c.getD x 0) n ≤ sumTo (fun _ => 60) n := by
        refine sumTo_le fun x hx => ?_
        have hxc : x < c.length := by omega
        rw [List.getD_eq_getElem?_getD, List.getElem?_eq_getElem hxc]
        exact h60 _ (List.getElem_mem hxc)
      rw [sumTo_const] at this
      omega
  obtain ⟨la, qa, pa, ta⟩ := full ha ha1
  obtain ⟨lb, qb, pb, tb⟩ := full hb hb1
  obtain ⟨hG, _, _, hqn, _⟩ := conf_zero (burn_zero ha).1
  have hq : q < n := by omega
  have he : ∀ a b, 0 ≤ btw es a b := fun a b => (btw_bd hG.ok a b).1
  have hbig : (n : Int) * (n * 720) ≤ 1048576 := by
    have h1 : (n : Int) * 720 ≤ 4320 := by omega
    have h2 : (n : Int) * (n * 720) ≤ (n : Int) * 4320 := Int.mul_le_mul_of_nonneg_left h1 (by omega)
    omega
  -- the sum of a right one and b
  have plus : ∀ {c : List Int}, c.length = n → c.getD q 0 = 0 → (∀ x, 0 ≤ c.getD x 0) → sumTo (fun x => c.getD x 0) n ≤ 360 → burnErr n es q (sumL c b) = 0 ∧ (∀ x, 0 ≤ (sumL c b).getD x 0) ∧ sumTo (fun x => (sumL c b).getD x 0) n ≤ 720 := by
    intro c lc qc pc tc
    have hg := sumL_getD (xs := c) (ys := b) (by omega)
    have hp : ∀ x, 0 ≤ (sumL c b).getD x 0 := fun x => by rw [hg]; have := pc x; have := pb x; omega
    have ht : sumTo (fun x => (sumL c b).getD x 0) n ≤ 720 := by
      rw [sumTo_congr (g := fun x => c.getD x 0 + b.getD x 0) fun x _ => hg x, sumTo_add]; omega
    have hm := mem_le_sum (cs := sumL c b) (n := n) (by rw [sumL_length]; exact lc) hp
    refine ⟨burn_zero_of ha (by rw [sumL_length]; omega) (fun x hx => by have := hm x hx; omega) hp ?_, hp, ht⟩
    simp only [Int.toNat_natCast]
    rw [hg, qc, qb]; rfl
  obtain ⟨z1, p1, t1⟩ := plus la qa pa ta
  obtain ⟨d, s, hd, ld, ls, Ld, qd, qs, ps, pd, Bd', _⟩ := push_right z1 p1 t1 (by omega) hbig
  obtain ⟨c, t, hc, lc, lt, Lc, qc, qt, pt, pc, Bc, sc, _⟩ := push_right ha pa (T := 720) (by omega) (by omega) hbig
  obtain ⟨z2, p2, t2⟩ := plus lc qc pc (by omega)
  obtain ⟨d2, u, hd2, ld2, lu, Ld2, qd2, qu, pu, pd2, Bd2, _⟩ := push_right z2 p2 t2 (by omega) hbig
  have hsame : d = d2 := by
    refine super_unique he hq (s := fun x => s.getD x 0 - t.getD x 0 - u.getD x 0) (by omega) ld2 ld qd2 qd (fun x _ _ => pd2 x) (fun x _ _ => pd x) Ld2 Ld fun x hx hxq => ?_
    have e1 := Bd' x hx hxq
    have e2 := Bc x hx hxq
    have e3 := Bd2 x hx hxq
    rw [sumL_getD (by omega)] at e1 e3
    have key : sumTo (fun w => tt es x w * (s.getD w 0 - t.getD w 0 - u.getD w 0 - (s.getD x 0 - t.getD x 0 - u.getD x 0))) n + (sumTo (fun w => tt es x w * (t.getD w 0 - t.getD x 0)) n + sumTo (fun w => tt es x w * (u.getD w 0 - u.getD x 0)) n) = sumTo (fun w => tt es x w * (s.getD w 0 - s.getD x 0)) n := by
      rw [← sumTo_add, ← sumTo_add]
      refine sumTo_congr fun w _ => ?_
      rw [← Int.mul_add, ← Int.mul_add]
      congr 1
      omega
    omega
  subst hsame
  refine ⟨d, s, c, t, u, hd, hc, lc, hd2, ld, fun x hx => ?_⟩
  have := mem_le_sum lc pc x hx
  omega
end Go.Proofs.YtdnoeaoelgehcaaGreat

/-! Plain laws of sets as binary numbers. No program is in sight. -/
namespace Go.Proofs.YtdnoeaoelgehcaaGreat

/-- The numbers below k whose binary digits are in a number. -/
def bitsL (k D : Nat) : List Nat := (List.range k).filter fun i => decide (D / 2 ^ i % 2 = 1)
theorem bitsL_yes {k D : Nat} (h : D / 2 ^ k % 2 = 1) : bitsL (k + 1) D = bitsL k D ++ [k] := by simp [bitsL, List.range_succ, h]
theorem bitsL_no {k D : Nat} (h : ¬ D / 2 ^ k % 2 = 1) : bitsL (k + 1) D = bitsL k D := by simp [bitsL, List.range_succ, h]
theorem bitsL_length (k D : Nat) : (bitsL k D).length ≤ k := Nat.le_trans (List.length_filter_le _ _) (by simp)
theorem bits_lt {k D : Nat} : ∀ v ∈ bitsL k D, v < k := fun v hv => by
  have := (List.mem_filter.1 hv).1
  simpa using this
/-! Sets as numbers. -/
theorem bits_all (p : Nat → Bool) : ∀ n, ∃ D, D < 2 ^ n ∧ bitsL n D = (List.range n).filter p
  | 0 => ⟨0, by simp, rfl⟩
  | n + 1 => by
    obtain ⟨D, hD, hb⟩ := bits_all p n
    have key : ∀ E : Nat, (∀ i, i < n → E.testBit i = D.testBit i) → bitsL n E = bitsL n D := by
      intro E hE
      unfold bitsL
      refine List.filter_congr fun i hi => ?_
      have := hE i (by simpa using hi)
      rwa [Nat.testBit_eq_decide_div_mod_eq, Nat.testBit_eq_decide_div_mod_eq] at this
    by_cases hp : p n = true
    · refine ⟨2 ^ n + D, by rw [Nat.pow_succ]; omega, ?_⟩
      have h1 : (2 ^ n + D) / 2 ^ n % 2 = 1 := by
        rw [Nat.add_div_left _ (Nat.two_pow_pos n), Nat.div_eq_of_lt hD]
      rw [bitsL_yes h1, key _ (fun i hi => Nat.testBit_two_pow_add_gt hi D), hb, List.range_succ, List.filter_append]
      simp [hp]
    · refine ⟨D, by rw [Nat.pow_succ]; omega, ?_⟩
      have h1 : ¬ D / 2 ^ n % 2 = 1 := by rw [Nat.div_eq_of_lt hD]; decide
      rw [bitsL_no h1, hb, List.range_succ, List.filter_append]
      simp [hp]
theorem mem_bits {k D v : Nat} : v ∈ bitsL k D ↔ v < k ∧ D.testBit v = true := by
  unfold bitsL
  rw [List.mem_filter, List.mem_range, Nat.testBit_eq_decide_div_mod_eq]
theorem bits_inj {k D D' : Nat} (h1 : D < 2 ^ k) (h2 : D' < 2 ^ k) (h : bitsL k D = bitsL k D') : D = D' := by
  apply Nat.eq_of_testBit_eq
  intro i
  rcases Nat.lt_or_ge i k with hi | hi
  · have e : (i ∈ bitsL k D) ↔ (i ∈ bitsL k D') := by rw [h]
    rw [mem_bits, mem_bits] at e
    rw [Bool.eq_iff_iff]
    exact ⟨fun x => (e.1 ⟨hi, x⟩).2, fun x => (e.2 ⟨hi, x⟩).2⟩
  · have hp : 2 ^ k ≤ 2 ^ i := Nat.pow_le_pow_right (by omega) hi
    rw [Nat.testBit_lt_two_pow (by omega), Nat.testBit_lt_two_pow (by omega)]
theorem bits_asc' (k D : Nat) : (bitsL k D).Pairwise (· < ·) := List.Pairwise.sublist List.filter_sublist List.pairwise_lt_range
/-- Each ascending list of numbers is a set with a number. -/
theorem bits_of {k : Nat} {x : List Nat} (h : x.Pairwise (· < ·)) (hl : ∀ v ∈ x, v < k) : ∃ D, D < 2 ^ k ∧ bitsL k D = x := by
  obtain ⟨D, hD, hb⟩ := bits_all (fun v => decide (v ∈ x)) k
  refine ⟨D, hD, ?_⟩
  rw [hb]
  refine List.Perm.eq_of_pairwise (le := (· < ·)) (fun a b _ _ h1 h2 => by omega) (List.Pairwise.sublist List.filter_sublist List.pairwise_lt_range) h ?_
  refine (List.perm_ext_iff_of_nodup (List.Nodup.sublist List.filter_sublist List.nodup_range) (h.imp fun h => by omega)).2 fun v => ?_
  rw [List.mem_filter, List.mem_range, decide_eq_true_eq]
  exact ⟨fun h => h.2, fun h => ⟨hl v h, h⟩⟩
end Go.Proofs.YtdnoeaoelgehcaaGreat

