/-
  Texts of this claim, put together: RecF, RecurP, RMin24, Pairs, FewS, PairsW, Ear30.
-/
import Derived.Test.YtghigdcpinengaaGreatK41
import Derived.Test.YtghigdcpinengaaGreatK39
import Derived.Test.YtghigdcpinengaaGreatK43
import Derived.Test.YtghigdcpinengaaGreatK42
import Derived.Test.YtghigdcpinengaaGreatK38
import Derived.Test.YtghigdcpinengaaGreatK25
import Derived.Test.YtghigdcpinengaaGreatK29
import Derived.Test.YtghigdcpinengaaGreatK37
import Derived.Test.YtghigdcpinengaaGreatK22
import Derived.Test.YtghigdcpinengaaGreatK05
/-! treebijection.Recurrent; superstable.All with its errors. -/
namespace Go.Proofs.YtghigdcpinengaaGreat
open Go.RowKit

def recFE (n : Int) (es : List E3) (q : Int) (xs : List Int) : List Int × Int := if grownErr n es q xs = 0 then (dulL n.toNat es (confN (endsL es) n.toNat q.toNat (xs.map Int.toNat)) q.toNat, 0) else ([], grownErr n es q xs)

set_option maxRecDepth 100000 in
set_option maxHeartbeats 4000000 in
theorem recur30_any (n q : Int) (A : Option Addr) (c : Nat) (es : List E3) (hlen : es.length ≤ 10000) (hm0 : checkG n es = 0 → (endsL es).length ≤ 60) (B : Option Addr) (d : Nat) (xs : List Int) (hl : xs.length ≤ 1048576) (w : World) (h : Reads w w.heap.size 3 A es.length (edgeCells es)) (h' : Reads w w.heap.size 1 B xs.length (ints xs)) :
    Calls Tryz.prog 22 #[.agg #[.int .i64 n, .slice A es.length c], .int .i64 q, .slice B xs.length d] w fun e w' => ∃ A' c', e = .returned (.tuple #[.slice A' (recFE n es q xs).1.length c', .int .i64 (recFE n es q xs).2]) ∧ OwnI w' w.heap.size A' c' (recFE n es q xs).1 ∧ Below w.heap.size w w' := by
  have g0 := Blk.new w 24 #[.int .i64 n, .slice A es.length c]
  have hB0 : Below w.heap.size w (w.alloc (.cells #[.int .i64 n, .slice A es.length c] 24)) := (Below.refl _ _).alloc (Nat.le_refl _) _
  have c0 := g0.cell 0
  have c1 := g0.cell 1
  have CO := Lib.hid (fun (W : World) (hB : Below w.heap.size w W) => config30_any n q A c es hlen hm0 B d xs hl W ((h.below hB).more hB.size) ((h'.below hB).more hB.size))
  by_cases hz : grownErr n es q xs = 0
  · have hCE : confFE n es q xs = (confN (endsL es) n.toNat q.toNat (xs.map Int.toNat), 0) := by unfold confFE; rw [if_pos hz]
    rw [hCE] at CO
    have hE : recFE n es q xs = (dulL n.toNat es (confN (endsL es) n.toNat q.toNat (xs.map Int.toNat)) q.toNat, 0) := by unfold recFE; rw [if_pos hz]
    rw [hE]
    dsimp only at CO ⊢
    obtain ⟨m, p, t, rfl, rfl, rfl, hp, hm12, hR, hte⟩ := grown_nat hz
    rw [nI_toNat] at CO ⊢
    simp only [Int.toNat_natCast] at CO ⊢
    have hm := hm0 (join_zero (tree_join hte)).1
    obtain ⟨hcz, hst⟩ := conf_cfg (tree_join hte) hR hp (by omega)
    have hb := (cfg_zero hcz).1
    have hcl : (confN (endsL es) m p t).length = m := (conf_facts hR.hT.bd hp t).1
    obtain ⟨C, hC⟩ : ∃ C, confN (endsL es) m p t = C := ⟨_, rfl⟩
    rw [hC] at CO hb hst hcl ⊢
    have DU := Lib.hid (fun (B : Option Addr) (d : Nat) (W : World) (hB : Below w.heap.size w W) (h2 : Reads W W.heap.size 1 B C.length (ints C)) => sdual_ok m A c es hlen p B d C hb hst W ((h.below hB).more hB.size) h2)
    rw [dulL_length]
    clear hE hCE hz h h' hm hR hte hl hcz hb hst hC hcl
    go_enter Tryz.func22, Tryz.ntmps22
    go_wp2_with fail
    refine (CO.out _ hB0).mono ?_
    rintro e w1 ⟨A1, c1', rfl, o1, hb1⟩
    have hB1 := hB0.trans (hb1.mono hB0.size)
    have g1 := g0.next hb1
    have k0 := g1.cell 0
    have k1 := g1.cell 1
    clear c0 c1
    go_wp2_with fail
    refine (DU.out _ _ _ hB1 o1.reads).mono ?_
    rintro e w2 ⟨A2, c2, rfl, o2, hb2⟩
    have hB2 := hB1.trans (hb2.mono hB1.size)
    have o2 := o2.mono hB1.size
    go_wp2
    go_ret2
    exact ⟨_, _, rfl, o2, hB2⟩
  · have hCE : confFE n es q xs = ([], grownErr n es q xs) := by unfold confFE; rw [if_neg hz]
    have hE : recFE n es q xs = ([], grownErr n es q xs) := by unfold recFE; rw [if_neg hz]
    rw [hCE] at CO
    rw [hE]
    dsimp only at CO ⊢
    obtain ⟨z, hzz⟩ : ∃ z, grownErr n es q xs = z := ⟨_, rfl⟩
    rw [hzz] at CO hz ⊢
    have hzb : (z != 0) = true := by simpa using hz
    clear hE hCE hzz hz h h' hm0
    go_enter Tryz.func22, Tryz.ntmps22
    go_wp2_with fail
    refine (CO.out _ hB0).mono ?_
    rintro e w1 ⟨A1, c1', rfl, o1, hb1⟩
    have hB1 := hB0.trans (hb1.mono hB0.size)
    go_wp2
    go_ret2
    exact ⟨_, _, rfl, OwnI.nil_ _ _, hB1⟩

theorem root_natF {n : Int} {es : List E3} {q : Int} (h : rootErr n es q = 0) : ∃ m p : Nat, n = m ∧ q = p ∧ p < m ∧ RightG m es ∧ AllConn m es ∧ checkG n es = 0 ∧ joinErr n es = 0 := by
  rcases root_cases n es q with ⟨a, b⟩ | ⟨_, _, b⟩ | ⟨_, _, _, b⟩ | ⟨a, b, c, _⟩
  · exact absurd (b ▸ h) a
  · rw [h] at b; cases b
  · rw [h] at b; cases b
  · have hG := right_of a
    have hlo := hG.lo
    unfold vertB at c
    simp at c
    obtain ⟨m, rfl⟩ := Int.eq_ofNat_of_zero_le (show 0 ≤ n by omega)
    obtain ⟨p, rfl⟩ := Int.eq_ofNat_of_zero_le (show 0 ≤ q by omega)
    refine ⟨m, p, rfl, rfl, by omega, hG, (connB_iff hG).1 (by simpa using b), a, ?_⟩
    unfold joinErr
    rw [if_neg (fun h => h a)]
    rw [Int.toNat_natCast] at b ⊢
    rw [b]; rfl
end Go.Proofs.YtghigdcpinengaaGreat

/-! The duals of the configurations of all trees are all recurrent configurations, in lexicographic order. No program is in sight. -/
namespace Go.Proofs.YtghigdcpinengaaGreat
theorem bfI_app : ∀ (a b c d : List Int), a.length = b.length → bfI a b = true → bfI (a ++ c) (b ++ d) = true
  | [], [], _, _, _, h => by simp [bfI] at h
  | [], _ :: _, _, _, h, _ => by simp at h
  | _ :: _, [], _, _, h, _ => by simp at h
  | x :: a, y :: b, c, d, hl, h => by
    rw [List.cons_append, List.cons_append, bfI] at *
    by_cases hxy : x = y
    · rw [if_pos hxy] at h ⊢
      exact bfI_app a b c d (by simpa using hl) h
    · rw [if_neg hxy] at h ⊢
      exact h
theorem pairwise_flat {α β : Type} {R : β → β → Prop} {f : α → List β} : ∀ {l : List α} {S : α → α → Prop}, l.Pairwise S → (∀ a ∈ l, (f a).Pairwise R) → (∀ a ∈ l, ∀ b ∈ l, S a b → ∀ x ∈ f a, ∀ y ∈ f b, R x y) → (l.flatMap f).Pairwise R
  | [], _, _, _, _ => by simp
  | a :: l, S, hn, h1, h2 => by
    rw [List.pairwise_cons] at hn
    rw [List.flatMap_cons, List.pairwise_append]
    refine ⟨h1 a (by simp), pairwise_flat hn.2 (fun b hb => h1 b (by simp [hb])) (fun b hb c hc => h2 b (by simp [hb]) c (by simp [hc])), fun x hx y hy => ?_⟩
    obtain ⟨b, hb, hyb⟩ := List.mem_flatMap.1 hy
    exact h2 a (by simp) b (by simp [hb]) (hn.1 b hb) x hx y hyb
theorem bel_sorted {top : List Int} : ∀ v, (belL top v).Pairwise fun a b => bfI a b = true
  | 0 => by simp [belL]
  | v + 1 => by
    rw [belL]
    refine pairwise_flat (bel_sorted v) (fun p _ => ?_) (fun a ha b hb h x hx y hy => ?_)
    · rw [List.pairwise_map]
      refine List.pairwise_lt_range.imp fun {i j} h => ?_
      rw [bfI_pre]
      unfold bfI
      rw [if_neg (by omega)]
      exact decide_eq_true (by omega)
    · rw [List.mem_map] at hx hy
      obtain ⟨i, _, rfl⟩ := hx
      obtain ⟨j, _, rfl⟩ := hy
      exact bfI_app a b _ _ ((belL_length v a ha).trans (belL_length v b hb).symm) h
section
variable {n q : Nat} {es : List E3}
theorem recsL_sorted (hG : RightG n es) (hq : q < n) : (recsL n es q).Pairwise fun a b => bfI a b = true := by
  rw [recsL_bel hG hq]
  exact (bel_sorted n).sublist List.filter_sublist
theorem recsL_nodup (hG : RightG n es) (hq : q < n) : (recsL n es q).Nodup := by
  rw [recsL_bel hG hq]
  exact (bel_nodup n).sublist List.filter_sublist
/-- The dual of a superstable configuration is recurrent. -/
theorem dul_rec (hlen : es.length ≤ 10000) {c : List Int} (hc : cfgErr n es q c = 0) : dulL n es c q ∈ recsL n es q := by
  obtain ⟨hr, hG, hq, hl, hnn, h0, _, hmx⟩ := cfg_facts hc
  obtain ⟨hb, hrest, _⟩ := cfg_zero hc
  rw [Int.toNat_natCast, Int.toNat_natCast] at hrest
  have hs : stabTo es c q n = true := maxL_stab hG hmx
  obtain ⟨d1, d2, d3, _⟩ := dual_plain hlen hb hs
  obtain ⟨_, _, _, e4, _⟩ := dual_plain hlen d1 d2
  rw [d3, hrest] at e4
  rw [recsL_bel hG hq, List.mem_filter]
  refine ⟨mem_bel n _ (dulL_length n es c q) fun i hi => ?_, ?_⟩
  · rw [dulL_get es c q hi, maxL_get hG.ok hi]
    by_cases hiq : i = q
    · rw [if_pos hiq, if_pos hiq]; omega
    · rw [if_neg hiq, if_neg hiq]
      have h1 := hnn i hi
      have h2 := hmx i hi
      rw [maxL_get hG.ok hi, if_neg hiq] at h2
      omega
  · show recB n es (dulL n es c q) q = true
    rw [← e4]; simp
/-- The dual of a recurrent configuration is superstable. -/
theorem rec_dul (hr : rootErr n es q = 0) (hG : RightG n es) (hq : q < n) (hlen : es.length ≤ 10000) {d : List Int} (hd : d ∈ recsL n es q) : cfgErr n es q (dulL n es d q) = 0 ∧ dulL n es (dulL n es d q) q = d := by
  obtain ⟨h1, h2, h3⟩ := recsL_mem hG hq hd
  have h4 := (recsL_bd hr hlen hd).2
  have hb : burnErr n es q d = 0 := by
    refine burn_right hr h1 (fun v hv => (h3 v hv).1) (fun v hv => ?_) ?_
    · have h5 := (h3 v hv).2
      have hv2 := valE_bd hG.ok v
      rw [maxL_get hG.ok hv] at h5
      split at h5
      · omega
      · omega
    · have h5 := h3 q hq
      rw [maxL_get hG.ok hq, if_pos rfl] at h5
      omega
  have hs : stabTo es d q n = true := maxL_stab hG fun i hi => (h3 i hi).2
  obtain ⟨d1, d2, d3, d4, _⟩ := dual_plain hlen hb hs
  rw [h2, decide_eq_true_eq] at d4
  refine ⟨?_, d3⟩
  unfold cfgErr superE
  rw [if_pos d1]
  simp only [Int.toNat_natCast]
  simp [d4]
theorem rec_mem (hr : rootErr n es q = 0) (hj : joinErr n es = 0) (hG : RightG n es) (hq : q < n) (hm : (endsL es).length ≤ 500) (hlen : es.length ≤ 10000) (d : List Int) : d ∈ (supL n es q).map (fun c => dulL n es c q) ↔ d ∈ recsL n es q := by
  obtain ⟨_, hS⟩ := supL_mem hr hj hG hq hm
  rw [List.mem_map]
  constructor
  · rintro ⟨c, hc, rfl⟩
    exact dul_rec hlen ((hS c).1 hc)
  · intro hd
    obtain ⟨h1, h2⟩ := rec_dul hr hG hq hlen hd
    exact ⟨_, (hS _).2 h1, h2⟩
theorem rec_perm (hr : rootErr n es q = 0) (hj : joinErr n es = 0) (hG : RightG n es) (hq : q < n) (hm : (endsL es).length ≤ 500) (hlen : es.length ≤ 10000) : ((supL n es q).map (fun c => dulL n es c q)).Perm (recsL n es q) := by
  obtain ⟨hN, hS⟩ := supL_mem hr hj hG hq hm
  refine perm_of_mem (nodup_map_of (fun a ha b hb hab => ?_) hN) (recsL_nodup hG hq) (rec_mem hr hj hG hq hm hlen)
  have ha := (hS a).1 ha
  have hb := (hS b).1 hb
  rw [← dul_dul (cfg_zero ha).1, ← dul_dul (cfg_zero hb).1, hab]
theorem recur_perm (hr : rootErr n es q = 0) (hj : joinErr n es = 0) (hG : RightG n es) (hq : q < n) (hm : (endsL es).length ≤ 500) (hlen : es.length ≤ 10000) : ((treesT n (endsL es)).map fun t => dulL n es (confN (endsL es) n q t) q).Perm (recsL n es q) := by
  obtain ⟨_, hS⟩ := supL_mem hr hj hG hq hm
  refine List.Perm.trans ?_ (rec_perm hr hj hG hq hm hlen)
  have h1 := ((match_perm hr hj hG hq hm).map fun t => dulL n es (confN (endsL es) n q t) q).symm
  rw [List.map_map] at h1
  have h2 : (supL n es q).map ((fun t => dulL n es (confN (endsL es) n q t) q) ∘ treeN (endsL es) n q) = (supL n es q).map (fun c => dulL n es c q) := by
    refine List.map_congr_left fun c hc => ?_
    obtain ⟨_, _, _, hl1, hn1, h01, hb1, _⟩ := cfg_facts ((hS c).1 hc)
    show dulL n es (confN (endsL es) n q (treeN (endsL es) n q c)) q = _
    rw [conf_tree (bd_ends hG) hq hl1 h01 hn1 hb1]
  rw [h2] at h1
  exact h1
theorem recur_sort (hr : rootErr n es q = 0) (hj : joinErr n es = 0) (hG : RightG n es) (hq : q < n) (hm : (endsL es).length ≤ 500) (hlen : es.length ≤ 10000) : sortG bfI ((treesT n (endsL es)).map fun t => dulL n es (confN (endsL es) n q t) q) = recsL n es q := by
  refine sorted_eq bfI_an (sortG_sorted bfI_tr bfI_as _) ?_ ((sortG_perm _).trans (recur_perm hr hj hG hq hm hlen))
  exact (recsL_sorted hG hq).imp fun h => bfI_as _ _ h
end
end Go.Proofs.YtghigdcpinengaaGreat

/-! ref24.All, Least, Minimal. -/
namespace Go.Proofs.YtghigdcpinengaaGreat
open Go.RowKit

theorem valE_size {n : Int} {es : List E3} (h : ∀ e ∈ es, okE n e) (v : Int) : valE es v ≤ (sizeE es : Int) := by
  induction es with
  | nil => simp [valE, sizeE]
  | cons e es ih =>
    have h1 := ih fun x hx => h x (by simp [hx])
    have h2 := h e (by simp)
    have h3 : valT v e ≤ e.2.2 := by unfold okE at h2; unfold valT; split <;> omega
    have e1 : valE (e :: es) v = valT v e + valE es v := by simp [valE]
    have e2 : sizeE (e :: es) = e.2.2.toNat + sizeE es := by simp [sizeE]
    have e3 : e.2.2.toNat = e.2.2 := by unfold okE at h2; omega
    rw [e1, e2]
    omega
theorem few_bel {n q : Nat} {es : List E3} (hx : rootErr n es q = 0) (hn : n ≤ 5) (hs : sizeE es ≤ 8) : (∀ v, v ≤ n → (belL (maxL n es q) v).length ≤ 1000000) ∧ (recsL n es q).length ≤ 16384 := by
  obtain ⟨_, hG, _, hq⟩ := root_zero hx
  have hv : ∀ v : Nat, valE es v ≤ (8 : Nat) := fun v => by have := valE_size hG.ok (v : Int); omega
  have hp : ∀ v, v ≤ 5 → 8 ^ v ≤ 8 ^ 5 := fun v h => Nat.pow_le_pow_right (by omega) h
  have hb := bel_few (top := maxL n es q) (q := q) (K := 8) (fun v hvq => by
    by_cases hvn : v < n
    · rw [maxL_get hG.ok hvn, if_neg hvq]
      have := hv v
      omega
    · rw [List.getD_eq_getElem?_getD, List.getElem?_eq_none (by rw [maxL_length]; omega)]
      simp) (by rw [maxL_get hG.ok hq, if_pos rfl])
  refine ⟨fun v hvn => ?_, ?_⟩
  · have h1 := hb v
    have h2 := hp v (by omega)
    have h3 : (belL (maxL n es q) v).length ≤ (belL (maxL n es q) v).length * (if q < v then 8 else 1) := Nat.le_mul_of_pos_right _ (by split <;> omega)
    have : 8 ^ 5 = 32768 := by decide
    omega
  · have h1 := recsL_few (K := 8) hx (by omega) (fun v => by have := valE_size hG.ok v; omega)
    have h2 := hp n hn
    have : 8 ^ 5 = 32768 := by decide
    omega

end Go.Proofs.YtghigdcpinengaaGreat

/-! Slices of pairs of two lists of ints: as the call's own, and as they read. -/
namespace Go.Proofs.YtghigdcpinengaaGreat
open Go.RowKit

theorem own_typeG {w : World} {base n size k : Nat} {e : TypeId} {v : Value} {xs : List Value} (h : w.ownsRow base e size v n xs) (hk : v.ownBlock = some k) : ∃ cs, Blk w k e cs := by
  rcases h.2 with ⟨rfl, _⟩ | ⟨g, cap, cur, rfl, _, hh, _⟩
  · simp [Value.ownBlock] at hk
  · have : g = k := by simpa [Value.ownBlock] using hk
    subst this
    exact ⟨_, hh⟩
/-- A slice of pairs that reads as the lists. -/
def PrsR (w : World) (B : Nat) (A : Option Addr) (ps : List (List Int × List Int)) : Prop :=
  ∃ vs, Reads w B 2 A ps.length vs ∧ ∀ (i : Nat) (p : List Int × List Int), ps[i]? = some p → ∃ A1 c1 A2 c2, vs[2 * i]? = some (.slice A1 p.1.length c1) ∧ vs[2 * i + 1]? = some (.slice A2 p.2.length c2) ∧ Reads w B 1 A1 p.1.length (ints p.1) ∧ Reads w B 1 A2 p.2.length (ints p.2)
/-- .. of the call's own. -/
structure PrsW (T : TypeId) (w : World) (base : Nat) (A : Option Addr) (c : Nat) (vs : List Value) (ps : List (List Int × List Int)) : Prop where
  own : w.ownsRow base T 2 (.slice A ps.length c) ps.length vs
  one : ∀ u ∈ vs, u.oneCell' = true
  rows : ∀ (i : Nat) (p : List Int × List Int), ps[i]? = some p → ∃ A1 c1 A2 c2, vs[2 * i]? = some (.slice A1 p.1.length c1) ∧ vs[2 * i + 1]? = some (.slice A2 p.2.length c2) ∧ Reads w base 1 A1 p.1.length (ints p.1) ∧ OwnI w base A2 c2 p.2
section
variable {T : TypeId} {w w' : World} {base B : Nat} {A A' A1 A2 : Option Addr} {c c' c1 c2 : Nat} {vs : List Value} {ps : List (List Int × List Int)} {x y : List Int}
theorem PrsR.below (h : PrsR w B A ps) (hb : Below B w w') : PrsR w' B A ps := by
  obtain ⟨vs, hr, hi⟩ := h
  refine ⟨vs, hr.below hb, fun i p hp => ?_⟩
  obtain ⟨A1, c1, A2, c2, h1, h2, h3, h4⟩ := hi i p hp
  exact ⟨A1, c1, A2, c2, h1, h2, h3.below hb, h4.below hb⟩
theorem PrsR.more {B' : Nat} (h : PrsR w B A ps) (hB : B ≤ B') : PrsR w B' A ps := by
  obtain ⟨vs, hr, hi⟩ := h
  refine ⟨vs, hr.more hB, fun i p hp => ?_⟩
  obtain ⟨A1, c1, A2, c2, h1, h2, h3, h4⟩ := hi i p hp
  exact ⟨A1, c1, A2, c2, h1, h2, h3.more hB, h4.more hB⟩
theorem PrsR.next (h : PrsR w w.heap.size A ps) (hb : Below w.heap.size w w') : PrsR w' w'.heap.size A ps := (h.below hb).more hb.size
theorem PrsR.nil_ (w : World) (B : Nat) : PrsR w B none [] := ⟨[], Reads.nil_, fun i p h => by cases h⟩
theorem PrsR.at_ (h : PrsR w B A ps) {k : Nat} {p : List Int × List Int} (hp : ps[k]? = some p) :
    ∃ b off A1 c1 A2 c2, A = some ⟨b, off, none⟩ ∧ b < B ∧ w.cell? ⟨b, off + k * 2, none⟩ = some (.slice A1 p.1.length c1) ∧ w.cell? ⟨b, off + k * 2 + 1, none⟩ = some (.slice A2 p.2.length c2) ∧ Reads w B 1 A1 p.1.length (ints p.1) ∧ Reads w B 1 A2 p.2.length (ints p.2) := by
  obtain ⟨vs, hr, hi⟩ := h
  obtain ⟨A1, c1, A2, c2, h1, h2, h3, h4⟩ := hi k p hp
  have hk : k < ps.length := (List.getElem?_eq_some_iff.1 hp).1
  obtain ⟨b, off, hA, hb, hc⟩ := hr.2 (by omega)
  refine ⟨b, off, A1, c1, A2, c2, hA, hb, ?_, ?_, h3, h4⟩
  · have := hc _ _ h1; rwa [Nat.mul_comm] at this
  · have := hc _ _ h2; rwa [show off + (2 * k + 1) = off + k * 2 + 1 from by omega] at this
theorem PrsW.nil_ (T : TypeId) (w : World) (base : Nat) : PrsW T w base none 0 [] [] := ⟨World.ownsRow_nil _ _ _ _, by simp, by simp⟩
theorem PrsW.len (h : PrsW T w base A c vs ps) : vs.length = ps.length * 2 := h.own.1
theorem PrsW.next (h : PrsW T w base A c vs ps) (hs : base ≤ w.heap.size) (hb : Below w.heap.size w w') : PrsW T w' base A c vs ps := by
  refine ⟨?_, h.one, fun i p hp => ?_⟩
  · obtain ⟨h1, h2⟩ := h.own
    refine ⟨h1, ?_⟩
    rcases h2 with h2 | ⟨g, cap, cur, hv, hg, hh, r⟩
    · exact .inl h2
    · exact .inr ⟨g, cap, cur, hv, hg, (hb.block g (World.ownsRow.lt h.own g (by rw [hv]; rfl)).2).trans hh, r⟩
  · obtain ⟨A1, c1, A2, c2, h1, h2, h3, h4⟩ := h.rows i p hp
    exact ⟨A1, c1, A2, c2, h1, h2, h3.below (hb.mono hs), h4.next hb⟩
theorem PrsW.drewN (h : PrsW T w base A c vs ps) (k : Nat) : PrsW T (w.drewN k) base A c vs ps := ⟨h.own, h.one, h.rows⟩
/-- One pair more. -/
theorem PrsW.push (hT : 3 ≠ T) (h : PrsW T w base A c vs ps) (h1 : Reads w base 1 A1 x.length (ints x)) (h2 : OwnI w base A2 c2 y) {o : Obj}
    (hown : w'.ownsRow base T 2 (.slice A' (ps.length + 1) c') (ps.length + 1) (vs ++ [.slice A1 x.length c1, .slice A2 y.length c2])) (hg : (w.alloc o).grownBy w' (Value.slice A ps.length c).ownBlock) (hb : Below base w w') :
    PrsW T w' base A' c' (vs ++ [.slice A1 x.length c1, .slice A2 y.length c2]) (ps ++ [(x, y)]) := by
  have keep : ∀ {A1 : Option Addr} {c1 : Nat} {z : List Int}, OwnI w base A1 c1 z → OwnI w' base A1 c1 z := fun {A1 c1 z} ho => own_kept ho fun k hk => by
    have hlt := (own_lt ho hk).2
    refine (hg.block k (by simp; omega) fun e => ?_).trans (Below.heap_alloc w o k hlt)
    obtain ⟨cs, hcs⟩ := own_typeG h.own e.symm
    exact own_blk ho hcs hT hk rfl
  refine ⟨by rw [List.length_append]; exact hown, ?_, fun i p hi => ?_⟩
  · intro u hu
    rcases List.mem_append.1 hu with hu | hu
    · exact h.one u hu
    · simp at hu; rcases hu with rfl | rfl <;> rfl
  · have hl := h.len
    rcases Nat.lt_trichotomy i ps.length with hlt | rfl | hgt
    · rw [List.getElem?_append_left hlt] at hi
      obtain ⟨A3, c3, A4, c4, v1, v2, r1, r2⟩ := h.rows i p hi
      exact ⟨A3, c3, A4, c4, by rw [List.getElem?_append_left (by omega)]; exact v1, by rw [List.getElem?_append_left (by omega)]; exact v2, r1.below hb, keep r2⟩
    · have : p = (x, y) := by simpa using hi.symm
      subst this
      refine ⟨A1, c1, A2, c2, ?_, ?_, h1.below hb, keep h2⟩
      · rw [List.getElem?_append_right (by omega), hl, Nat.mul_comm, Nat.sub_self]; rfl
      · rw [List.getElem?_append_right (by omega), hl, show 2 * ps.length + 1 - ps.length * 2 = 1 from by omega]; rfl
    · rw [List.getElem?_eq_none (by simp; omega)] at hi; cases hi
theorem PrsW.reads (h : PrsW T w base A c vs ps) (hs : base ≤ w.heap.size) : PrsR w w.heap.size A ps :=
  ⟨vs, Reads.of_own h.own, fun i p hp => by
    obtain ⟨A1, c1, A2, c2, h1, h2, h3, h4⟩ := h.rows i p hp
    exact ⟨A1, c1, A2, c2, h1, h2, h3.more hs, h4.reads⟩⟩
end
end Go.Proofs.YtghigdcpinengaaGreat

/-! A small graph has few superstable configurations. No program is in sight. -/
namespace Go.Proofs.YtghigdcpinengaaGreat
end Go.Proofs.YtghigdcpinengaaGreat

/-! treebijection.Pairs. -/
namespace Go.Proofs.YtghigdcpinengaaGreat
open Go.RowKit

end Go.Proofs.YtghigdcpinengaaGreat

/-! The examples of chapter 30, each by itself. -/
namespace Go.Proofs.YtghigdcpinengaaGreat
open Go.RowKit

theorem Blk.newA {w : World} {g : Nat} {t : TypeId} {cs : Array Value} (hg : g = w.heap.size) : Blk (w.alloc (.cells cs t)) g t cs := by subst hg; exact Blk.new w t cs
set_option maxHeartbeats 1000000 in
theorem ear30_any (w : World) : Calls Tryz.prog 49 #[] w fun e w' => ∃ A c, e = .returned (.agg #[.int .i64 3, .slice A 3 c]) ∧ Reads w' w'.heap.size 3 A ear.length (edgeCells ear) ∧ Below w.heap.size w w' := by
  go_enter Tryz.func49, Tryz.ntmps49
  go_wp2
  refine bodyPost_ret (results_g rfl rfl ((Blk.new w 24 #[.int .i64 3, .slice (some ⟨w.heap.size + 1, 0, none⟩) 3 3]).alloc _) rfl) rfl ?_
  have hB := Blk.new (w.alloc (.cells #[.int .i64 3, .slice (some ⟨w.heap.size + 1, 0, none⟩) 3 3] 24)) 104 (edgeCells ear).toArray
  rw [show (w.alloc (.cells #[.int .i64 3, .slice (some ⟨w.heap.size + 1, 0, none⟩) 3 3] 24)).heap.size = w.heap.size + 1 from by simp] at hB
  refine ⟨some ⟨w.heap.size + 1, 0, none⟩, 3, rfl, ⟨by simp [edgeCells_length], fun _ => ⟨w.heap.size + 1, 0, rfl, by simp, fun j u hu => ?_⟩⟩, ((Below.refl _ _).alloc (Nat.le_refl _) _).alloc (by simp) _⟩
  rw [Nat.zero_add]
  refine (hB.cell j).trans ?_
  rw [← hu, List.getElem?_toArray]
theorem rows_litA {W : World} {g : Nat} {t : TypeId} {vs : List Value} {xss : List (List Int)} (h : Blk W g t vs.toArray) (hl : vs.length = xss.length) (hr : ∀ (i : Nat) (xs : List Int), xss[i]? = some xs → ∃ A' c', vs[i]? = some (.slice A' xs.length c') ∧ Reads W W.heap.size 1 A' xs.length (ints xs)) : RowsR W W.heap.size (some ⟨g, 0, none⟩) xss :=
  ⟨vs, ⟨by rw [hl]; simp, fun _ => ⟨g, 0, rfl, h.lt, fun j u hu => by rw [Nat.zero_add, h.cell j]; simpa using hu⟩⟩, hr⟩
theorem row_litA {W : World} {g : Nat} {xs : List Int} (h : Blk W g 3 (ints xs).toArray) : Reads W W.heap.size 1 (some ⟨g, 0, none⟩) xs.length (ints xs) :=
  ⟨by simp [ints], fun _ => ⟨g, 0, rfl, h.lt, fun j u hu => by rw [Nat.zero_add, h.cell j]; simpa using hu⟩⟩
theorem a30_tr1 : treeFE 3 ear 0 [0, 1, 0] = ([1, 2], [0, 1, 2], 0) := by decide +kernel
theorem a30_tr2 : treeFE 3 ear 0 [0, 0, 1] = ([0, 3], [0, 1, 2], 0) := by decide +kernel
theorem a30_st : stepsE 3 ear 0 [0, 0, 1] = ([0, 2, 3], 0) := by decide +kernel
theorem a30_un1 : unusedFE 3 ear 0 [1, 2] = ([3], 0) := by decide +kernel
theorem a30_cf : confFE 3 ear 0 [0, 2] = ([0, 0, 0], 0) := by decide +kernel
theorem a30_un2 : unusedFE 3 ear 0 [0, 2] = ([1, 3], 0) := by decide +kernel
theorem a30_rc : recFE 3 ear 0 [0, 2] = ([0, 2, 1], 0) := by decide +kernel
theorem c30_tr1 (A : Option Addr) (c : Nat) (B : Option Addr) (d : Nat) (w : World) (h : Reads w w.heap.size 3 A ear.length (edgeCells ear)) (h' : Reads w w.heap.size 1 B 3 (ints [0, 1, 0])) : Calls Tryz.prog 14 #[.agg #[.int .i64 3, .slice A 3 c], .int .i64 0, .slice B 3 d] w fun e w' => ∃ A1 c1 A2 c2, e = .returned (.tuple #[.slice A1 2 c1, .slice A2 3 c2, .int .i64 0]) ∧ Reads w' w'.heap.size 1 A1 2 (ints [1, 2]) ∧ Reads w' w'.heap.size 1 A2 3 (ints [0, 1, 2]) ∧ Below w.heap.size w w' := by
  have hb := ttree30_any 3 0 A c ear (by decide) (by decide) B d [0, 1, 0] (by decide) w h h'
  rw [a30_tr1] at hb
  refine hb.mono ?_
  rintro e w' ⟨A1, c1, A2, c2, he, o1, o2, hb⟩
  exact ⟨A1, c1, A2, c2, he, o1.reads, o2.reads, hb⟩
theorem c30_tr2 (A : Option Addr) (c : Nat) (B : Option Addr) (d : Nat) (w : World) (h : Reads w w.heap.size 3 A ear.length (edgeCells ear)) (h' : Reads w w.heap.size 1 B 3 (ints [0, 0, 1])) : Calls Tryz.prog 14 #[.agg #[.int .i64 3, .slice A 3 c], .int .i64 0, .slice B 3 d] w fun e w' => ∃ A1 c1 A2 c2, e = .returned (.tuple #[.slice A1 2 c1, .slice A2 3 c2, .int .i64 0]) ∧ Reads w' w'.heap.size 1 A1 2 (ints [0, 3]) ∧ Reads w' w'.heap.size 1 A2 3 (ints [0, 1, 2]) ∧ Below w.heap.size w w' := by
  have hb := ttree30_any 3 0 A c ear (by decide) (by decide) B d [0, 0, 1] (by decide) w h h'
  rw [a30_tr2] at hb
  refine hb.mono ?_
  rintro e w' ⟨A1, c1, A2, c2, he, o1, o2, hb⟩
  exact ⟨A1, c1, A2, c2, he, o1.reads, o2.reads, hb⟩
theorem c30_st (A : Option Addr) (c : Nat) (B : Option Addr) (d : Nat) (w : World) (h : Reads w w.heap.size 3 A ear.length (edgeCells ear)) (h' : Reads w w.heap.size 1 B 3 (ints [0, 0, 1])) : Calls Tryz.prog 13 #[.agg #[.int .i64 3, .slice A 3 c], .int .i64 0, .slice B 3 d] w fun e w' => ∃ A1 c1, e = .returned (.tuple #[.slice A1 3 c1, .int .i64 0]) ∧ Reads w' w'.heap.size 1 A1 3 (ints [0, 2, 3]) ∧ Below w.heap.size w w' := by
  have hb := steps30_any 3 0 A c ear (by decide) (by decide) B d [0, 0, 1] (by decide) w h h'
  rw [a30_st] at hb
  refine hb.mono ?_
  rintro e w' ⟨A1, c1, he, o1, hb⟩
  exact ⟨A1, c1, he, o1.reads, hb⟩
theorem c30_un1 (A : Option Addr) (c : Nat) (B : Option Addr) (d : Nat) (w : World) (h : Reads w w.heap.size 3 A ear.length (edgeCells ear)) (h' : Reads w w.heap.size 1 B 2 (ints [1, 2])) : Calls Tryz.prog 20 #[.agg #[.int .i64 3, .slice A 3 c], .int .i64 0, .slice B 2 d] w fun e w' => ∃ A1 c1, e = .returned (.tuple #[.slice A1 1 c1, .int .i64 0]) ∧ Reads w' w'.heap.size 1 A1 1 (ints [3]) ∧ Below w.heap.size w w' := by
  have hb := unused30_any 3 0 A c ear (by decide) (by decide) B d [1, 2] (by decide) w h h'
  rw [a30_un1] at hb
  refine hb.mono ?_
  rintro e w' ⟨A1, c1, he, o1, hb⟩
  exact ⟨A1, c1, he, o1.reads, hb⟩
theorem c30_cf (A : Option Addr) (c : Nat) (B : Option Addr) (d : Nat) (w : World) (h : Reads w w.heap.size 3 A ear.length (edgeCells ear)) (h' : Reads w w.heap.size 1 B 2 (ints [0, 2])) : Calls Tryz.prog 18 #[.agg #[.int .i64 3, .slice A 3 c], .int .i64 0, .slice B 2 d] w fun e w' => ∃ A1 c1, e = .returned (.tuple #[.slice A1 3 c1, .int .i64 0]) ∧ Reads w' w'.heap.size 1 A1 3 (ints [0, 0, 0]) ∧ Below w.heap.size w w' := by
  have hb := config30_any 3 0 A c ear (by decide) (by decide) B d [0, 2] (by decide) w h h'
  rw [a30_cf] at hb
  refine hb.mono ?_
  rintro e w' ⟨A1, c1, he, o1, hb⟩
  exact ⟨A1, c1, he, o1.reads, hb⟩
theorem c30_un2 (A : Option Addr) (c : Nat) (B : Option Addr) (d : Nat) (w : World) (h : Reads w w.heap.size 3 A ear.length (edgeCells ear)) (h' : Reads w w.heap.size 1 B 2 (ints [0, 2])) : Calls Tryz.prog 20 #[.agg #[.int .i64 3, .slice A 3 c], .int .i64 0, .slice B 2 d] w fun e w' => ∃ A1 c1, e = .returned (.tuple #[.slice A1 2 c1, .int .i64 0]) ∧ Reads w' w'.heap.size 1 A1 2 (ints [1, 3]) ∧ Below w.heap.size w w' := by
  have hb := unused30_any 3 0 A c ear (by decide) (by decide) B d [0, 2] (by decide) w h h'
  rw [a30_un2] at hb
  refine hb.mono ?_
  rintro e w' ⟨A1, c1, he, o1, hb⟩
  exact ⟨A1, c1, he, o1.reads, hb⟩
theorem c30_rc (A : Option Addr) (c : Nat) (B : Option Addr) (d : Nat) (w : World) (h : Reads w w.heap.size 3 A ear.length (edgeCells ear)) (h' : Reads w w.heap.size 1 B 2 (ints [0, 2])) : Calls Tryz.prog 22 #[.agg #[.int .i64 3, .slice A 3 c], .int .i64 0, .slice B 2 d] w fun e w' => ∃ A1 c1, e = .returned (.tuple #[.slice A1 3 c1, .int .i64 0]) ∧ Reads w' w'.heap.size 1 A1 3 (ints [0, 2, 1]) ∧ Below w.heap.size w w' := by
  have hb := recur30_any 3 0 A c ear (by decide) (by decide) B d [0, 2] (by decide) w h h'
  rw [a30_rc] at hb
  refine hb.mono ?_
  rintro e w' ⟨A1, c1, he, o1, hb⟩
  exact ⟨A1, c1, he, o1.reads, hb⟩

end Go.Proofs.YtghigdcpinengaaGreat

