/-
  Texts of this claim, put together: Stab, RSettled, FireE, SupP, Maximal.
-/
import Derived.Test.YtghigdcpinengaaGreatK33
import Derived.Test.YtghigdcpinengaaGreatK23
import Derived.Test.YtghigdcpinengaaGreatK25
import Derived.Test.YtghigdcpinengaaGreatK03
import Derived.Test.YtghigdcpinengaaGreatK27
import Derived.Test.YtghigdcpinengaaGreatK29
import Derived.Test.YtghigdcpinengaaGreatK28
import Derived.Test.YtghigdcpinengaaGreatK26
import Derived.Test.YtghigdcpinengaaGreatK32
/-! Package stabilize: settled, given, Stabilize. -/
namespace Go.Proofs.YtghigdcpinengaaGreat
open Go.RowKit

theorem conf_sargs {n q : Nat} {es : List E3} {d : List Int} (hlen : es.length ≤ 10000) (hc : confErr n es q d = 0) : SArgs n q es d := by
  obtain ⟨hG, hC, _, hqn, hl, hb, hnn⟩ := conf_zero hc
  have hck : checkG n es = 0 := by
    rcases conf_cases n es q d with ⟨h1, hE⟩ | ⟨h1, h2, hE⟩ | ⟨h1, h2, hE⟩
    · exact absurd (hE ▸ hc) h1
    · exact absurd (hE ▸ hc) h2
    · exact (root_zero h1).1
  rw [Int.toNat_natCast] at hC
  refine ⟨hlen, hck, hC, by omega, by omega, fun v hv => ?_, fun v hv hq => hnn v (by omega) (by omega)⟩
  obtain ⟨x, hx⟩ := get_of_lt (xs := d) (k := v) (by omega)
  rw [getD_at hx]
  exact hb x (List.mem_of_getElem? hx)
set_option maxRecDepth 100000 in
set_option maxHeartbeats 4000000 in
theorem given_ok (n : Nat) (A : Option Addr) (c : Nat) (es : List E3) (hlen : es.length ≤ 10000) (q : Nat) (B : Option Addr) (cB : Nat) (d : List Int) (hc : confErr n es q d = 0) (w : World)
    (h : Reads w w.heap.size 3 A es.length (edgeCells es)) (h' : Reads w w.heap.size 1 B d.length (ints d)) :
    Calls Tryz.prog 120 #[.agg #[.int .i64 n, .slice A es.length c], .int .i64 q, .slice B d.length cB] w fun e w' => ∃ bp a, e = .returned (.tuple #[.pointer (some ⟨bp, 0, none⟩), .int .i64 0]) ∧
      PileW w' w.heap.size bp n a d q (rowsL n (endsL es)) (valL n (endsL es)) (List.replicate n 0) 0 (waitL n q d (valL n (endsL es))) ∧ Below w.heap.size w w' := by
  have hS := conf_sargs hlen hc
  have hG := right_of hS.hz
  have hn12 : n ≤ 12 := by have := hG.hi; omega
  have hq := hS.hq
  have hdl := hS.dl
  have SC := Lib.hid (scheck_any n A c es (by omega) q B cB d (by omega))
  rw [hc] at SC
  have PO := Lib.hid (fun (W : World) (hB : Below w.heap.size w W) => pileOf_any n hn12 (by omega) A c es hlen hS.hz hG.ok q B cB d hS.dl W ((h.below hB).more hB.size) ((h'.below hB).more hB.size))
  have g0 := Blk.new w 24 #[.int .i64 n, .slice A es.length c]
  clear hS hG hc hdl
  go_enter Tryz.func120, Tryz.ntmps120
  go_wp2_with fail
  refine (SC.out _ ((h.alloc (Nat.le_refl _) _).more (by simp)) ((h'.alloc (Nat.le_refl _) _).more (by simp))).mono ?_
  rintro e w1 ⟨rfl, hb1⟩
  have hB1 : Below w.heap.size w w1 := ((Below.refl _ _).alloc (Nat.le_refl _) _).trans (hb1.mono (by simp))
  have g1 := g0.next hb1
  have c0 := g1.cell 0
  have c1 := g1.cell 1
  clear g0 hb1
  go_wp2_with fail
  refine (PO.out _ hB1).mono ?_
  rintro e w2 ⟨bp, a, rfl, hP, hb2⟩
  go_wp2
  go_ret2
  exact ⟨bp, a, rfl, hP.mono hB1.size, hB1.trans (hb2.mono hB1.size)⟩
end Go.Proofs.YtghigdcpinengaaGreat

/-! Package recurrent: settled. -/
namespace Go.Proofs.YtghigdcpinengaaGreat
open Go.RowKit

theorem conf_of {n q : Nat} {es : List E3} {d : List Int} (hx : rootErr n es q = 0) (hd : d.length = n) (hlo : ∀ x ∈ d, -1048576 ≤ x) (hhi : ∀ x ∈ d, x ≤ 1048576) (h0 : ∀ v, v < n → v ≠ q → 0 ≤ d.getD v 0) : confErr n es q d = 0 := by
  obtain ⟨_, hG, _, hq⟩ := root_zero hx
  have h1 := hG.lo
  have h2 := hG.hi
  unfold confErr
  rw [if_neg (by omega)]
  have hdv : divErr d n = 0 := by
    unfold divErr
    rw [if_neg (by omega), if_neg (by omega), if_pos]
    rw [List.all_eq_true]
    intro x hx
    exact chipB_true.2 ⟨hlo x hx, hhi x hx⟩
  rw [if_neg (by omega)]
  have hdb : debtTo d q d.length = false := by
    unfold debtTo
    rw [List.any_eq_false]
    intro v hv
    have hv := List.mem_range.1 hv
    by_cases hq : v = q
    · subst hq; simp
    · have := h0 v (by omega) hq
      rw [Bool.and_eq_true]
      rintro ⟨_, h⟩
      have := of_decide_eq_true h
      omega
  rw [hdb]
  rfl

end Go.Proofs.YtghigdcpinengaaGreat

/-! Fires over a graph: that all burns is that a configuration is superstable; the configuration of a tree is right, superstable and stable. -/
namespace Go.Proofs.YtghigdcpinengaaGreat
open Go.RowKit

def incP (v : Nat) (l : List Nat) (p : Nat × Nat) : Bool := decide (p.1 = v ∨ p.2 = v) && decide (oth p v ∈ l)
theorem degTo_filter (E : List (Nat × Nat)) (v : Nat) (l : List Nat) : degTo E v l = (E.filter (incP v l)).length := by
  have h1 : (List.range E.length).map (fun e => E.getD e (0, 0)) = E := by
    apply List.ext_getElem?
    intro i
    by_cases hi : i < E.length
    · simp [hi]
    · simp [hi]
  conv => rhs; rw [← h1, List.filter_map, List.length_map]
  unfold degTo
  rfl
theorem deg_one {n : Int} {e : E3} (h : okE n e) (v : Nat) {l : List Nat} (hv : v ∉ l) : (((List.replicate e.2.2.toNat (e.1.toNat, e.2.1.toNat)).filter (incP v l)).length : Int) = jnT l v e := by
  obtain ⟨a, b, k⟩ := e
  unfold okE at h
  dsimp only at h
  have hf : ∀ (k : Nat) (p : Nat × Nat), ((List.replicate k p).filter (incP v l)).length = if incP v l p = true then k else 0 := by
    intro k p
    induction k with
    | zero => simp
    | succ k ih =>
      rw [List.replicate_succ, List.filter_cons]
      by_cases hp : incP v l p = true
      · rw [if_pos hp] at ih ⊢
        rw [if_pos hp, List.length_cons, ih]
      · rw [if_neg hp] at ih ⊢
        rw [if_neg hp, ih]
  rw [hf]
  obtain ⟨a, rfl⟩ := Int.eq_ofNat_of_zero_le h.1
  obtain ⟨b, rfl⟩ := Int.eq_ofNat_of_zero_le (show 0 ≤ b by omega)
  unfold jnT incP oth
  dsimp only
  simp only [Int.toNat_natCast]
  by_cases ha : a = v
  · subst ha
    by_cases hb : b = a
    · subst hb; simp [hv]
    · have hb' : ¬ ((a : Int) = (b : Int)) := by omega
      by_cases hm : b ∈ l
      · simp [hm, hb']; omega
      · simp [hm, hb']; omega
  · by_cases hb : b = v
    · subst hb
      have hb' : ¬ ((a : Int) = (b : Int)) := by omega
      by_cases hm : a ∈ l
      · simp [hm, ha, hb']; omega
      · simp [hm, ha, hb']
    · have h1 : ¬ ((a : Int) = (v : Int)) := by omega
      have h2 : ¬ ((b : Int) = (v : Int)) := by omega
      simp [ha, hb, h1, h2]
theorem deg_jn {n : Int} {es : List E3} (h : ∀ e ∈ es, okE n e) (v : Nat) {l : List Nat} (hv : v ∉ l) : (degTo (endsL es) v l : Int) = jnE es l v := by
  rw [degTo_filter]
  induction es with
  | nil => rfl
  | cons e es ih =>
    have e1 : endsL (e :: es) = List.replicate e.2.2.toNat (e.1.toNat, e.2.1.toNat) ++ endsL es := rfl
    have e2 : jnE (e :: es) l v = jnT l v e + jnE es l v := by unfold jnE; rw [List.map_cons, List.sum_cons]
    rw [e1, List.filter_append, List.length_append, e2, ← ih (fun x hx => h x (by simp [hx])), ← deg_one (h e (by simp)) v hv]
    omega
theorem deg_joins {n : Nat} {es : List E3} (hG : RightG n es) {v : Nat} {l : List Nat} (hl : LOk n l) (hv : v ∉ l) : (degTo (endsL es) v l : Int) = joinsN es v l := by
  rw [deg_jn hG.ok v hv, jnE_flm hG, flm_joins l hl hv]
/-- All burns, in the words of chapter 23. -/
theorem fburns_iff {n q : Nat} {es : List E3} (hG : RightG n es) (hq : q < n) (cs : List Int) : restL n (burntL es cs n q) = [] ↔ BurnsAll (endsL es) n q cs := by
  have he : ∀ a b, 0 ≤ btw es a b := fun a b => (btw_bd hG.ok a b).1
  have hl0 : LOk n [q] := ⟨by simp, by simpa using hq⟩
  constructor
  · intro hr O hqO hnd hlt hcl v hv
    have h1 := burns_same (es := es) (c := cs) (n := n) (l := [q]) (l' := O) (by simpa using hqO) (fun u hu => by
      unfold catL
      by_cases hm : u ∈ O
      · simp [hm]
      · have := hcl u hu hm
        rw [deg_joins hG ⟨hnd, hlt⟩ hm] at this
        have h2 : ¬ cs.getD u 0 < joinsN es u O := by omega
        rw [decide_eq_false h2]; simp) ⟨hnd, hlt⟩ he n hl0
    refine h1 v (Classical.byContradiction fun hm => ?_)
    have : v ∈ restL n (burntL es cs n q) := mem_rest.2 ⟨hv, hm⟩
    rw [hr] at this; simp at this
  · intro h
    have hok : LOk n (burntL es cs n q) := burnL_ok n [q] hl0
    rw [List.eq_nil_iff_forall_not_mem]
    intro v hv
    obtain ⟨h1, h2⟩ := mem_rest.1 hv
    refine h2 (h (burntL es cs n q) ((burnL_pre n [q]).subset (by simp)) hok.1 hok.2 (fun u hu hm => ?_) v h1)
    have h3 := burnL_done (es := es) (c := cs) (n := n) (k := n) (l := [q]) hl0 (by simp) u hu
    rw [deg_joins hG hok hm]
    change catL es cs (burntL es cs n q) u = false at h3
    refine Classical.byContradiction fun h4 => ?_
    rw [catL_true.2 ⟨hm, by omega⟩] at h3; cases h3
theorem cfg_iff {n q : Nat} {es : List E3} {cs : List Int} : cfgErr n es q cs = 0 ↔ burnErr n es q cs = 0 ∧ BurnsAll (endsL es) n q cs := by
  constructor
  · intro h
    obtain ⟨h1, h2, _⟩ := cfg_zero h
    obtain ⟨hG, _, _, hq, _⟩ := conf_zero (burn_zero h1).1
    exact ⟨h1, (fburns_iff hG (by omega) cs).1 h2⟩
  · rintro ⟨h1, h2⟩
    obtain ⟨hG, _, _, hq, _⟩ := conf_zero (burn_zero h1).1
    have h3 := (fburns_iff hG (by omega) cs).2 h2
    unfold cfgErr superE
    rw [if_pos h1]
    simp [h3]
theorem jnE_mono {n : Int} {es : List E3} (h : ∀ e ∈ es, okE n e) {l m : List Nat} (hs : ∀ u ∈ l, u ∈ m) (v : Int) : jnE es l v ≤ jnE es m v := by
  induction es with
  | nil => exact Int.le_refl _
  | cons e es ih =>
    have e2 : ∀ l, jnE (e :: es) l v = jnT l v e + jnE es l v := fun l => by unfold jnE; rw [List.map_cons, List.sum_cons]
    rw [e2, e2]
    have h1 := ih fun x hx => h x (by simp [hx])
    have h2 : jnT l v e ≤ jnT m v e := by
      have hb := (jnT_bd (h e (by simp)) m v).1
      unfold jnT at hb ⊢
      by_cases hc : e.1 ≠ e.2.1 ∧ ((e.1 = v ∧ e.2.1.toNat ∈ l) ∨ (e.2.1 = v ∧ e.1.toNat ∈ l))
      · rw [if_pos hc, if_pos ⟨hc.1, hc.2.imp (fun x => ⟨x.1, hs _ x.2⟩) (fun x => ⟨x.1, hs _ x.2⟩)⟩]
        exact Int.le_refl _
      · rw [if_neg hc]; exact hb
    omega
/-- What burns all is stable. -/
theorem burns_stab {n q : Nat} {es : List E3} (hG : RightG n es) (hq : q < n) {cs : List Int} (h : BurnsAll (endsL es) n q cs) : stabTo es cs q n = true := by
  unfold stabTo
  rw [List.all_eq_true]
  intro v hv
  have hv := List.mem_range.1 hv
  rw [Bool.or_eq_true, decide_eq_true_eq, decide_eq_true_eq]
  by_cases hvq : v = q
  · exact .inl hvq
  · right
    refine Classical.byContradiction fun hc => ?_
    have hO : v ∉ (List.range n).filter fun u => !decide (u = v) := by simp
    refine hO (h _ (List.mem_filter.2 ⟨List.mem_range.2 hq, by simp; omega⟩) (List.nodup_range.sublist List.filter_sublist) (fun u hu => List.mem_range.1 (List.mem_filter.1 hu).1) (fun u hu hm => ?_) v hv)
    have : u = v := Classical.byContradiction fun hne => hm (List.mem_filter.2 ⟨List.mem_range.2 hu, by simp [hne]⟩)
    subst this
    rw [deg_jn hG.ok u hO]
    have h1 := jnE_mono hG.ok (l := (List.range n).filter fun x => !decide (x = u)) (m := List.range n) (fun x hx => (List.mem_filter.1 hx).1) (u : Int)
    rw [← valE_jn hG.ok] at h1
    omega
theorem root_of {n q : Nat} {es : List E3} (hj : joinErr n es = 0) (hq : q < n) : rootErr n es q = 0 := by
  obtain ⟨h1, _, h2⟩ := join_zero hj
  rcases root_cases n es q with ⟨a, _⟩ | ⟨_, a, _⟩ | ⟨_, _, a, _⟩ | ⟨_, _, _, a⟩
  · exact absurd h1 a
  · rw [a] at h2; cases h2
  · unfold vertB at a; simp at a; omega
  · exact a
theorem le_sum_of {l : List Int} (h : ∀ x ∈ l, 0 ≤ x) : ∀ x ∈ l, x ≤ l.sum := by
  induction l with
  | nil => simp
  | cons a l ih =>
    have h1 : 0 ≤ l.sum := by
      clear ih
      have : ∀ l : List Int, (∀ x ∈ l, 0 ≤ x) → 0 ≤ l.sum := by
        intro l
        induction l with
        | nil => intro _; exact Int.le_refl _
        | cons a l ih => intro h; rw [List.sum_cons]; have := h a (by simp); have := ih fun x hx => h x (by simp [hx]); omega
      exact this l fun x hx => h x (by simp [hx])
    intro x hx
    rw [List.sum_cons]
    have ha := h a (by simp)
    rcases List.mem_cons.1 hx with rfl | hx
    · omega
    · have := ih (fun x hx => h x (by simp [hx])) x hx; omega
theorem getD_mem {l : List Int} (h : ∀ v, 0 ≤ l.getD v 0) : ∀ x ∈ l, 0 ≤ x := by
  intro x hx
  obtain ⟨i, hi, rfl⟩ := List.mem_iff_getElem.1 hx
  have := h i
  rw [List.getD_eq_getElem?_getD, List.getElem?_eq_getElem hi] at this
  exact this
/-- The configuration of a tree is right. -/
theorem conf_right {m p : Nat} {es : List E3} {t : List Nat} (hj : joinErr m es = 0) (hG : RightG m es) (hp : p < m) (hm : (endsL es).length ≤ 1000) : burnErr m es p (confN (endsL es) m p t) = 0 := by
  obtain ⟨h1, h2, h3, h4⟩ := conf_facts (t := t) (bd_ends hG) hp
  have h5 := getD_mem h2
  have h6 := le_sum_of h5
  have hc := conf_of (root_of hj hp) h1 (fun x hx => by have := h5 x hx; omega) (fun x hx => by have := h6 x hx; omega) (fun v _ _ => h2 v)
  unfold burnErr
  rw [if_neg (fun h => h hc), Int.toNat_natCast, if_neg (fun h => h h3)]
theorem conf_cfg {m p : Nat} {es : List E3} {t : List Nat} (hj : joinErr m es = 0) (hR : TreeR m es t) (hp : p < m) (hm : (endsL es).length ≤ 1000) : cfgErr m es p (confN (endsL es) m p t) = 0 ∧ stabTo es (confN (endsL es) m p t) p m = true := by
  have hb := conf_burns (bd_ends hR.hG) hp hR.tr
  exact ⟨cfg_iff.2 ⟨conf_right hj hR.hG hp hm, hb⟩, burns_stab hR.hG hp hb⟩
end Go.Proofs.YtghigdcpinengaaGreat

/-! The superstable configurations, listed: what comes of the iterator; no vertex with 600 chips burns. -/
namespace Go.Proofs.YtghigdcpinengaaGreat
open Go.RowKit

def calmB (n : Nat) (es : List E3) (q : Nat) (c : List Int) : Bool := (superE n es q c).1 && decide ((superE n es q c).2 = 0)
/-- What comes: c begun, m vertices still to come. -/
def enumF (n q : Nat) (P : List Int → Bool) : Nat → List Int → List (List Int)
  | 0, c => [c]
  | m + 1, c => if n - (m + 1) = q then enumF n q P m c else ((List.range' 0 601).takeWhile fun j : Nat => P (c.set (n - (m + 1)) (j : Int))).flatMap fun j : Nat => enumF n q P m (c.set (n - (m + 1)) (j : Int))
def remF (n q : Nat) (P : List Int → Bool) (m : Nat) (c : List Int) (v s : Nat) : List (List Int) :=
  ((List.range' s (601 - s)).takeWhile fun j : Nat => P (c.set v (j : Int))).flatMap fun j : Nat => enumF n q P m (c.set v (j : Int))
theorem enumF_sink {n q : Nat} {P : List Int → Bool} {m v : Nat} {c : List Int} (hv : v + (m + 1) = n) (hq : v = q) : enumF n q P (m + 1) c = enumF n q P m c := by
  rw [enumF, if_pos (by omega)]
theorem enumF_succ {n q : Nat} {P : List Int → Bool} {m v : Nat} {c : List Int} (hv : v + (m + 1) = n) (hq : v ≠ q) : enumF n q P (m + 1) c = remF n q P m c v 0 := by
  rw [enumF, if_neg (by omega), show n - (m + 1) = v by omega]; rfl
theorem remF_stop {n q : Nat} {P : List Int → Bool} {m v s : Nat} {c : List Int} (hs : s < 601) (h : P (c.set v (s : Int)) = false) : remF n q P m c v s = [] := by
  unfold remF
  rw [show 601 - s = (601 - (s + 1)) + 1 by omega, List.range'_succ, List.takeWhile_cons, h]
  rfl
theorem remF_step {n q : Nat} {P : List Int → Bool} {m v s : Nat} {c : List Int} (hs : s < 601) (h : P (c.set v (s : Int)) = true) : remF n q P m c v s = enumF n q P m (c.set v (s : Int)) ++ remF n q P m c v (s + 1) := by
  unfold remF
  rw [show 601 - s = (601 - (s + 1)) + 1 by omega, List.range'_succ, List.takeWhile_cons, h]
  rfl
/-- A vertex with 600 chips is never burnt. -/
theorem big_unburnt {es : List E3} {c : List Int} {n v : Nat} (hok : ∀ e ∈ es, okE n e) (hn : n ≤ 12) (hc : 600 ≤ c.getD v 0) (k : Nat) : ∀ l, LOk n l → v ∉ l → v ∉ burnL es c n k l := by
  induction k with
  | zero => intro l _ hv; simpa [burnL] using hv
  | succ k ih =>
    intro l hl hv
    cases h : (readyL es c n l).head? with
    | none => rw [burnL_stop h]; exact hv
    | some u =>
      rw [burnL_step h]
      obtain ⟨h1, h2, h3⟩ := head_ready h
      refine ih _ (hl.snoc h2 h1) ?_
      intro hm
      rcases List.mem_append.1 hm with hm | hm
      · exact hv hm
      · rw [List.mem_singleton] at hm
        subst hm
        have h4 := flm_joins (es := es) l hl h2
        have h5 := (flmTo_bd hok l v n).2
        omega
theorem calm_big {n : Nat} {es : List E3} {q : Nat} {c : List Int} {v : Nat} (hv : v < n) (hq : v ≠ q) (hc : 600 ≤ c.getD v 0) : calmB n es q c = false := by
  unfold calmB superE
  split
  · rename_i hz
    obtain ⟨hG, _, hq0, hqn, _⟩ := conf_zero (burn_zero hz).1
    have hn : n ≤ 12 := by have := hG.hi; omega
    have h1 := big_unburnt hG.ok hn hc n [q] ⟨by simp, by simp; omega⟩ (by simpa using hq)
    have h2 : v ∈ restL n (burntL es c n q) := mem_rest.2 ⟨hv, h1⟩
    have h3 : restL n (burntL es c n q) ≠ [] := fun e => by rw [e] at h2; simp at h2
    simp [h3]
  · simp
end Go.Proofs.YtghigdcpinengaaGreat

/-! stabilize.Maximal: the maximal stable configuration. -/
namespace Go.Proofs.YtghigdcpinengaaGreat
open Go.RowKit

theorem make_div (n : Nat) (hn : n ≤ 1048576) (W : World) : (Instr.makeSlice 26 (.int .i64 (n : Int)) (.int .i64 (n : Int))).run Tryz.prog W =
    .ok (.slice (some ⟨W.heap.size, 0, none⟩) n n) (W.alloc (.cells (ints (List.replicate n 0)).toArray 3)) := by
  obtain ⟨i0, hi, hz0, hz1, hz2⟩ := info_parts info_int
  have hr := run_make (P := Tryz.prog) W 26 3 i0 (.int .i64 0) Tryz.underlying26 hi hz0 .i64 .i64 n n (by omega) (Int.le_refl _) (by rw [hz2]; omega) (by omega)
  simp only [Int.toNat_natCast, hz1, Nat.mul_one] at hr
  rw [hr, show (Value.int .i64 0).cells = #[.int .i64 0] from rfl, made_ints]
/-- The maximal stable configuration, as far as k. -/
def maxTo (n : Nat) (val : List Int) (q : Nat) (k : Nat) : List Int := (List.range n).map fun v => if v < k ∧ v ≠ q then val.getD v 0 - 1 else 0
def maxL (n : Nat) (es : List E3) (q : Nat) : List Int := maxTo n (valL n (endsL es)) q n
theorem maxTo_zero (n : Nat) (val : List Int) (q : Nat) : maxTo n val q 0 = List.replicate n 0 := by
  apply List.ext_getElem?
  intro i
  unfold maxTo
  by_cases hi : i < n
  · simp [hi]
  · simp [hi]
theorem maxTo_length (n : Nat) (val : List Int) (q k : Nat) : (maxTo n val q k).length = n := by simp [maxTo]
theorem maxTo_sink (n : Nat) (val : List Int) (q : Nat) : maxTo n val q (q + 1) = maxTo n val q q := by
  unfold maxTo
  apply List.map_congr_left
  intro v _
  by_cases h1 : v < q
  · rw [if_pos ⟨by omega, by omega⟩, if_pos ⟨h1, by omega⟩]
  · rw [if_neg (by omega), if_neg (by omega)]
theorem maxTo_succ (n : Nat) (val : List Int) (q k : Nat) (hk : k ≠ q) (x : Int) (hx : val[k]? = some x) : maxTo n val q (k + 1) = (maxTo n val q k).set k (x - 1) := by
  apply List.ext_getElem?
  intro i
  unfold maxTo
  by_cases hi : i < n
  · by_cases h : i = k
    · subst h
      rw [List.getElem?_set_self (by simpa using hi)]
      simp [hi, hk, hx]
    · rw [List.getElem?_set_ne (fun e => h e.symm)]
      simp only [List.getElem?_map, List.getElem?_range hi, Option.map_some]
      by_cases h2 : i < k ∧ i ≠ q
      · rw [if_pos h2, if_pos ⟨by omega, h2.2⟩]
      · rw [if_neg h2, if_neg (by omega)]
  · rw [List.getElem?_eq_none (by simp; omega), List.getElem?_eq_none (by simp; omega)]

set_option maxRecDepth 100000 in
set_option maxHeartbeats 4000000 in
theorem maximal_bad (n : Int) (A : Option Addr) (c : Nat) (es : List E3) (hlen : es.length ≤ 10000) (q : Int) (x : Int) (hx : rootErr n es q = x) (hx0 : (x == 0) = false) (w : World) (h : Reads w w.heap.size 3 A es.length (edgeCells es)) :
    Calls Tryz.prog 81 #[.agg #[.int .i64 n, .slice A es.length c], .int .i64 q] w fun e w' => e = .returned (.tuple #[.slice none 0 0, .int .i64 x]) ∧ Below w.heap.size w w' := by
  have RT := rooted_any n A c es (by omega) q
  rw [hx] at RT
  have RT := Lib.hid RT
  have g0 := Blk.new w 24 #[.int .i64 n, .slice A es.length c]
  have c0 := g0.cell 0
  have c1 := g0.cell 1
  have hx1 : (x != 0) = true := by simpa [bne] using hx0
  clear hx
  go_enter Tryz.func81, Tryz.ntmps81
  go_wp2_with fail
  refine (RT.out _ ((h.alloc (Nat.le_refl _) _).more (by simp))).mono ?_
  rintro e w1 ⟨rfl, hb1⟩
  have hB1 : Below w.heap.size w w1 := ((Below.refl _ _).alloc (Nat.le_refl _) _).trans (hb1.mono (by simp))
  go_wp2
  go_ret2
  exact ⟨rfl, hB1⟩

set_option maxRecDepth 100000 in
set_option maxHeartbeats 8000000 in
theorem maximal_ok (n : Nat) (A : Option Addr) (c : Nat) (es : List E3) (hlen : es.length ≤ 10000) (q : Nat) (hx : rootErr n es q = 0) (w : World) (h : Reads w w.heap.size 3 A es.length (edgeCells es)) :
    Calls Tryz.prog 81 #[.agg #[.int .i64 n, .slice A es.length c], .int .i64 q] w fun e w' => ∃ Am cm, e = .returned (.tuple #[.slice Am n cm, .int .i64 0]) ∧ OwnI w' w.heap.size Am cm (maxL n es q) ∧ Below w.heap.size w w' := by
  have RT := rooted_any n A c es (by omega) q
  rw [hx] at RT
  have RT := Lib.hid RT
  have hz : checkG n es = 0 ∧ q < n := by
    rcases root_cases n es q with ⟨h1, h2⟩ | ⟨_, _, h2⟩ | ⟨_, _, _, h2⟩ | ⟨h1, _, h2, _⟩
    · rw [hx] at h2; exact absurd h2.symm h1
    · rw [hx] at h2; cases h2
    · rw [hx] at h2; cases h2
    · exact ⟨h1, by have := vertB_true.1 h2; omega⟩
  obtain ⟨hz, hq⟩ := hz
  have hR := right_of hz
  have hn : n ≤ 12 := by have := hR.hi; omega
  have hn0 : 1 ≤ n := by have := hR.lo; omega
  have g0 := Blk.new w 24 #[.int .i64 n, .slice A es.length c]
  have c0 := g0.cell 0
  have c1 := g0.cell 1
  have hmi := make_ints n (by omega)
  have hmd := make_div n (by omega)
  have hel := endsL_length hR.ok
  have PO := pileOf_any n hn hn0 A c es hlen hz hR.ok q
  have PO := Lib.hid (fun (B : Option Addr) (cB : Nat) => PO B cB (List.replicate n 0) (by simp))
  simp only [List.length_replicate] at PO
  clear hx hR hz
  go_enter Tryz.func81, Tryz.ntmps81
  go_wp2_with fail
  refine (RT.out _ ((h.alloc (Nat.le_refl _) _).more (by simp))).mono ?_
  rintro e w1 ⟨rfl, hb1⟩
  have hB1 : Below w.heap.size w w1 := ((Below.refl _ _).alloc (Nat.le_refl _) _).trans (hb1.mono (by simp))
  have g1 := g0.next hb1
  have hs1 := hB1.size
  have d0 := g1.cell 0
  have d1 := g1.cell 1
  have h3 : Reads (w1.alloc (.cells (ints (List.replicate n 0)).toArray 3)).drew (w1.alloc (.cells (ints (List.replicate n 0)).toArray 3)).drew.heap.size 3 A es.length (edgeCells es) := (((h.below hB1).more hs1).alloc (Nat.le_refl _) (.cells (ints (List.replicate n 0)).toArray 3)).drew.more (by simp [World.drew])
  have hbl : Reads (w1.alloc (.cells (ints (List.replicate n 0)).toArray 3)).drew (w1.alloc (.cells (ints (List.replicate n 0)).toArray 3)).drew.heap.size 1 (some ⟨w1.heap.size, 0, none⟩) n (ints (List.replicate n 0)) := ⟨by simp [ints], fun _ => ⟨w1.heap.size, 0, rfl, by simp [World.drew], fun j v hv => by
    have hb : Blk (w1.alloc (.cells (ints (List.replicate n 0)).toArray 3)).drew w1.heap.size 3 (ints (List.replicate n 0)).toArray := (Blk.new w1 _ _).drew
    rw [Nat.zero_add, hb.cell j, List.getElem?_toArray]
    exact hv⟩⟩
  clear g0 c0 c1 RT hb1
  go_wp2
  go_region_held3 (fun W => W.cell? ⟨w.heap.size, 0, none⟩ = some (.int .i64 n) ∧ W.cell? ⟨w.heap.size, 1, none⟩ = some (.slice A es.length c)) (go_keep)
    (first | (go_at_call 114; refine (PO.out _ _ _ (by exact h3) (by exact hbl)).mono ?_; rintro e w5 ⟨bp, a, rfl, P5, hb5⟩; have g5 := ((g1.alloc (.cells (ints (List.replicate n 0)).toArray 3)).drew).next hb5; have k0 := g5.cell 0; have k1 := g5.cell 1))
  all_goals
    have hB5 : Below w.heap.size w w5 := (hB1.alloc hs1 (.cells (ints (List.replicate n 0)).toArray 3)).drew.trans (hb5.mono (by simp [World.drew]; omega))
    have hs5 := hB5.size
    have P6 := P5.alloc (.cells (ints (List.replicate n 0)).toArray 3)
    have p3 := P6.c3
    have O6 := Blk.new w5 3 (ints (List.replicate n 0)).toArray
    have V6 := P6.vv
    have hbV := valL_bd n (endsL es)
    have hne : a.bv ≠ w5.heap.size := Nat.ne_of_lt P5.vv.lt
    have hB6 := hB5.alloc hs5 (.cells (ints (List.replicate n 0)).toArray 3)
    obtain ⟨val, hval⟩ : ∃ val, valL n (endsL es) = val := ⟨_, rfl⟩
    rw [hval] at V6 hbV
    have HVAL := Lib.hid hval
    have HBV := Lib.hid hbV
    clear hval hbV P5 P6 h3 hbl hb5 g1 d0 d1 hB1 PO
    go_wp2_with fail
    go_loopw [10, 11, 38] (fun _ _ i wl => ∃ v : Nat, v ≤ n ∧ i = .int .i64 v ∧ Blk wl w5.heap.size 3 (intCells (maxTo n val q v)) ∧ Blk wl a.bv 3 (intCells val) ∧ Below w.heap.size w wl) (fun _ _ i _ => n - (intOf i).toNat)
    case atStart => exact ⟨0, by omega, rfl, by rw [maxTo_zero]; exact O6, V6, hB6⟩
    case round =>
      obtain ⟨v, hv, rfl, O7, V7, hB7⟩ := hrel
      clear O6 V6 hB6
      by_cases hlv : v < n
      · have hi : (v : Int) < (n : Int) := by omega
        obtain ⟨x, hx⟩ := get_of_lt (xs := val) (k := v) (by rw [HBV.out.1]; exact hlv)
        have hxb := HBV.out.2 x (List.mem_of_getElem? hx)
        have hxl : x ≤ 1000000 := by omega
        have cv := (V7.cell v).trans (intCells_get hx)
        by_cases hvq : v = q
        · have hne2 : ((v : Int) != (q : Int)) = false := by simp [hvq]
          subst hvq
          have hms := maxTo_sink n val v
          clear hx
          go_wp2
          go_roundw
          case rel => exact ⟨v + 1, by omega, by go_num, by rw [hms]; exact O7, V7, hB7⟩
          case measure => simp [intOf]; omega
        · have hne2 : ((v : Int) != (q : Int)) = true := by rw [bne_iff_ne]; omega
          have hms := Lib.hid (maxTo_succ n val q v hvq x hx)
          obtain ⟨y, hy⟩ := get_of_lt (xs := maxTo n val q v) (k := v) (by rw [maxTo_length]; exact hlv)
          have co := (O7.cell v).trans (intCells_get hy)
          have cf := O7.frozen v
          have O8 := O7.set_ v (.int .i64 (x - 1))
          rw [intCells_set, ← hms.out] at O8
          clear hx hy
          go_wp2
          go_roundw
          case rel => exact ⟨v + 1, by omega, by go_num, O8, V7.far hne _, hB7.setCell hs5 _⟩
          case measure => simp [intOf]; omega
      · obtain rfl : v = n := by omega
        go_wp2
        go_ret2
        refine ⟨_, _, rfl, ?_, hB7⟩
        have hl := maxTo_length v val q v
        have := OwnI.of_blk O7 hs5 (by rw [hl]; simp [maxLen]; omega)
        rw [hl] at this
        unfold maxL
        rw [HVAL.out]
        exact this
end Go.Proofs.YtghigdcpinengaaGreat

