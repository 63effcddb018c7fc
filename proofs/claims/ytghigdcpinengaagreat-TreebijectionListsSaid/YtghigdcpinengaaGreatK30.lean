/-
  Texts of this claim, put together: LeastP, PileL, SFire, SNext, Settle, Stab, RSettled, FireE, SupP.
-/
import Derived.Test.YtghigdcpinengaaGreatK29
import Derived.Test.YtghigdcpinengaaGreatK27
import Derived.Test.YtghigdcpinengaaGreatK26
import Derived.Test.YtghigdcpinengaaGreatK28
import Derived.Deep.RegionHeld3
import Derived.Test.YtghigdcpinengaaGreatK21
import Derived.Test.YtghigdcpinengaaGreatK22
import Derived.Test.YtghigdcpinengaaGreatK03
import Derived.Test.YtghigdcpinengaaGreatK24
import Derived.Test.YtghigdcpinengaaGreatK25
import Derived.Test.YtghigdcpinengaaGreatK23
/-! Plain laws of stabilization: legal firings, their order does not matter. No program is in sight. -/
namespace Go.Proofs.YtghigdcpinengaaGreat

/-- How many single edges lead from a vertex to others. -/
def valS (es : List (Int × Int × Int)) (n v : Nat) : Int := sumTo (fun w => tt es v w) n
/-- A vertex fires some times. -/
def fireD (es : List (Int × Int × Int)) (n : Nat) (d : List Int) (v : Nat) (k : Int) : List Int := (List.range n).map fun u => d.getD u 0 + k * tt es v u - if u = v then k * valS es n v else 0
def runD (es : List (Int × Int × Int)) (n : Nat) (d : List Int) (l : List Nat) : List Int := l.foldl (fun d v => fireD es n d v 1) d
def CalmD (es : List (Int × Int × Int)) (n q : Nat) (d : List Int) : Prop := ∀ v, v < n → v ≠ q → d.getD v 0 < valS es n v
/-- Legal firings. -/
inductive Leg (es : List (Int × Int × Int)) (n q : Nat) (d : List Int) : List Nat → Prop
  | nil : Leg es n q d []
  | snoc {l : List Nat} {v : Nat} : Leg es n q d l → v < n → v ≠ q → valS es n v ≤ (runD es n d l).getD v 0 → Leg es n q d (l ++ [v])

theorem sumTo_at (g : Nat → Int) (v : Nat) : ∀ n, sumTo (fun i => if i = v then g i else 0) n = if v < n then g v else 0
  | 0 => by simp [sumTo]
  | n + 1 => by
    rw [sumTo, sumTo_at g v n]
    by_cases h : n = v
    · subst h; simp
    · rw [if_neg h]
      by_cases h2 : v < n
      · rw [if_pos h2, if_pos (by omega)]; omega
      · rw [if_neg h2, if_neg (by omega)]; rfl
section
variable {es : List (Int × Int × Int)} {n q : Nat} {d : List Int} {l : List Nat} {v u : Nat} {k : Int}
theorem fireD_length : (fireD es n d v k).length = n := by simp [fireD]
theorem fireD_get (hu : u < n) : (fireD es n d v k).getD u 0 = d.getD u 0 + k * tt es v u - if u = v then k * valS es n v else 0 := by
  rw [List.getD_eq_getElem?_getD]; simp [fireD, hu]
theorem runD_snoc : runD es n d (l ++ [v]) = fireD es n (runD es n d l) v 1 := by simp [runD, List.foldl_append]
theorem runD_length (hd : d.length = n) : (runD es n d l).length = n := by
  induction l using snocRec with
  | h0 => exact hd
  | h1 l x ih => rw [runD_snoc, fireD_length]
theorem count_snoc (l : List Nat) (x w : Nat) : ((l ++ [x]).count w : Int) = l.count w + if w = x then 1 else 0 := by
  rw [List.count_append]
  by_cases h : w = x
  · subst h; simp
  · rw [if_neg h, List.count_eq_zero_of_not_mem (l := [x]) (by simpa using h)]; simp
theorem runD_get (hl : ∀ x ∈ l, x < n) (hu : u < n) : (runD es n d l).getD u 0 = d.getD u 0 + sumTo (fun w => (l.count w : Int) * tt es w u) n - l.count u * valS es n u := by
  induction l using snocRec with
  | h0 => simp [runD, sumTo_zero]
  | h1 l x ih =>
    have hx : x < n := hl x (by simp)
    rw [runD_snoc, fireD_get hu, ih fun y hy => hl y (by simp [hy])]
    have e1 : sumTo (fun w => ((l ++ [x]).count w : Int) * tt es w u) n = sumTo (fun w => (l.count w : Int) * tt es w u) n + tt es x u := by
      rw [sumTo_congr (g := fun w => (l.count w : Int) * tt es w u + if w = x then tt es w u else 0) fun w _ => ?_, sumTo_add, sumTo_at (fun w => tt es w u) x n, if_pos hx]
      rw [count_snoc, Int.add_mul]
      congr 1
      split <;> simp
    rw [e1, count_snoc]
    by_cases h : u = x
    · subst h; rw [if_pos rfl, if_pos rfl, Int.add_mul]; simp; omega
    · rw [if_neg h, if_neg h]; simp; omega
theorem Leg.lt (h : Leg es n q d l) : ∀ x ∈ l, x < n ∧ x ≠ q := by
  induction h with
  | nil => intro x hx; simp at hx
  | snoc h1 h2 h3 h4 ih =>
    intro x hx
    rcases List.mem_append.1 hx with hx | hx
    · exact ih x hx
    · rw [List.mem_singleton.1 hx]; exact ⟨h2, h3⟩
/-- The least script: legal firings are no more than those of any that leave a stable configuration. -/
theorem Leg.least (he : ∀ a b, 0 ≤ tt es a b) (h : Leg es n q d l) {m : List Nat} (hm : ∀ x ∈ m, x < n) (hc : CalmD es n q (runD es n d m)) : ∀ v, l.count v ≤ m.count v := by
  induction h with
  | nil => intro v; simp
  | @snoc l v h1 h2 h3 h4 ih =>
    intro u
    have hs := count_snoc l v u
    by_cases huv : u = v
    · subst huv
      rw [if_pos rfl] at hs
      have h5 := hc u h2 h3
      rw [runD_get hm h2] at h5
      rw [runD_get (fun x hx => (h1.lt x hx).1) h2] at h4
      have h6 : sumTo (fun w => (l.count w : Int) * tt es w u) n ≤ sumTo (fun w => (m.count w : Int) * tt es w u) n := sumTo_le fun w _ => Int.mul_le_mul_of_nonneg_right (by have := ih w; omega) (he w u)
      have h7 := ih u
      by_cases h8 : l.count u = m.count u
      · rw [h8] at h4; omega
      · omega
    · rw [if_neg huv] at hs
      have := ih u
      omega
/-- A vertex fires as often as is legal at once. -/
theorem fireD_add (j : Int) : fireD es n (fireD es n d v k) v j = fireD es n d v (k + j) := by
  unfold fireD
  apply List.map_congr_left
  intro u hu
  have hu := List.mem_range.1 hu
  have := fireD_get (es := es) (d := d) (v := v) (k := k) hu
  unfold fireD at this
  rw [this, Int.add_mul, Int.add_mul]
  split <;> omega
theorem Leg.times (he : ∀ a, tt es a a = 0) (hd : d.length = n) (h : Leg es n q d l) (hv : v < n) (hq : v ≠ q) (hp : 0 ≤ valS es n v) : ∀ t : Nat, (t : Int) * valS es n v ≤ (runD es n d l).getD v 0 → Leg es n q d (l ++ List.replicate t v) ∧ runD es n d (l ++ List.replicate t v) = fireD es n (runD es n d l) v t
  | 0, _ => by
    refine ⟨by simpa using h, ?_⟩
    rw [List.replicate_zero, List.append_nil]
    apply List.ext_getElem (by rw [runD_length hd, fireD_length])
    intro i h1 h2
    rw [runD_length hd] at h1
    have e2 := fireD_get (es := es) (d := runD es n d l) (v := v) (k := 0) h1
    simp only [Int.zero_mul, ite_self, Int.sub_zero, Int.add_zero] at e2
    rw [List.getD_eq_getElem?_getD, List.getD_eq_getElem?_getD, List.getElem?_eq_getElem (by rw [fireD_length]; exact h1), List.getElem?_eq_getElem (by rw [runD_length hd]; exact h1)] at e2
    simpa using e2.symm
  | t + 1, ht => by
    have e : ((t + 1 : Nat) : Int) * valS es n v = t * valS es n v + valS es n v := by rw [Int.natCast_add, Int.add_mul]; simp
    rw [e] at ht
    obtain ⟨h1, h2⟩ := Leg.times he hd h hv hq hp t (by omega)
    have h3 : l ++ List.replicate (t + 1) v = (l ++ List.replicate t v) ++ [v] := by rw [List.replicate_succ', List.append_assoc]
    rw [h3]
    refine ⟨.snoc h1 hv hq ?_, ?_⟩
    · rw [h2, fireD_get hv, if_pos rfl, he v]; omega
    · rw [runD_snoc, h2, fireD_add 1]; rfl
theorem Leg.sink (he : ∀ a b, 0 ≤ tt es a b) (h : Leg es n q d l) (hq : q < n) : d.getD q 0 ≤ (runD es n d l).getD q 0 := by
  induction h with
  | nil => exact Int.le_refl _
  | @snoc l v h1 h2 h3 h4 ih =>
    rw [runD_snoc, fireD_get hq, if_neg (fun e => h3 e.symm)]
    have := he v q
    omega
end
end Go.Proofs.YtghigdcpinengaaGreat

/-! Plain: the table of a pile holds the single edges, its valences are the valences. -/
namespace Go.Proofs.YtghigdcpinengaaGreat
open Go.RowKit

theorem incE_get (xs : List Int) (i v : Nat) : (incE xs i).getD v 0 = xs.getD v 0 + if v = i ∧ i < xs.length then 1 else 0 := by
  unfold incE
  simp only [List.getD_eq_getElem?_getD, List.getElem?_set]
  by_cases h : i = v
  · subst h
    by_cases h2 : i < xs.length
    · simp [h2]
    · simp [h2]
  · rw [if_neg h, if_neg (fun e => h e.1.symm), Int.add_zero]
def indV (v : Nat) (p : Nat × Nat) : Int := if p.1 ≠ p.2 ∧ (p.1 = v ∨ p.2 = v) then 1 else 0
theorem valL_at {n v : Nat} (ps : List (Nat × Nat)) : (∀ p ∈ ps, p.1 < n ∧ p.2 < n) → (valL n ps).getD v 0 = (ps.map (indV v)).sum := by
  induction ps using snocRec with
  | h0 =>
    intro _
    unfold valL
    rw [List.foldl_nil, List.getD_eq_getElem?_getD, List.getElem?_replicate]
    split <;> simp
  | h1 ps p ih =>
    intro h
    obtain ⟨h1, h2⟩ := h p (by simp)
    have hl := (valL_bd n ps).1
    have e : valL n (ps ++ [p]) = edgeV (valL n ps) p := by simp [valL, List.foldl_append]
    rw [e, List.map_append, List.sum_append, ← ih fun x hx => h x (by simp [hx])]
    unfold edgeV indV
    simp only [List.map_cons, List.map_nil, List.sum_cons, List.sum_nil, Int.add_zero]
    by_cases hp : p.1 = p.2
    · rw [if_pos hp, if_neg (fun e => e.1 hp)]; omega
    · rw [if_neg hp, incE_get, incE_get, incE_length]
      split <;> split <;> split <;> omega
theorem sum_rep (m : Nat) (x : Int) : (List.replicate m x).sum = m * x := by
  induction m with
  | zero => simp
  | succ m ih => rw [List.replicate_succ, List.sum_cons, ih, Int.natCast_add, Int.add_mul]; omega
theorem ends_sum {n : Nat} {es : List E3} (hok : ∀ e ∈ es, okE n e) (g : Nat × Nat → Int) : ((endsL es).map g).sum = (es.map fun e => e.2.2 * g (e.1.toNat, e.2.1.toNat)).sum := by
  induction es with
  | nil => rfl
  | cons e es ih =>
    have h := hok e (by simp)
    unfold okE at h
    have e1 : endsL (e :: es) = List.replicate e.2.2.toNat (e.1.toNat, e.2.1.toNat) ++ endsL es := by simp [endsL]
    rw [e1, List.map_append, List.sum_append, ih fun x hx => hok x (by simp [hx]), List.map_replicate, sum_rep, List.map_cons, List.sum_cons, Int.toNat_of_nonneg (by omega)]
theorem valL_val {n v : Nat} {es : List E3} (hok : ∀ e ∈ es, okE n e) : (valL n (endsL es)).getD v 0 = valE es v := by
  rw [valL_at _ (endsL_ok hok), ends_sum hok]
  unfold valE
  congr 1
  apply List.map_congr_left
  intro e he
  have h := hok e he
  unfold okE at h
  unfold indV valT
  dsimp only
  by_cases hc : e.1 ≠ e.2.1 ∧ (e.1 = v ∨ e.2.1 = v)
  · rw [if_pos hc, if_pos (by omega)]; omega
  · rw [if_neg hc, if_neg (by omega)]; omega
theorem valE_valS {n v : Nat} {es : List E3} (hG : RightG n es) : valE es v = valS es n v := by
  rw [valE_jn (n := n) hG.ok, jnE_flm hG]
  unfold valS
  have : ∀ k, k ≤ n → flmTo es (List.range n) v k = sumTo (fun w => tt es v w) k := by
    intro k hk
    induction k with
    | zero => rfl
    | succ k ih => simp only [flmTo, sumTo]; rw [ih (by omega), if_pos (List.mem_range.2 (by omega))]
  exact this n (Nat.le_refl _)
/-- In a connected graph each vertex has neighbours. -/
theorem conn_edge {v : Nat} {es : List E3} {c : Nat} (h : Conn es v c) : c = v ∨ ∃ e ∈ es, e.1 ≠ e.2.1 ∧ (e.1 = v ∨ e.2.1 = v) := by
  induction h with
  | refl => exact .inl rfl
  | @step b c _ hbc ih =>
    rcases ih with rfl | ih
    · obtain ⟨e, he, h⟩ := hbc
      by_cases hcb : c = b
      · exact .inl hcb
      · exact .inr ⟨e, he, by omega, by omega⟩
    · exact .inr ih
theorem valE_mem {n : Int} {es : List E3} (hok : ∀ e ∈ es, okE n e) {v : Int} {e : E3} (he : e ∈ es) (hne : e.1 ≠ e.2.1) (hv : e.1 = v ∨ e.2.1 = v) : 1 ≤ valE es v := by
  induction es with
  | nil => cases he
  | cons x es ih =>
    have h1 := valE_bd (fun y hy => hok y (List.mem_cons_of_mem _ hy)) v
    have h2 := valT_bd (hok x (by simp)) v
    have e1 : valE (x :: es) v = valT v x + valE es v := by simp [valE]
    rw [e1]
    rcases List.mem_cons.1 he with rfl | he
    · have h3 := hok e (by simp)
      unfold okE at h3
      unfold valT
      rw [if_pos ⟨hne, hv⟩]
      omega
    · have := ih (fun y hy => hok y (List.mem_cons_of_mem _ hy)) he
      omega
theorem val_pos {n v q : Nat} {es : List E3} (hG : RightG n es) (hC : AllConn n es) (hv : v < n) (hq : q < n) (hvq : v ≠ q) : 1 ≤ valE es v := by
  rcases conn_edge ((hC v hv).symm.trans (hC q hq)) with h | ⟨e, he, h1, h2⟩
  · exact absurd h.symm hvq
  · exact valE_mem hG.ok he h1 h2
theorem root_zero {n q : Nat} {es : List E3} (hx : rootErr n es q = 0) : checkG n es = 0 ∧ RightG n es ∧ AllConn n es ∧ q < n := by
  rcases root_cases n es q with ⟨h1, h2⟩ | ⟨_, _, h2⟩ | ⟨_, _, _, h2⟩ | ⟨h1, h2, h3, _⟩
  · rw [hx] at h2; exact absurd h2.symm h1
  · rw [hx] at h2; cases h2
  · rw [hx] at h2; cases h2
  · have hG := right_of h1
    rw [Int.toNat_natCast] at h2
    have := vertB_true.1 h3
    exact ⟨h1, hG, (connB_iff hG).1 h2, by omega⟩
end Go.Proofs.YtghigdcpinengaaGreat

/-! Package stabilize: next, fire. -/
namespace Go.Proofs.YtghigdcpinengaaGreat
open Go.RowKit

end Go.Proofs.YtghigdcpinengaaGreat

/-! Package stabilize: next: the least vertex that waits. -/
namespace Go.Proofs.YtghigdcpinengaaGreat
open Go.RowKit

/-- The first place with true from k places on, or -1. -/
def firstT (ws : List Bool) : Int := match (List.range ws.length).find? fun v => ws.getD v false with
  | some v => v
  | none => -1
theorem firstT_some {ws : List Bool} {k : Nat} (hk : k < ws.length) (h : ws[k]? = some true) (hl : ∀ j, j < k → ws.getD j false = false) : firstT ws = k := by
  unfold firstT
  have : (List.range ws.length).find? (fun v => ws.getD v false) = some k := by
    rw [List.find?_range_eq_some]
    refine ⟨by rw [List.getD_eq_getElem?_getD, h]; rfl, by simpa using hk, fun j hj => ?_⟩
    rw [hl j hj]; rfl
  rw [this]
theorem firstT_none {ws : List Bool} (h : ∀ j, j < ws.length → ws.getD j false = false) : firstT ws = -1 := by
  unfold firstT
  have : (List.range ws.length).find? (fun v => ws.getD v false) = none := by
    rw [List.find?_eq_none]
    intro x hx
    rw [h x (List.mem_range.1 hx)]
    simp
  rw [this]
set_option maxHeartbeats 2000000 in
theorem indexB_any (g o c : Nat) (ws : List Bool) (w : World) (hl : ws.length ≤ 1048576) (h : ∀ k b, ws[k]? = some b → w.cell? ⟨g, o + k, none⟩ = some (.bool b)) :
    Calls Tryz.prog 145 #[.slice (some ⟨g, o, none⟩) ws.length c, .bool true] w fun e w' => e = .returned (.int .i64 (firstT ws)) ∧ w' = w := by
  have HC := Lib.hid h
  clear h
  go_enter Tryz.func145, Tryz.ntmps145
  go_wp2_with fail
  go_loop [5, 8] (fun _ i => ∃ k : Nat, i = .int .i64 k ∧ k ≤ ws.length ∧ Hid (∀ j, j < k → ws.getD j false = false)) (fun _ i => ws.length - (intOf i).toNat)
  case atStart => exact ⟨0, rfl, by omega, fun j hj => by omega⟩
  case round =>
    obtain ⟨k, rfl, hk, HN⟩ := hrel
    by_cases hlt : k < ws.length
    · obtain ⟨b, hb⟩ := get_of_lt hlt
      have hi : (k : Int) < (ws.length : Int) := by omega
      have c0 := HC.out k b hb
      have HB := Lib.hid hb
      clear hb
      cases b
      · go_wp2
        go_round
        case rel => exact ⟨k + 1, by go_num, by omega, fun j hj => by
          by_cases e : j = k
          · subst e; rw [List.getD_eq_getElem?_getD, HB.out]; rfl
          · exact HN.out j (by omega)⟩
        case measure => simp [intOf]; omega
      · go_wp2
        go_ret
        exact ⟨ret_int (firstT_some hlt HB.out HN.out).symm, rfl⟩
    · obtain rfl : k = ws.length := by omega
      go_wp2
      go_ret
      exact ⟨ret_int (firstT_none HN.out).symm, rfl⟩

set_option maxHeartbeats 2000000 in
theorem pnext_any (base bp n : Nat) (a : PA) (d : List Int) (q : Int) (rows : List (List Int)) (val fired : List Int) (total : Int) (ws : List Bool) (w : World) (h : PileW w base bp n a d q rows val fired total ws) :
    Calls Tryz.prog 121 #[.pointer (some ⟨bp, 0, none⟩)] w fun e w' => e = .returned (.int .i64 (firstT ws)) ∧ w' = w := by
  have hwl := h.wl
  have IB := Lib.hid (indexB_any bp 6 12 ws w (by omega) (fun k b hb => (h.blk.cell (6 + k)).trans (by rw [Nat.add_comm]; simp [pileCells, hb])))
  rw [hwl] at IB
  clear h
  go_enter Tryz.func121, Tryz.ntmps121
  go_wp2_with fail
  refine (IB.out).mono ?_
  rintro e w' ⟨rfl, rfl⟩
  go_wp2
  go_ret
  exact ⟨rfl, rfl⟩
end Go.Proofs.YtghigdcpinengaaGreat

/-! Package stabilize: settle, settled, given, Stabilize. -/
namespace Go.Proofs.YtghigdcpinengaaGreat
open Go.RowKit

section
variable {n q : Nat} {es : List E3}
end
/-- What stabilization needs of its configuration. -/
structure SArgs (n q : Nat) (es : List E3) (d : List Int) : Prop where
  hlen : es.length ≤ 10000
  hz : checkG n es = 0
  hC : AllConn n es
  hq : q < n
  dl : d.length = n
  db : ∀ v, v < n → -1048576 ≤ d.getD v 0 ∧ d.getD v 0 ≤ 1048576
  d0 : ∀ v, v < n → v ≠ q → 0 ≤ d.getD v 0

end Go.Proofs.YtghigdcpinengaaGreat

/-! Package stabilize: settled, given, Stabilize. -/
namespace Go.Proofs.YtghigdcpinengaaGreat
open Go.RowKit

theorem conf_sargs {n q : Nat} {es : List E3} {d : List Int} (hlen : es.length ≤ 10000) (hc : confErr n es q d = 0) : SArgs n q es d := by
  obtain ⟨hG, hC, _, hqn, hl, hb, hnn⟩ := conf_zero hc
  have hck : checkG n es = 0 := by
    rcases conf_cases n es q d with ⟨h1, hE⟩ | ⟨h1, h2, hE⟩ | ⟨h1, h2, hE⟩
    · exact absurd (hE ▸ hc) h1
    · exact absurd (hE ▸ hc) h2
    · exact (root_zero h1).1
  rw [Int.toNat_natCast] at hC
  refine ⟨hlen, hck, hC, by omega, by omega, fun v hv => ?_, fun v hv hq => hnn v (by omega) (by omega)⟩
  obtain ⟨x, hx⟩ := get_of_lt (xs := d) (k := v) (by omega)
  rw [getD_at hx]
  exact hb x (List.mem_of_getElem? hx)
set_option maxRecDepth 100000 in
set_option maxHeartbeats 4000000 in
theorem given_ok (n : Nat) (A : Option Addr) (c : Nat) (es : List E3) (hlen : es.length ≤ 10000) (q : Nat) (B : Option Addr) (cB : Nat) (d : List Int) (hc : confErr n es q d = 0) (w : World)
    (h : Reads w w.heap.size 3 A es.length (edgeCells es)) (h' : Reads w w.heap.size 1 B d.length (ints d)) :
    Calls Tryz.prog 120 #[.agg #[.int .i64 n, .slice A es.length c], .int .i64 q, .slice B d.length cB] w fun e w' => ∃ bp a, e = .returned (.tuple #[.pointer (some ⟨bp, 0, none⟩), .int .i64 0]) ∧
      PileW w' w.heap.size bp n a d q (rowsL n (endsL es)) (valL n (endsL es)) (List.replicate n 0) 0 (waitL n q d (valL n (endsL es))) ∧ Below w.heap.size w w' := by
  have hS := conf_sargs hlen hc
  have hG := right_of hS.hz
  have hn12 : n ≤ 12 := by have := hG.hi; omega
  have hq := hS.hq
  have hdl := hS.dl
  have SC := Lib.hid (scheck_any n A c es (by omega) q B cB d (by omega))
  rw [hc] at SC
  have PO := Lib.hid (fun (W : World) (hB : Below w.heap.size w W) => pileOf_any n hn12 (by omega) A c es hlen hS.hz hG.ok q B cB d hS.dl W ((h.below hB).more hB.size) ((h'.below hB).more hB.size))
  have g0 := Blk.new w 24 #[.int .i64 n, .slice A es.length c]
  clear hS hG hc hdl
  go_enter Tryz.func120, Tryz.ntmps120
  go_wp2_with fail
  refine (SC.out _ ((h.alloc (Nat.le_refl _) _).more (by simp)) ((h'.alloc (Nat.le_refl _) _).more (by simp))).mono ?_
  rintro e w1 ⟨rfl, hb1⟩
  have hB1 : Below w.heap.size w w1 := ((Below.refl _ _).alloc (Nat.le_refl _) _).trans (hb1.mono (by simp))
  have g1 := g0.next hb1
  have c0 := g1.cell 0
  have c1 := g1.cell 1
  clear g0 hb1
  go_wp2_with fail
  refine (PO.out _ hB1).mono ?_
  rintro e w2 ⟨bp, a, rfl, hP, hb2⟩
  go_wp2
  go_ret2
  exact ⟨bp, a, rfl, hP.mono hB1.size, hB1.trans (hb2.mono hB1.size)⟩
end Go.Proofs.YtghigdcpinengaaGreat

/-! Package recurrent: settled. -/
namespace Go.Proofs.YtghigdcpinengaaGreat
open Go.RowKit

theorem conf_of {n q : Nat} {es : List E3} {d : List Int} (hx : rootErr n es q = 0) (hd : d.length = n) (hlo : ∀ x ∈ d, -1048576 ≤ x) (hhi : ∀ x ∈ d, x ≤ 1048576) (h0 : ∀ v, v < n → v ≠ q → 0 ≤ d.getD v 0) : confErr n es q d = 0 := by
  obtain ⟨_, hG, _, hq⟩ := root_zero hx
  have h1 := hG.lo
  have h2 := hG.hi
  unfold confErr
  rw [if_neg (by omega)]
  have hdv : divErr d n = 0 := by
    unfold divErr
    rw [if_neg (by omega), if_neg (by omega), if_pos]
    rw [List.all_eq_true]
    intro x hx
    exact chipB_true.2 ⟨hlo x hx, hhi x hx⟩
  rw [if_neg (by omega)]
  have hdb : debtTo d q d.length = false := by
    unfold debtTo
    rw [List.any_eq_false]
    intro v hv
    have hv := List.mem_range.1 hv
    by_cases hq : v = q
    · subst hq; simp
    · have := h0 v (by omega) hq
      rw [Bool.and_eq_true]
      rintro ⟨_, h⟩
      have := of_decide_eq_true h
      omega
  rw [hdb]
  rfl

end Go.Proofs.YtghigdcpinengaaGreat

/-! Fires over a graph: that all burns is that a configuration is superstable; the configuration of a tree is right, superstable and stable. -/
namespace Go.Proofs.YtghigdcpinengaaGreat
open Go.RowKit

def incP (v : Nat) (l : List Nat) (p : Nat × Nat) : Bool := decide (p.1 = v ∨ p.2 = v) && decide (oth p v ∈ l)
theorem degTo_filter (E : List (Nat × Nat)) (v : Nat) (l : List Nat) : degTo E v l = (E.filter (incP v l)).length := by
  have h1 : (List.range E.length).map (fun e => E.getD e (0, 0)) = E := by
    apply List.ext_getElem?
    intro i
    by_cases hi : i < E.length
    · simp [hi]
    · simp [hi]
  conv => rhs; rw [← h1, List.filter_map, List.length_map]
  unfold degTo
  rfl
theorem deg_one {n : Int} {e : E3} (h : okE n e) (v : Nat) {l : List Nat} (hv : v ∉ l) : (((List.replicate e.2.2.toNat (e.1.toNat, e.2.1.toNat)).filter (incP v l)).length : Int) = jnT l v e := by
  obtain ⟨a, b, k⟩ := e
  unfold okE at h
  dsimp only at h
  have hf : ∀ (k : Nat) (p : Nat × Nat), ((List.replicate k p).filter (incP v l)).length = if incP v l p = true then k else 0 := by
    intro k p
    induction k with
    | zero => simp
    | succ k ih =>
      rw [List.replicate_succ, List.filter_cons]
      by_cases hp : incP v l p = true
      · rw [if_pos hp] at ih ⊢
        rw [if_pos hp, List.length_cons, ih]
      · rw [if_neg hp] at ih ⊢
        rw [if_neg hp, ih]
  rw [hf]
  obtain ⟨a, rfl⟩ := Int.eq_ofNat_of_zero_le h.1
  obtain ⟨b, rfl⟩ := Int.eq_ofNat_of_zero_le (show 0 ≤ b by omega)
  unfold jnT incP oth
  dsimp only
  simp only [Int.toNat_natCast]
  by_cases ha : a = v
  · subst ha
    by_cases hb : b = a
    · subst hb; simp [hv]
    · have hb' : ¬ ((a : Int) = (b : Int)) := by omega
      by_cases hm : b ∈ l
      · simp [hm, hb']; omega
      · simp [hm, hb']; omega
  · by_cases hb : b = v
    · subst hb
      have hb' : ¬ ((a : Int) = (b : Int)) := by omega
      by_cases hm : a ∈ l
      · simp [hm, ha, hb']; omega
      · simp [hm, ha, hb']
    · have h1 : ¬ ((a : Int) = (v : Int)) := by omega
      have h2 : ¬ ((b : Int) = (v : Int)) := by omega
      simp [ha, hb, h1, h2]
theorem deg_jn {n : Int} {es : List E3} (h : ∀ e ∈ es, okE n e) (v : Nat) {l : List Nat} (hv : v ∉ l) : (degTo (endsL es) v l : Int) = jnE es l v := by
  rw [degTo_filter]
  induction es with
  | nil => rfl
  | cons e es ih =>
    have e1 : endsL (e :: es) = List.replicate e.2.2.toNat (e.1.toNat, e.2.1.toNat) ++ endsL es := rfl
    have e2 : jnE (e :: es) l v = jnT l v e + jnE es l v := by unfold jnE; rw [List.map_cons, List.sum_cons]
    rw [e1, List.filter_append, List.length_append, e2, ← ih (fun x hx => h x (by simp [hx])), ← deg_one (h e (by simp)) v hv]
    omega
theorem deg_joins {n : Nat} {es : List E3} (hG : RightG n es) {v : Nat} {l : List Nat} (hl : LOk n l) (hv : v ∉ l) : (degTo (endsL es) v l : Int) = joinsN es v l := by
  rw [deg_jn hG.ok v hv, jnE_flm hG, flm_joins l hl hv]
/-- All burns, in the words of chapter 23. -/
theorem fburns_iff {n q : Nat} {es : List E3} (hG : RightG n es) (hq : q < n) (cs : List Int) : restL n (burntL es cs n q) = [] ↔ BurnsAll (endsL es) n q cs := by
  have he : ∀ a b, 0 ≤ btw es a b := fun a b => (btw_bd hG.ok a b).1
  have hl0 : LOk n [q] := ⟨by simp, by simpa using hq⟩
  constructor
  · intro hr O hqO hnd hlt hcl v hv
    have h1 := burns_same (es := es) (c := cs) (n := n) (l := [q]) (l' := O) (by simpa using hqO) (fun u hu => by
      unfold catL
      by_cases hm : u ∈ O
      · simp [hm]
      · have := hcl u hu hm
        rw [deg_joins hG ⟨hnd, hlt⟩ hm] at this
        have h2 : ¬ cs.getD u 0 < joinsN es u O := by omega
        rw [decide_eq_false h2]; simp) ⟨hnd, hlt⟩ he n hl0
    refine h1 v (Classical.byContradiction fun hm => ?_)
    have : v ∈ restL n (burntL es cs n q) := mem_rest.2 ⟨hv, hm⟩
    rw [hr] at this; simp at this
  · intro h
    have hok : LOk n (burntL es cs n q) := burnL_ok n [q] hl0
    rw [List.eq_nil_iff_forall_not_mem]
    intro v hv
    obtain ⟨h1, h2⟩ := mem_rest.1 hv
    refine h2 (h (burntL es cs n q) ((burnL_pre n [q]).subset (by simp)) hok.1 hok.2 (fun u hu hm => ?_) v h1)
    have h3 := burnL_done (es := es) (c := cs) (n := n) (k := n) (l := [q]) hl0 (by simp) u hu
    rw [deg_joins hG hok hm]
    change catL es cs (burntL es cs n q) u = false at h3
    refine Classical.byContradiction fun h4 => ?_
    rw [catL_true.2 ⟨hm, by omega⟩] at h3; cases h3
theorem cfg_iff {n q : Nat} {es : List E3} {cs : List Int} : cfgErr n es q cs = 0 ↔ burnErr n es q cs = 0 ∧ BurnsAll (endsL es) n q cs := by
  constructor
  · intro h
    obtain ⟨h1, h2, _⟩ := cfg_zero h
    obtain ⟨hG, _, _, hq, _⟩ := conf_zero (burn_zero h1).1
    exact ⟨h1, (fburns_iff hG (by omega) cs).1 h2⟩
  · rintro ⟨h1, h2⟩
    obtain ⟨hG, _, _, hq, _⟩ := conf_zero (burn_zero h1).1
    have h3 := (fburns_iff hG (by omega) cs).2 h2
    unfold cfgErr superE
    rw [if_pos h1]
    simp [h3]
theorem jnE_mono {n : Int} {es : List E3} (h : ∀ e ∈ es, okE n e) {l m : List Nat} (hs : ∀ u ∈ l, u ∈ m) (v : Int) : jnE es l v ≤ jnE es m v := by
  induction es with
  | nil => exact Int.le_refl _
  | cons e es ih =>
    have e2 : ∀ l, jnE (e :: es) l v = jnT l v e + jnE es l v := fun l => by unfold jnE; rw [List.map_cons, List.sum_cons]
    rw [e2, e2]
    have h1 := ih fun x hx => h x (by simp [hx])
    have h2 : jnT l v e ≤ jnT m v e := by
      have hb := (jnT_bd (h e (by simp)) m v).1
      unfold jnT at hb ⊢
      by_cases hc : e.1 ≠ e.2.1 ∧ ((e.1 = v ∧ e.2.1.toNat ∈ l) ∨ (e.2.1 = v ∧ e.1.toNat ∈ l))
      · rw [if_pos hc, if_pos ⟨hc.1, hc.2.imp (fun x => ⟨x.1, hs _ x.2⟩) (fun x => ⟨x.1, hs _ x.2⟩)⟩]
        exact Int.le_refl _
      · rw [if_neg hc]; exact hb
    omega
/-- What burns all is stable. -/
theorem burns_stab {n q : Nat} {es : List E3} (hG : RightG n es) (hq : q < n) {cs : List Int} (h : BurnsAll (endsL es) n q cs) : stabTo es cs q n = true := by
  unfold stabTo
  rw [List.all_eq_true]
  intro v hv
  have hv := List.mem_range.1 hv
  rw [Bool.or_eq_true, decide_eq_true_eq, decide_eq_true_eq]
  by_cases hvq : v = q
  · exact .inl hvq
  · right
    refine Classical.byContradiction fun hc => ?_
    have hO : v ∉ (List.range n).filter fun u => !decide (u = v) := by simp
    refine hO (h _ (List.mem_filter.2 ⟨List.mem_range.2 hq, by simp; omega⟩) (List.nodup_range.sublist List.filter_sublist) (fun u hu => List.mem_range.1 (List.mem_filter.1 hu).1) (fun u hu hm => ?_) v hv)
    have : u = v := Classical.byContradiction fun hne => hm (List.mem_filter.2 ⟨List.mem_range.2 hu, by simp [hne]⟩)
    subst this
    rw [deg_jn hG.ok u hO]
    have h1 := jnE_mono hG.ok (l := (List.range n).filter fun x => !decide (x = u)) (m := List.range n) (fun x hx => (List.mem_filter.1 hx).1) (u : Int)
    rw [← valE_jn hG.ok] at h1
    omega
theorem root_of {n q : Nat} {es : List E3} (hj : joinErr n es = 0) (hq : q < n) : rootErr n es q = 0 := by
  obtain ⟨h1, _, h2⟩ := join_zero hj
  rcases root_cases n es q with ⟨a, _⟩ | ⟨_, a, _⟩ | ⟨_, _, a, _⟩ | ⟨_, _, _, a⟩
  · exact absurd h1 a
  · rw [a] at h2; cases h2
  · unfold vertB at a; simp at a; omega
  · exact a
theorem le_sum_of {l : List Int} (h : ∀ x ∈ l, 0 ≤ x) : ∀ x ∈ l, x ≤ l.sum := by
  induction l with
  | nil => simp
  | cons a l ih =>
    have h1 : 0 ≤ l.sum := by
      clear ih
      have : ∀ l : List Int, (∀ x ∈ l, 0 ≤ x) → 0 ≤ l.sum := by
        intro l
        induction l with
        | nil => intro _; exact Int.le_refl _
        | cons a l ih => intro h; rw [List.sum_cons]; have := h a (by simp); have := ih fun x hx => h x (by simp [hx]); omega
      exact this l fun x hx => h x (by simp [hx])
    intro x hx
    rw [List.sum_cons]
    have ha := h a (by simp)
    rcases List.mem_cons.1 hx with rfl | hx
    · omega
    · have := ih (fun x hx => h x (by simp [hx])) x hx; omega
theorem getD_mem {l : List Int} (h : ∀ v, 0 ≤ l.getD v 0) : ∀ x ∈ l, 0 ≤ x := by
  intro x hx
  obtain ⟨i, hi, rfl⟩ := List.mem_iff_getElem.1 hx
  have := h i
  rw [List.getD_eq_getElem?_getD, List.getElem?_eq_getElem hi] at this
  exact this
/-- The configuration of a tree is right. -/
theorem conf_right {m p : Nat} {es : List E3} {t : List Nat} (hj : joinErr m es = 0) (hG : RightG m es) (hp : p < m) (hm : (endsL es).length ≤ 1000) : burnErr m es p (confN (endsL es) m p t) = 0 := by
  obtain ⟨h1, h2, h3, h4⟩ := conf_facts (t := t) (bd_ends hG) hp
  have h5 := getD_mem h2
  have h6 := le_sum_of h5
  have hc := conf_of (root_of hj hp) h1 (fun x hx => by have := h5 x hx; omega) (fun x hx => by have := h6 x hx; omega) (fun v _ _ => h2 v)
  unfold burnErr
  rw [if_neg (fun h => h hc), Int.toNat_natCast, if_neg (fun h => h h3)]
theorem conf_cfg {m p : Nat} {es : List E3} {t : List Nat} (hj : joinErr m es = 0) (hR : TreeR m es t) (hp : p < m) (hm : (endsL es).length ≤ 1000) : cfgErr m es p (confN (endsL es) m p t) = 0 ∧ stabTo es (confN (endsL es) m p t) p m = true := by
  have hb := conf_burns (bd_ends hR.hG) hp hR.tr
  exact ⟨cfg_iff.2 ⟨conf_right hj hR.hG hp hm, hb⟩, burns_stab hR.hG hp hb⟩
end Go.Proofs.YtghigdcpinengaaGreat

/-! The superstable configurations, listed: what comes of the iterator; no vertex with 600 chips burns. -/
namespace Go.Proofs.YtghigdcpinengaaGreat
open Go.RowKit

def calmB (n : Nat) (es : List E3) (q : Nat) (c : List Int) : Bool := (superE n es q c).1 && decide ((superE n es q c).2 = 0)
/-- What comes: c begun, m vertices still to come. -/
def enumF (n q : Nat) (P : List Int → Bool) : Nat → List Int → List (List Int)
  | 0, c => [c]
  | m + 1, c => if n - (m + 1) = q then enumF n q P m c else ((List.range' 0 601).takeWhile fun j : Nat => P (c.set (n - (m + 1)) (j : Int))).flatMap fun j : Nat => enumF n q P m (c.set (n - (m + 1)) (j : Int))
def remF (n q : Nat) (P : List Int → Bool) (m : Nat) (c : List Int) (v s : Nat) : List (List Int) :=
  ((List.range' s (601 - s)).takeWhile fun j : Nat => P (c.set v (j : Int))).flatMap fun j : Nat => enumF n q P m (c.set v (j : Int))
theorem enumF_sink {n q : Nat} {P : List Int → Bool} {m v : Nat} {c : List Int} (hv : v + (m + 1) = n) (hq : v = q) : enumF n q P (m + 1) c = enumF n q P m c := by
  rw [enumF, if_pos (by omega)]
theorem enumF_succ {n q : Nat} {P : List Int → Bool} {m v : Nat} {c : List Int} (hv : v + (m + 1) = n) (hq : v ≠ q) : enumF n q P (m + 1) c = remF n q P m c v 0 := by
  rw [enumF, if_neg (by omega), show n - (m + 1) = v by omega]; rfl
theorem remF_stop {n q : Nat} {P : List Int → Bool} {m v s : Nat} {c : List Int} (hs : s < 601) (h : P (c.set v (s : Int)) = false) : remF n q P m c v s = [] := by
  unfold remF
  rw [show 601 - s = (601 - (s + 1)) + 1 by omega, List.range'_succ, List.takeWhile_cons, h]
  rfl
theorem remF_step {n q : Nat} {P : List Int → Bool} {m v s : Nat} {c : List Int} (hs : s < 601) (h : P (c.set v (s : Int)) = true) : remF n q P m c v s = enumF n q P m (c.set v (s : Int)) ++ remF n q P m c v (s + 1) := by
  unfold remF
  rw [show 601 - s = (601 - (s + 1)) + 1 by omega, List.range'_succ, List.takeWhile_cons, h]
  rfl
/-- A vertex with 600 chips is never burnt. -/
theorem big_unburnt {es : List E3} {c : List Int} {n v : Nat} (hok : ∀ e ∈ es, okE n e) (hn : n ≤ 12) (hc : 600 ≤ c.getD v 0) (k : Nat) : ∀ l, LOk n l → v ∉ l → v ∉ burnL es c n k l := by
  induction k with
  | zero => intro l _ hv; simpa [burnL] using hv
  | succ k ih =>
    intro l hl hv
    cases h : (readyL es c n l).head? with
    | none => rw [burnL_stop h]; exact hv
    | some u =>
      rw [burnL_step h]
      obtain ⟨h1, h2, h3⟩ := head_ready h
      refine ih _ (hl.snoc h2 h1) ?_
      intro hm
      rcases List.mem_append.1 hm with hm | hm
      · exact hv hm
      · rw [List.mem_singleton] at hm
        subst hm
        have h4 := flm_joins (es := es) l hl h2
        have h5 := (flmTo_bd hok l v n).2
        omega
theorem calm_big {n : Nat} {es : List E3} {q : Nat} {c : List Int} {v : Nat} (hv : v < n) (hq : v ≠ q) (hc : 600 ≤ c.getD v 0) : calmB n es q c = false := by
  unfold calmB superE
  split
  · rename_i hz
    obtain ⟨hG, _, hq0, hqn, _⟩ := conf_zero (burn_zero hz).1
    have hn : n ≤ 12 := by have := hG.hi; omega
    have h1 := big_unburnt hG.ok hn hc n [q] ⟨by simp, by simp; omega⟩ (by simpa using hq)
    have h2 : v ∈ restL n (burntL es c n q) := mem_rest.2 ⟨hv, h1⟩
    have h3 : restL n (burntL es c n q) ≠ [] := fun e => by rw [e] at h2; simp at h2
    simp [h3]
  · simp
end Go.Proofs.YtghigdcpinengaaGreat

