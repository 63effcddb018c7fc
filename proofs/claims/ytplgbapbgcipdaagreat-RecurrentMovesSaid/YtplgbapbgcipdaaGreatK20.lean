/-
  Texts of this claim, put together: PileL, Kindle, Maximal.
-/
import Derived.Test.YtplgbapbgcipdaaGreatK18
import Derived.Test.YtplgbapbgcipdaaGreatK06
import Derived.Test.YtplgbapbgcipdaaGreatK09
import Derived.Test.YtplgbapbgcipdaaGreatK19
import Derived.Deep.RegionWith
import Derived.BigRegion
/-! Plain: the table of a pile holds the single edges, its valences are the valences. -/
namespace Go.Proofs.YtplgbapbgcipdaaGreat
open Go.RowKit

theorem incE_get (xs : List Int) (i v : Nat) : (incE xs i).getD v 0 = xs.getD v 0 + if v = i ∧ i < xs.length then 1 else 0 := by
  unfold incE
  simp only [List.getD_eq_getElem?_getD, List.getElem?_set]
  by_cases h : i = v
  · subst h
    by_cases h2 : i < xs.length
    · simp [h2]
    · simp [h2]
  · rw [if_neg h, if_neg (fun e => h e.1.symm), Int.add_zero]
def indV (v : Nat) (p : Nat × Nat) : Int := if p.1 ≠ p.2 ∧ (p.1 = v ∨ p.2 = v) then 1 else 0
def indR (a b : Nat) (p : Nat × Nat) : Int := if p.1 ≠ p.2 ∧ ((p.1 = a ∧ p.2 = b) ∨ (p.1 = b ∧ p.2 = a)) then 1 else 0
theorem valL_at {n v : Nat} (ps : List (Nat × Nat)) : (∀ p ∈ ps, p.1 < n ∧ p.2 < n) → (valL n ps).getD v 0 = (ps.map (indV v)).sum := by
  induction ps using snocRec with
  | h0 =>
    intro _
    unfold valL
    rw [List.foldl_nil, List.getD_eq_getElem?_getD, List.getElem?_replicate]
    split <;> simp
  | h1 ps p ih =>
    intro h
    obtain ⟨h1, h2⟩ := h p (by simp)
    have hl := (valL_bd n ps).1
    have e : valL n (ps ++ [p]) = edgeV (valL n ps) p := by simp [valL, List.foldl_append]
    rw [e, List.map_append, List.sum_append, ← ih fun x hx => h x (by simp [hx])]
    unfold edgeV indV
    simp only [List.map_cons, List.map_nil, List.sum_cons, List.sum_nil, Int.add_zero]
    by_cases hp : p.1 = p.2
    · rw [if_pos hp, if_neg (fun e => e.1 hp)]; omega
    · rw [if_neg hp, incE_get, incE_get, incE_length]
      split <;> split <;> split <;> omega
theorem incR_get {n : Nat} {rows : List (List Int)} (hl : rows.length = n) (hr : ∀ r ∈ rows, r.length = n) {i j : Nat} (hi : i < n) (hj : j < n) (a b : Nat) : ((incR rows i j).getD a []).getD b 0 = (rows.getD a []).getD b 0 + if a = i ∧ b = j then 1 else 0 := by
  have hrow : (rows.getD i []).length = n := by
    rw [List.getD_eq_getElem?_getD, List.getElem?_eq_getElem (by omega)]
    exact hr _ (List.getElem_mem _)
  unfold incR
  by_cases h : a = i
  · subst h
    have e : (rows.set a (incE (rows.getD a []) j)).getD a [] = incE (rows.getD a []) j := by
      rw [List.getD_eq_getElem?_getD, List.getElem?_set_self (by omega)]; rfl
    rw [e, incE_get, hrow]
    by_cases hb : b = j
    · subst hb; rw [if_pos ⟨rfl, hj⟩, if_pos ⟨rfl, rfl⟩]
    · rw [if_neg (fun e => hb e.1), if_neg (fun e => hb e.2)]
  · have e : (rows.set i (incE (rows.getD i []) j)).getD a [] = rows.getD a [] := by
      rw [List.getD_eq_getElem?_getD, List.getElem?_set_ne (fun e => h e.symm), ← List.getD_eq_getElem?_getD]
    rw [e, if_neg (fun e => h e.1), Int.add_zero]
theorem rowsL_at {n a b : Nat} (ps : List (Nat × Nat)) : (∀ p ∈ ps, p.1 < n ∧ p.2 < n) → ((rowsL n ps).getD a []).getD b 0 = (ps.map (indR a b)).sum := by
  induction ps using snocRec with
  | h0 =>
    intro _
    unfold rowsL
    rw [List.foldl_nil]
    have e : (List.replicate n (List.replicate n (0 : Int))).getD a [] = if a < n then List.replicate n 0 else [] := by
      rw [List.getD_eq_getElem?_getD, List.getElem?_replicate]; split <;> rfl
    rw [e]
    split
    · rw [List.getD_eq_getElem?_getD, List.getElem?_replicate]; split <;> simp
    · simp
  | h1 ps p ih =>
    intro h
    obtain ⟨h1, h2⟩ := h p (by simp)
    have hps : ∀ x ∈ ps, x.1 < n ∧ x.2 < n := fun x hx => h x (by simp [hx])
    have hb := rowsL_bd n ps hps
    have e : rowsL n (ps ++ [p]) = edgeR (rowsL n ps) p := by simp [rowsL, List.foldl_append]
    rw [e, List.map_append, List.sum_append, ← ih hps]
    unfold edgeR indR
    simp only [List.map_cons, List.map_nil, List.sum_cons, List.sum_nil, Int.add_zero]
    by_cases hp : p.1 = p.2
    · rw [if_pos hp, if_neg (fun e => e.1 hp)]; omega
    · have hb1 := hb.inc (by omega) h1 p.2
      rw [if_neg hp, incR_get hb1.1 (fun r hr => (hb1.2 r hr).1) h2 h1, incR_get hb.1 (fun r hr => (hb.2 r hr).1) h1 h2]
      split <;> split <;> split <;> omega
theorem sum_rep (m : Nat) (x : Int) : (List.replicate m x).sum = m * x := by
  induction m with
  | zero => simp
  | succ m ih => rw [List.replicate_succ, List.sum_cons, ih, Int.natCast_add, Int.add_mul]; omega
theorem ends_sum {n : Nat} {es : List E3} (hok : ∀ e ∈ es, okE n e) (g : Nat × Nat → Int) : ((endsL es).map g).sum = (es.map fun e => e.2.2 * g (e.1.toNat, e.2.1.toNat)).sum := by
  induction es with
  | nil => rfl
  | cons e es ih =>
    have h := hok e (by simp)
    unfold okE at h
    have e1 : endsL (e :: es) = List.replicate e.2.2.toNat (e.1.toNat, e.2.1.toNat) ++ endsL es := by simp [endsL]
    rw [e1, List.map_append, List.sum_append, ih fun x hx => hok x (by simp [hx]), List.map_replicate, sum_rep, List.map_cons, List.sum_cons, Int.toNat_of_nonneg (by omega)]
theorem valL_val {n v : Nat} {es : List E3} (hok : ∀ e ∈ es, okE n e) : (valL n (endsL es)).getD v 0 = valE es v := by
  rw [valL_at _ (endsL_ok hok), ends_sum hok]
  unfold valE
  congr 1
  apply List.map_congr_left
  intro e he
  have h := hok e he
  unfold okE at h
  unfold indV valT
  dsimp only
  by_cases hc : e.1 ≠ e.2.1 ∧ (e.1 = v ∨ e.2.1 = v)
  · rw [if_pos hc, if_pos (by omega)]; omega
  · rw [if_neg hc, if_neg (by omega)]; omega
theorem jn_one {n a b : Nat} {es : List E3} (hG : RightG n es) (hb : b < n) : jnE es [b] a = tt es a b := by
  rw [jnE_flm hG]
  have : ∀ k, flmTo es [b] a k = if b < k then tt es a b else 0 := by
    intro k
    induction k with
    | zero => simp [flmTo]
    | succ k ih =>
      simp only [flmTo]
      rw [ih]
      by_cases h : k = b
      · subst h; simp
      · rw [if_neg (show ¬ k ∈ [b] by simpa using h)]
        by_cases h2 : b < k
        · rw [if_pos h2, if_pos (by omega)]; omega
        · rw [if_neg h2, if_neg (by omega)]; omega
  rw [this n, if_pos hb]
theorem rowsL_tt {n a b : Nat} {es : List E3} (hG : RightG n es) (hb : b < n) : ((rowsL n (endsL es)).getD a []).getD b 0 = tt es a b := by
  rw [rowsL_at _ (endsL_ok hG.ok), ends_sum hG.ok, ← jn_one hG hb]
  unfold jnE
  congr 1
  apply List.map_congr_left
  intro e he
  have h := hG.ok e he
  unfold okE at h
  unfold indR jnT
  dsimp only
  simp only [List.mem_singleton]
  by_cases hc : e.1 ≠ e.2.1 ∧ ((e.1 = (a : Int) ∧ e.2.1.toNat = b) ∨ (e.2.1 = (a : Int) ∧ e.1.toNat = b))
  · rw [if_pos hc, if_pos (by omega)]; omega
  · rw [if_neg hc, if_neg (by omega)]; omega
theorem valE_valS {n v : Nat} {es : List E3} (hG : RightG n es) : valE es v = valS es n v := by
  rw [valE_jn (n := n) hG.ok, jnE_flm hG]
  unfold valS
  have : ∀ k, k ≤ n → flmTo es (List.range n) v k = sumTo (fun w => tt es v w) k := by
    intro k hk
    induction k with
    | zero => rfl
    | succ k ih => simp only [flmTo, sumTo]; rw [ih (by omega), if_pos (List.mem_range.2 (by omega))]
  exact this n (Nat.le_refl _)
/-- In a connected graph each vertex has neighbours. -/
theorem conn_edge {v : Nat} {es : List E3} {c : Nat} (h : Conn es v c) : c = v ∨ ∃ e ∈ es, e.1 ≠ e.2.1 ∧ (e.1 = v ∨ e.2.1 = v) := by
  induction h with
  | refl => exact .inl rfl
  | @step b c _ hbc ih =>
    rcases ih with rfl | ih
    · obtain ⟨e, he, h⟩ := hbc
      by_cases hcb : c = b
      · exact .inl hcb
      · exact .inr ⟨e, he, by omega, by omega⟩
    · exact .inr ih
theorem valE_mem {n : Int} {es : List E3} (hok : ∀ e ∈ es, okE n e) {v : Int} {e : E3} (he : e ∈ es) (hne : e.1 ≠ e.2.1) (hv : e.1 = v ∨ e.2.1 = v) : 1 ≤ valE es v := by
  induction es with
  | nil => cases he
  | cons x es ih =>
    have h1 := valE_bd (fun y hy => hok y (List.mem_cons_of_mem _ hy)) v
    have h2 := valT_bd (hok x (by simp)) v
    have e1 : valE (x :: es) v = valT v x + valE es v := by simp [valE]
    rw [e1]
    rcases List.mem_cons.1 he with rfl | he
    · have h3 := hok e (by simp)
      unfold okE at h3
      unfold valT
      rw [if_pos ⟨hne, hv⟩]
      omega
    · have := ih (fun y hy => hok y (List.mem_cons_of_mem _ hy)) he
      omega
theorem val_pos {n v q : Nat} {es : List E3} (hG : RightG n es) (hC : AllConn n es) (hv : v < n) (hq : q < n) (hvq : v ≠ q) : 1 ≤ valE es v := by
  rcases conn_edge ((hC v hv).symm.trans (hC q hq)) with h | ⟨e, he, h1, h2⟩
  · exact absurd h.symm hvq
  · exact valE_mem hG.ok he h1 h2
theorem root_zero {n q : Nat} {es : List E3} (hx : rootErr n es q = 0) : checkG n es = 0 ∧ RightG n es ∧ AllConn n es ∧ q < n := by
  rcases root_cases n es q with ⟨h1, h2⟩ | ⟨_, _, h2⟩ | ⟨_, _, _, h2⟩ | ⟨h1, h2, h3, _⟩
  · rw [hx] at h2; exact absurd h2.symm h1
  · rw [hx] at h2; cases h2
  · rw [hx] at h2; cases h2
  · have hG := right_of h1
    rw [Int.toNat_natCast] at h2
    have := vertB_true.1 h3
    exact ⟨h1, hG, (connB_iff hG).1 h2, by omega⟩
end Go.Proofs.YtplgbapbgcipdaaGreat

/-! Package burning: the wood of a configuration; the vertices that are not burnt. -/
namespace Go.Proofs.YtplgbapbgcipdaaGreat
open Go.RowKit

def natI (l : List Nat) : List Int := l.map fun u : Nat => (u : Int)
theorem natI_length (l : List Nat) : (natI l).length = l.length := by simp [natI]
theorem natI_snoc (l : List Nat) (x : Nat) : natI (l ++ [x]) = natI l ++ [(x : Int)] := by simp [natI]
set_option maxHeartbeats 1000000 in
/-- slices.Clone on divisors. -/
theorem dclone_any (A : Option Addr) (c : Nat) (xs : List Int) (hn : xs.length ≤ 1048000) (w : World) (h : Reads w w.heap.size 1 A xs.length (ints xs)) :
    Calls Tryz.prog 17 #[.slice A xs.length c] w fun e w' =>
      ∃ A' c', e = .returned (.slice A' xs.length c') ∧ OwnI w' w.heap.size A' c' xs ∧ Below w.heap.size w w' := by
  have q22 : ∀ (w : World) (a : Option Addr) (n c n' c' : Nat), (binOp .eql 26 (.slice a n c) (.slice none n' c')).run Tryz.prog w = .ok (.bool a.isNone) w := fun w a n c n' c' => Lib.run_eql_slice_nil w _ _ a n c n' c' Tryz.underlying26
  rcases A with _ | ad
  · have hx : xs = [] := by
      rcases xs with _ | ⟨x, xs⟩
      · rfl
      · obtain ⟨_, _, h, _⟩ := h.2 (by simp)
        cases h
    subst hx
    go_enter Tryz.func17, Tryz.ntmps17
    go_wp2
    go_ret
    exact ⟨none, 0, rfl, OwnI.nil_ _ _, Below.refl _ _⟩
  · go_enter Tryz.func17, Tryz.ntmps17
    have hown0 : (w.alloc (.cells #[] 3)).ownsRow w.heap.size 3 1 (.slice (some ⟨w.heap.size, 0, none⟩) 0 0) 0 [] := World.ownsRow_made w #[] 0 (Nat.le_refl _) (by simp [maxLen]) (by simp)
    have hr := h.alloc (Nat.le_refl _) (.cells #[] 3)
    go_wp2_with (at_builtin; refine append_go rfl (.tmp 5) (.tmp 6) _ rfl w.heap.size 3 Tryz.underlying26 info_int rfl (by omega) (some ⟨w.heap.size, 0, none⟩) 0 0 [] rfl hown0 w.heap.size (ints xs) rfl hr (by simp [ints, Value.oneCell']) (by omega) (by simp) ?_; intro A' c' w' hown' _ hb' _)
    go_ret
    refine ⟨A', c', rfl, ?_, ((Below.refl _ _).alloc (Nat.le_refl _) _).trans hb'⟩
    rw [Nat.zero_add, List.nil_append] at hown'
    exact hown'

end Go.Proofs.YtplgbapbgcipdaaGreat

/-! stabilize.Maximal: the maximal stable configuration. -/
namespace Go.Proofs.YtplgbapbgcipdaaGreat
open Go.RowKit

theorem make_div (n : Nat) (hn : n ≤ 1048576) (W : World) : (Instr.makeSlice 26 (.int .i64 (n : Int)) (.int .i64 (n : Int))).run Tryz.prog W =
    .ok (.slice (some ⟨W.heap.size, 0, none⟩) n n) (W.alloc (.cells (ints (List.replicate n 0)).toArray 3)) := by
  obtain ⟨i0, hi, hz0, hz1, hz2⟩ := info_parts info_int
  have hr := run_make (P := Tryz.prog) W 26 3 i0 (.int .i64 0) Tryz.underlying26 hi hz0 .i64 .i64 n n (by omega) (Int.le_refl _) (by rw [hz2]; omega) (by omega)
  simp only [Int.toNat_natCast, hz1, Nat.mul_one] at hr
  rw [hr, show (Value.int .i64 0).cells = #[.int .i64 0] from rfl, made_ints]
/-- The maximal stable configuration, as far as k. -/
def maxTo (n : Nat) (val : List Int) (q : Nat) (k : Nat) : List Int := (List.range n).map fun v => if v < k ∧ v ≠ q then val.getD v 0 - 1 else 0
def maxL (n : Nat) (es : List E3) (q : Nat) : List Int := maxTo n (valL n (endsL es)) q n
theorem maxTo_zero (n : Nat) (val : List Int) (q : Nat) : maxTo n val q 0 = List.replicate n 0 := by
  apply List.ext_getElem?
  intro i
  unfold maxTo
  by_cases hi : i < n
  · simp [hi]
  · simp [hi]
theorem maxTo_length (n : Nat) (val : List Int) (q k : Nat) : (maxTo n val q k).length = n := by simp [maxTo]
theorem maxTo_sink (n : Nat) (val : List Int) (q : Nat) : maxTo n val q (q + 1) = maxTo n val q q := by
  unfold maxTo
  apply List.map_congr_left
  intro v _
  by_cases h1 : v < q
  · rw [if_pos ⟨by omega, by omega⟩, if_pos ⟨h1, by omega⟩]
  · rw [if_neg (by omega), if_neg (by omega)]
theorem maxTo_succ (n : Nat) (val : List Int) (q k : Nat) (hk : k ≠ q) (x : Int) (hx : val[k]? = some x) : maxTo n val q (k + 1) = (maxTo n val q k).set k (x - 1) := by
  apply List.ext_getElem?
  intro i
  unfold maxTo
  by_cases hi : i < n
  · by_cases h : i = k
    · subst h
      rw [List.getElem?_set_self (by simpa using hi)]
      simp [hi, hk, hx]
    · rw [List.getElem?_set_ne (fun e => h e.symm)]
      simp only [List.getElem?_map, List.getElem?_range hi, Option.map_some]
      by_cases h2 : i < k ∧ i ≠ q
      · rw [if_pos h2, if_pos ⟨by omega, h2.2⟩]
      · rw [if_neg h2, if_neg (by omega)]
  · rw [List.getElem?_eq_none (by simp; omega), List.getElem?_eq_none (by simp; omega)]

set_option maxRecDepth 100000 in
set_option maxHeartbeats 4000000 in
theorem maximal_bad (n : Int) (A : Option Addr) (c : Nat) (es : List E3) (hlen : es.length ≤ 10000) (q : Int) (x : Int) (hx : rootErr n es q = x) (hx0 : (x == 0) = false) (w : World) (h : Reads w w.heap.size 3 A es.length (edgeCells es)) :
    Calls Tryz.prog 47 #[.agg #[.int .i64 n, .slice A es.length c], .int .i64 q] w fun e w' => e = .returned (.tuple #[.slice none 0 0, .int .i64 x]) ∧ Below w.heap.size w w' := by
  have RT := rooted_any n A c es (by omega) q
  rw [hx] at RT
  have RT := Lib.hid RT
  have g0 := Blk.new w 24 #[.int .i64 n, .slice A es.length c]
  have c0 := g0.cell 0
  have c1 := g0.cell 1
  have hx1 : (x != 0) = true := by simpa [bne] using hx0
  clear hx
  go_enter Tryz.func47, Tryz.ntmps47
  go_wp2_with fail
  refine (RT.out _ ((h.alloc (Nat.le_refl _) _).more (by simp))).mono ?_
  rintro e w1 ⟨rfl, hb1⟩
  have hB1 : Below w.heap.size w w1 := ((Below.refl _ _).alloc (Nat.le_refl _) _).trans (hb1.mono (by simp))
  go_wp2
  go_ret2
  exact ⟨rfl, hB1⟩

set_option maxRecDepth 100000 in
set_option maxHeartbeats 8000000 in
theorem maximal_ok (n : Nat) (A : Option Addr) (c : Nat) (es : List E3) (hlen : es.length ≤ 10000) (q : Nat) (hx : rootErr n es q = 0) (w : World) (h : Reads w w.heap.size 3 A es.length (edgeCells es)) :
    Calls Tryz.prog 47 #[.agg #[.int .i64 n, .slice A es.length c], .int .i64 q] w fun e w' => ∃ Am cm, e = .returned (.tuple #[.slice Am n cm, .int .i64 0]) ∧ OwnI w' w.heap.size Am cm (maxL n es q) ∧ Below w.heap.size w w' := by
  have RT := rooted_any n A c es (by omega) q
  rw [hx] at RT
  have RT := Lib.hid RT
  have hz : checkG n es = 0 ∧ q < n := by
    rcases root_cases n es q with ⟨h1, h2⟩ | ⟨_, _, h2⟩ | ⟨_, _, _, h2⟩ | ⟨h1, _, h2, _⟩
    · rw [hx] at h2; exact absurd h2.symm h1
    · rw [hx] at h2; cases h2
    · rw [hx] at h2; cases h2
    · exact ⟨h1, by have := vertB_true.1 h2; omega⟩
  obtain ⟨hz, hq⟩ := hz
  have hR := right_of hz
  have hn : n ≤ 12 := by have := hR.hi; omega
  have hn0 : 1 ≤ n := by have := hR.lo; omega
  have g0 := Blk.new w 24 #[.int .i64 n, .slice A es.length c]
  have c0 := g0.cell 0
  have c1 := g0.cell 1
  have hmi := make_ints n (by omega)
  have hmd := make_div n (by omega)
  have hel := endsL_length hR.ok
  have PO := pileOf_any n hn hn0 A c es hlen hz hR.ok q
  have PO := Lib.hid (fun (B : Option Addr) (cB : Nat) => PO B cB (List.replicate n 0) (by simp))
  simp only [List.length_replicate] at PO
  clear hx hR hz
  go_enter Tryz.func47, Tryz.ntmps47
  go_wp2_with fail
  refine (RT.out _ ((h.alloc (Nat.le_refl _) _).more (by simp))).mono ?_
  rintro e w1 ⟨rfl, hb1⟩
  have hB1 : Below w.heap.size w w1 := ((Below.refl _ _).alloc (Nat.le_refl _) _).trans (hb1.mono (by simp))
  have g1 := g0.next hb1
  have hs1 := hB1.size
  have d0 := g1.cell 0
  have d1 := g1.cell 1
  have h3 : Reads (w1.alloc (.cells (ints (List.replicate n 0)).toArray 3)).drew (w1.alloc (.cells (ints (List.replicate n 0)).toArray 3)).drew.heap.size 3 A es.length (edgeCells es) := (((h.below hB1).more hs1).alloc (Nat.le_refl _) (.cells (ints (List.replicate n 0)).toArray 3)).drew.more (by simp [World.drew])
  have hbl : Reads (w1.alloc (.cells (ints (List.replicate n 0)).toArray 3)).drew (w1.alloc (.cells (ints (List.replicate n 0)).toArray 3)).drew.heap.size 1 (some ⟨w1.heap.size, 0, none⟩) n (ints (List.replicate n 0)) := ⟨by simp [ints], fun _ => ⟨w1.heap.size, 0, rfl, by simp [World.drew], fun j v hv => by
    have hb : Blk (w1.alloc (.cells (ints (List.replicate n 0)).toArray 3)).drew w1.heap.size 3 (ints (List.replicate n 0)).toArray := (Blk.new w1 _ _).drew
    rw [Nat.zero_add, hb.cell j, List.getElem?_toArray]
    exact hv⟩⟩
  clear g0 c0 c1 RT hb1
  go_wp2
  go_region_held3 (fun W => W.cell? ⟨w.heap.size, 0, none⟩ = some (.int .i64 n) ∧ W.cell? ⟨w.heap.size, 1, none⟩ = some (.slice A es.length c)) (go_keep)
    (first | (go_at_call 79; refine (PO.out _ _ _ (by exact h3) (by exact hbl)).mono ?_; rintro e w5 ⟨bp, a, rfl, P5, hb5⟩; have g5 := ((g1.alloc (.cells (ints (List.replicate n 0)).toArray 3)).drew).next hb5; have k0 := g5.cell 0; have k1 := g5.cell 1))
  all_goals
    have hB5 : Below w.heap.size w w5 := (hB1.alloc hs1 (.cells (ints (List.replicate n 0)).toArray 3)).drew.trans (hb5.mono (by simp [World.drew]; omega))
    have hs5 := hB5.size
    have P6 := P5.alloc (.cells (ints (List.replicate n 0)).toArray 3)
    have p3 := P6.c3
    have O6 := Blk.new w5 3 (ints (List.replicate n 0)).toArray
    have V6 := P6.vv
    have hbV := valL_bd n (endsL es)
    have hne : a.bv ≠ w5.heap.size := Nat.ne_of_lt P5.vv.lt
    have hB6 := hB5.alloc hs5 (.cells (ints (List.replicate n 0)).toArray 3)
    obtain ⟨val, hval⟩ : ∃ val, valL n (endsL es) = val := ⟨_, rfl⟩
    rw [hval] at V6 hbV
    have HVAL := Lib.hid hval
    have HBV := Lib.hid hbV
    clear hval hbV P5 P6 h3 hbl hb5 g1 d0 d1 hB1 PO
    go_wp2_with fail
    go_loopw [10, 11, 38] (fun _ _ i wl => ∃ v : Nat, v ≤ n ∧ i = .int .i64 v ∧ Blk wl w5.heap.size 3 (intCells (maxTo n val q v)) ∧ Blk wl a.bv 3 (intCells val) ∧ Below w.heap.size w wl) (fun _ _ i _ => n - (intOf i).toNat)
    case atStart => exact ⟨0, by omega, rfl, by rw [maxTo_zero]; exact O6, V6, hB6⟩
    case round =>
      obtain ⟨v, hv, rfl, O7, V7, hB7⟩ := hrel
      clear O6 V6 hB6
      by_cases hlv : v < n
      · have hi : (v : Int) < (n : Int) := by omega
        obtain ⟨x, hx⟩ := get_of_lt (xs := val) (k := v) (by rw [HBV.out.1]; exact hlv)
        have hxb := HBV.out.2 x (List.mem_of_getElem? hx)
        have hxl : x ≤ 1000000 := by omega
        have cv := (V7.cell v).trans (intCells_get hx)
        by_cases hvq : v = q
        · have hne2 : ((v : Int) != (q : Int)) = false := by simp [hvq]
          subst hvq
          have hms := maxTo_sink n val v
          clear hx
          go_wp2
          go_roundw
          case rel => exact ⟨v + 1, by omega, by go_num, by rw [hms]; exact O7, V7, hB7⟩
          case measure => simp [intOf]; omega
        · have hne2 : ((v : Int) != (q : Int)) = true := by rw [bne_iff_ne]; omega
          have hms := Lib.hid (maxTo_succ n val q v hvq x hx)
          obtain ⟨y, hy⟩ := get_of_lt (xs := maxTo n val q v) (k := v) (by rw [maxTo_length]; exact hlv)
          have co := (O7.cell v).trans (intCells_get hy)
          have cf := O7.frozen v
          have O8 := O7.set_ v (.int .i64 (x - 1))
          rw [intCells_set, ← hms.out] at O8
          clear hx hy
          go_wp2
          go_roundw
          case rel => exact ⟨v + 1, by omega, by go_num, O8, V7.far hne _, hB7.setCell hs5 _⟩
          case measure => simp [intOf]; omega
      · obtain rfl : v = n := by omega
        go_wp2
        go_ret2
        refine ⟨_, _, rfl, ?_, hB7⟩
        have hl := maxTo_length v val q v
        have := OwnI.of_blk O7 hs5 (by rw [hl]; simp [maxLen]; omega)
        rw [hl] at this
        unfold maxL
        rw [HVAL.out]
        exact this
end Go.Proofs.YtplgbapbgcipdaaGreat

