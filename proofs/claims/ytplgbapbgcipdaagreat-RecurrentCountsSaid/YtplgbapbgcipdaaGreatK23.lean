/-
  Texts of this claim, put together: TreeCk, Conf, RCatch, Pile2, PileP.
-/
import Derived.Test.YtplgbapbgcipdaaGreatK19
import Derived.Test.YtplgbapbgcipdaaGreatK20
import Derived.Test.YtplgbapbgcipdaaGreatK17
import Derived.Test.YtplgbapbgcipdaaGreatK21
import Derived.Deep.RegionHeld3
import Derived.Test.YtplgbapbgcipdaaGreatK12
/-! Package tree: spans, checked, Check; connect.Edges; graph.Size. -/
namespace Go.Proofs.YtplgbapbgcipdaaGreat
open Go.RowKit

/-- Not above the one before. -/
def leP (p : Option Int) (x : Int) : Bool := match p with | some y => decide (x ≤ y) | none => false
/-- The error of a set of single edges: m of them there are. -/
def edgFrom (m : Nat) : Option Int → List Int → Int
  | _, [] => 0
  | p, x :: xs => if x < 0 ∨ (m : Int) ≤ x then 2 else if leP p x = true then 9 else edgFrom m (some x) xs
def edgErr (m : Nat) (xs : List Int) : Int := edgFrom m none xs
theorem edgFrom_zero {m : Nat} : ∀ {xs : List Int} {p : Option Int}, edgFrom m p xs = 0 → (∀ x ∈ xs, 0 ≤ x ∧ x < m) ∧ xs.Pairwise (· < ·) ∧ ∀ y, p = some y → ∀ x ∈ xs, y < x
  | [], _, _ => ⟨by simp, .nil, by simp⟩
  | x :: xs, p, h => by
    rw [edgFrom] at h
    by_cases h1 : x < 0 ∨ (m : Int) ≤ x
    · rw [if_pos h1] at h; omega
    · rw [if_neg h1] at h
      split at h
      · omega
      · rename_i h2
        obtain ⟨i1, i2, i3⟩ := edgFrom_zero h
        refine ⟨?_, List.pairwise_cons.2 ⟨i3 x rfl, i2⟩, ?_⟩
        · intro z hz
          rcases List.mem_cons.1 hz with rfl | hz
          · omega
          · exact i1 z hz
        · rintro y rfl z hz
          simp [leP] at h2
          rcases List.mem_cons.1 hz with rfl | hz
          · exact h2
          · have := i3 x rfl z hz; omega
/-- A set of single edges as numbers. -/
theorem edg_set {m : Nat} {xs : List Int} (h : edgErr m xs = 0) : ∃ t : List Nat, xs = nI t ∧ SetN m t := by
  obtain ⟨h1, h2, _⟩ := edgFrom_zero h
  refine ⟨xs.map Int.toNat, ?_, ?_, ?_⟩
  · unfold nI
    rw [List.map_map]
    conv => lhs; rw [← List.map_id xs]
    refine List.map_congr_left fun x hx => ?_
    have := (h1 x hx).1
    simp [Int.toNat_of_nonneg this]
  · rw [List.pairwise_map]
    refine h2.imp_of_mem fun ha hb hab => ?_
    have := h1 _ ha
    have := h1 _ hb
    omega
  · intro e he
    obtain ⟨x, hx, rfl⟩ := List.mem_map.1 he
    have := h1 x hx
    omega

set_option maxRecDepth 100000 in
set_option maxHeartbeats 2000000 in
theorem size_ok (n : Int) (A : Option Addr) (c : Nat) (es : List E3) (hn : es.length ≤ 10000) (hz : checkG n es = 0) (w : World) (h : Reads w w.heap.size 3 A es.length (edgeCells es)) :
    Calls Tryz.prog 97 #[.agg #[.int .i64 n, .slice A es.length c]] w fun e w' => e = .returned (.tuple #[.int .i64 ((endsL es).length : Nat), .int .i64 0]) ∧ Below w.heap.size w w' := by
  have EC := Lib.hid (fun (W : World) (hB : Below w.heap.size w W) => ends_ok n A c es hn hz n (right_of hz).ok W ((h.below hB).more hB.size))
  have g0 := Blk.new w 24 #[.int .i64 n, .slice A es.length c]
  have hb0 : Below w.heap.size w (w.alloc (.cells #[.int .i64 n, .slice A es.length c] 24)) := (Below.refl _ _).alloc (Nat.le_refl _) _
  have c0 := g0.cell 0
  have c1 := g0.cell 1
  clear hz
  go_enter Tryz.func97, Tryz.ntmps97
  go_wp2_with fail
  refine (EC.out _ hb0).mono ?_
  rintro e w1 ⟨Ar, cr, rfl, _, hb1⟩
  go_wp2
  go_ret2
  exact ⟨rfl, hb0.trans (hb1.mono hb0.size)⟩

theorem nI_length (t : List Nat) : (nI t).length = t.length := by simp [nI]
theorem getD_some {E : List (Nat × Nat)} {e : Nat} (h : e < E.length) : E[e]? = some (E.getD e (0, 0)) := by
  rw [List.getD_eq_getElem?_getD, List.getElem?_eq_getElem h]; rfl

/-- The error of a graph and a tree. -/
def treeErr (n : Int) (es : List E3) (xs : List Int) : Int :=
  if joinErr n es ≠ 0 then joinErr n es else if edgErr (endsL es).length xs ≠ 0 then edgErr (endsL es).length xs else if (xs.length : Int) + 1 ≠ n then 8 else if foB (pk (endsL es) (xs.map Int.toNat)) = true then 0 else 3
/-- What a right tree is. -/
theorem tree_zero {n : Int} {es : List E3} {xs : List Int} (h : treeErr n es xs = 0) : ∃ (m : Nat) (t : List Nat), n = m ∧ xs = nI t ∧ RightG m es ∧ BdP m (endsL es) ∧ IsTr m (endsL es) t ∧ 1 ≤ m ∧ m ≤ 12 ∧ joinErr n es = 0 := by
  unfold treeErr at h
  by_cases hj : joinErr n es = 0
  · rw [if_neg (fun hc => hc hj)] at h
    obtain ⟨hz, hG, _⟩ := join_zero hj
    have hlo := hG.lo
    have hhi := hG.hi
    obtain ⟨m, rfl⟩ := Int.eq_ofNat_of_zero_le (show 0 ≤ n by omega)
    by_cases he : edgErr (endsL es).length xs = 0
    · rw [if_neg (fun hc => hc he)] at h
      obtain ⟨t, rfl, hs⟩ := edg_set he
      by_cases hl : ((nI t).length : Int) + 1 = (m : Int)
      · rw [if_neg (fun hc => hc hl)] at h
        have htt : (nI t).map Int.toNat = t := by
          unfold nI
          rw [List.map_map]
          conv => rhs; rw [← List.map_id t]
          exact List.map_congr_left fun x _ => by simp
        rw [htt] at h
        have hfo : foB (pk (endsL es) t) = true := by
          cases hf : foB (pk (endsL es) t)
          · rw [hf] at h; simp at h
          · rfl
        rw [nI_length] at hl
        exact ⟨m, t, rfl, rfl, hG, bd_ends hG, ⟨hs, by omega, foB_iff.1 hfo⟩, by omega, by omega, hj⟩
      · rw [if_pos hl] at h; omega
    · rw [if_pos he] at h; exact absurd h he
  · rw [if_pos hj] at h; exact absurd h hj

end Go.Proofs.YtplgbapbgcipdaaGreat

/-! The errors of configurations: stabilize.Check. -/
namespace Go.Proofs.YtplgbapbgcipdaaGreat
open Go.RowKit

set_option maxHeartbeats 2000000 in
theorem rooted_any (n : Int) (A : Option Addr) (c : Nat) (es : List E3) (hn : es.length ≤ 1048576) (q : Int) (w : World) (h : Reads w w.heap.size 3 A es.length (edgeCells es)) :
    Calls Tryz.prog 78 #[.agg #[.int .i64 n, .slice A es.length c], .int .i64 q] w fun e w' => e = .returned (.int .i64 (rootErr n es q)) ∧ Below w.heap.size w w' := by
  have g0 := Blk.new w 24 #[.int .i64 n, .slice A es.length c]
  rcases root_cases n es q with ⟨h1, hE⟩ | ⟨h1, h2, hE⟩ | ⟨h1, h2, h3, hE⟩ | ⟨h1, h2, h3, hE⟩
  · rw [hE]
    have GC := Lib.hid (connected_bad n A c es hn h1)
    obtain ⟨r, hr⟩ : ∃ r, checkG n es = r := ⟨_, rfl⟩
    rw [hr] at GC h1 ⊢
    have hb : (r != 0) = true := by simpa using h1
    clear hr h1 hE
    go_enter Tryz.func78, Tryz.ntmps78
    go_wp2_with fail
    refine (GC.out _ ((h.alloc (Nat.le_refl _) _).more (by simp))).mono ?_
    rintro e w1 ⟨rfl, hb1⟩
    have hbel1 : Below w.heap.size w w1 := ((Below.refl _ _).alloc (Nat.le_refl _) _).trans (hb1.mono (by simp))
    go_wp2
    go_ret
    exact ⟨rfl, hbel1⟩
  · rw [hE]
    have hG := right_of h1
    have hlo := hG.lo
    obtain ⟨m, rfl⟩ := Int.eq_ofNat_of_zero_le (show 0 ≤ n by omega)
    have CC := Lib.hid (connected_ok m A c es hn h1)
    rw [Int.toNat_natCast] at h2
    rw [h2] at CC
    clear h1 hE hG h2
    go_enter Tryz.func78, Tryz.ntmps78
    go_wp2_with fail
    refine (CC.out _ ((h.alloc (Nat.le_refl _) _).more (by simp))).mono ?_
    rintro e w1 ⟨rfl, hb1⟩
    have hbel1 : Below w.heap.size w w1 := ((Below.refl _ _).alloc (Nat.le_refl _) _).trans (hb1.mono (by simp))
    go_wp2
    go_ret
    exact ⟨rfl, hbel1⟩
  · rw [hE]
    have hG := right_of h1
    have hlo := hG.lo
    obtain ⟨m, rfl⟩ := Int.eq_ofNat_of_zero_le (show 0 ≤ n by omega)
    have CC := Lib.hid (connected_ok m A c es hn h1)
    rw [Int.toNat_natCast] at h2
    rw [h2] at CC
    clear h1 hE hG h2
    rw [vertB_false] at h3
    by_cases h4 : q < 0
    · go_enter Tryz.func78, Tryz.ntmps78
      go_wp2_with fail
      refine (CC.out _ ((h.alloc (Nat.le_refl _) _).more (by simp))).mono ?_
      rintro e w1 ⟨rfl, hb1⟩
      have hbel1 : Below w.heap.size w w1 := ((Below.refl _ _).alloc (Nat.le_refl _) _).trans (hb1.mono (by simp))
      have g1 := g0.next hb1
      have c0 := g1.cell 0
      go_wp2
      go_ret
      exact ⟨rfl, hbel1⟩
    · have h5 : (m : Int) ≤ q := by omega
      clear h3
      go_enter Tryz.func78, Tryz.ntmps78
      go_wp2_with fail
      refine (CC.out _ ((h.alloc (Nat.le_refl _) _).more (by simp))).mono ?_
      rintro e w1 ⟨rfl, hb1⟩
      have hbel1 : Below w.heap.size w w1 := ((Below.refl _ _).alloc (Nat.le_refl _) _).trans (hb1.mono (by simp))
      have g1 := g0.next hb1
      have c0 := g1.cell 0
      go_wp2
      go_ret
      exact ⟨rfl, hbel1⟩
  · rw [hE]
    have hG := right_of h1
    have hlo := hG.lo
    obtain ⟨m, rfl⟩ := Int.eq_ofNat_of_zero_le (show 0 ≤ n by omega)
    have CC := Lib.hid (connected_ok m A c es hn h1)
    rw [Int.toNat_natCast] at h2
    rw [h2] at CC
    clear h1 hE hG h2
    rw [vertB_true] at h3
    have h4 : ¬ q < 0 := by omega
    have h5 : ¬ (m : Int) ≤ q := by omega
    clear h3
    go_enter Tryz.func78, Tryz.ntmps78
    go_wp2_with fail
    refine (CC.out _ ((h.alloc (Nat.le_refl _) _).more (by simp))).mono ?_
    rintro e w1 ⟨rfl, hb1⟩
    have hbel1 : Below w.heap.size w w1 := ((Below.refl _ _).alloc (Nat.le_refl _) _).trans (hb1.mono (by simp))
    have g1 := g0.next hb1
    have c0 := g1.cell 0
    go_wp2
    go_ret
    exact ⟨rfl, hbel1⟩

set_option maxRecDepth 100000 in
set_option maxHeartbeats 4000000 in
theorem scheck_any (n : Int) (A : Option Addr) (c : Nat) (es : List E3) (hn : es.length ≤ 1048576) (q : Int) (B : Option Addr) (d : Nat) (cs : List Int) (hm : cs.length ≤ 1048576) (w : World) (h : Reads w w.heap.size 3 A es.length (edgeCells es)) (h' : Reads w w.heap.size 1 B cs.length (ints cs)) :
    Calls Tryz.prog 68 #[.agg #[.int .i64 n, .slice A es.length c], .int .i64 q, .slice B cs.length d] w fun e w' => e = .returned (.int .i64 (confErr n es q cs)) ∧ Below w.heap.size w w' := by
  have GC := Lib.hid (rooted_any n A c es hn q)
  have DC := Lib.hid (dcheck_any B d cs hm n)
  have g0 := Blk.new w 24 #[.int .i64 n, .slice A es.length c]
  rcases conf_cases n es q cs with ⟨h1, hE⟩ | ⟨h1, h2, hE⟩ | ⟨h1, h2, hE⟩
  · rw [hE]
    obtain ⟨r, hr⟩ : ∃ r, rootErr n es q = r := ⟨_, rfl⟩
    rw [hr] at GC h1 ⊢
    have hb : (r != 0) = true := by simpa using h1
    clear hr h1 hE
    go_enter Tryz.func68, Tryz.ntmps68
    go_wp2_with fail
    refine (GC.out _ ((h.alloc (Nat.le_refl _) _).more (by simp))).mono ?_
    rintro e w1 ⟨rfl, hb1⟩
    have hbel1 : Below w.heap.size w w1 := ((Below.refl _ _).alloc (Nat.le_refl _) _).trans (hb1.mono (by simp))
    go_wp2
    go_ret
    exact ⟨rfl, hbel1⟩
  · rw [hE]
    rw [h1] at GC
    obtain ⟨r, hr⟩ : ∃ r, divErr cs n = r := ⟨_, rfl⟩
    rw [hr] at DC h2 ⊢
    have hb : (r != 0) = true := by simpa using h2
    clear hr h1 hE h2
    go_enter Tryz.func68, Tryz.ntmps68
    go_wp2_with fail
    refine (GC.out _ ((h.alloc (Nat.le_refl _) _).more (by simp))).mono ?_
    rintro e w1 ⟨rfl, hb1⟩
    have hbel1 : Below w.heap.size w w1 := ((Below.refl _ _).alloc (Nat.le_refl _) _).trans (hb1.mono (by simp))
    have g1 := g0.next hb1
    have c0 := g1.cell 0
    go_wp2_with fail
    refine (DC.out _ ((h'.below hbel1).more hbel1.size)).mono ?_
    rintro e w2 ⟨rfl, rfl⟩
    go_wp2
    go_ret
    exact ⟨rfl, hbel1⟩
  · rw [hE]
    rw [h1] at GC
    rw [h2] at DC
    obtain ⟨r, hr⟩ : ∃ r, (if debtTo cs q cs.length then (2 : Int) else 0) = r := ⟨_, rfl⟩
    rw [hr]
    have HR := Lib.hid hr
    have hlen := (divErr_zero h2).2.1
    have hlen2 := (divErr_zero h2).2.2.1
    clear hr h1 hE h2
    go_enter Tryz.func68, Tryz.ntmps68
    go_wp2_with fail
    refine (GC.out _ ((h.alloc (Nat.le_refl _) _).more (by simp))).mono ?_
    rintro e w1 ⟨rfl, hb1⟩
    have hbel1 : Below w.heap.size w w1 := ((Below.refl _ _).alloc (Nat.le_refl _) _).trans (hb1.mono (by simp))
    have g1 := g0.next hb1
    have c0 := g1.cell 0
    have hr1 := (h'.below hbel1).more hbel1.size
    have HL := Lib.hid hlen2
    clear hlen2
    go_wp2_with fail
    refine (DC.out _ hr1).mono ?_
    rintro e w2 ⟨rfl, rfl⟩
    go_wp2
    go_loop [26] (fun i => ∃ k : Nat, k ≤ cs.length ∧ i = .int .i64 k ∧ Hid (debtTo cs q k = false)) (fun i => cs.length - (intOf i).toNat)
    case atStart => exact ⟨0, by omega, rfl, by simp [Hid, debtTo]⟩
    case round =>
      obtain ⟨k, hk, rfl, HS⟩ := hrel
      by_cases hlt : k < cs.length
      · obtain ⟨x, hx⟩ := get_of_lt hlt
        obtain ⟨b, off, rfl, hb', hcell⟩ := hr1.at_ (ints_at hx)
        have hi : (k : Int) < (cs.length : Int) := by omega
        have hds := debtTo_succ cs q k
        rw [HS.out, getD_at hx] at hds
        have hkn : ∀ z, debtTo cs q (k + 1) = z → (z = true → r = 2) ∧ (z = false → Hid (debtTo cs q (k + 1) = false)) := fun z hz => ⟨fun e => by rw [← HR.out, if_pos (debtTo_mono (by omega) (hz.trans e))], fun e => hz.trans e⟩
        have HK := Lib.hid hkn
        clear hx h h' hkn
        by_cases h3 : (k : Int) = q
        · have hb : ((k : Int) != q) = false := by simpa using h3
          have HN := (HK.out _ hds).2 (by simp [h3])
          clear hds HK h3
          go_wp2
          go_round
          case rel => exact ⟨k + 1, by omega, by go_num, HN⟩
          case measure => simp [intOf]; omega
        · have hb : ((k : Int) != q) = true := by simpa using h3
          by_cases h4 : x < 0
          · obtain rfl := (HK.out _ hds).1 (by simp [h3, h4])
            clear hds HK h3
            go_wp2
            go_ret
            exact ⟨rfl, hbel1⟩
          · have HN := (HK.out _ hds).2 (by simp [h4])
            clear hds HK h3
            go_wp2
            go_round
            case rel => exact ⟨k + 1, by omega, by go_num, HN⟩
            case measure => simp [intOf]; omega
      · obtain rfl : k = cs.length := by omega
        go_wp2
        go_ret
        exact ⟨ret_int (by rw [← HR.out, HS.out]; rfl), hbel1⟩
end Go.Proofs.YtplgbapbgcipdaaGreat

/-! burning.check. -/
namespace Go.Proofs.YtplgbapbgcipdaaGreat
open Go.RowKit

end Go.Proofs.YtplgbapbgcipdaaGreat

/-! Package recurrent: catches, stable. -/
namespace Go.Proofs.YtplgbapbgcipdaaGreat
open Go.RowKit

def catchB (es : List E3) (cs : List Int) (l : List Nat) (v : Nat) : Bool := decide (valE es v ≤ cs.getD v 0 + jnE es l v)
/-- Is no vertex below k but the sink unstable? -/
def stabTo (es : List E3) (cs : List Int) (q : Nat) (k : Nat) : Bool := (List.range k).all fun v => decide (v = q) || decide (cs.getD v 0 < valE es v)
theorem stabTo_succ (es : List E3) (cs : List Int) (q k : Nat) : stabTo es cs q (k + 1) = (stabTo es cs q k && (decide (k = q) || decide (cs.getD k 0 < valE es k))) := by simp [stabTo, List.range_succ]
theorem stabTo_false {es : List E3} {cs : List Int} {q k n : Nat} (hk : k < n) (hq : k ≠ q) (h : valE es k ≤ cs.getD k 0) : stabTo es cs q n = false := by
  unfold stabTo
  rw [List.all_eq_false]
  refine ⟨k, by simpa using hk, ?_⟩
  rw [decide_eq_false hq, decide_eq_false (by omega)]
  simp

set_option maxRecDepth 100000 in
set_option maxHeartbeats 8000000 in
theorem rcatches_any (n : Nat) (A : Option Addr) (c : Nat) (es : List E3) (hn : es.length ≤ 10000) (hz : checkG n es = 0) (q : Int) (B : Option Addr) (d : Nat) (cs : List Int) (hcl : cs.length = n) (hcb : ∀ x ∈ cs, -1048576 ≤ x ∧ x ≤ 1048577) (v : Nat) (hv : v < n) (g : Nat) (l : List Nat) (w : World)
    (h : Reads w w.heap.size 3 A es.length (edgeCells es)) (h' : Reads w w.heap.size 1 B n (ints cs)) (hm : Blk w g 4 (bools (marks n l))) :
    Calls Tryz.prog 103 #[pileV n A es.length c q B n d, .int .i64 v, .slice (some ⟨g, 0, none⟩) n n] w fun e w' => e = .returned (.bool (catchB es cs l v)) ∧ Below w.heap.size w w' := by
  have hok := (right_of hz).ok
  obtain ⟨x, hx⟩ := get_of_lt (xs := cs) (k := v) (by omega)
  have hxb := hcb x (List.mem_of_getElem? hx)
  obtain ⟨bB, oB, rfl, hbB, hcell⟩ := h'.at_ (ints_at hx)
  have JB := jnE_bd hok l v
  have HJ := Lib.hid (fun (W : World) (hB : Below w.heap.size w W) => rjoins_any n A c es hn hok q (some ⟨bB, oB, none⟩) n d v g l W ((h.below hB).more hB.size) (hm.below hB hm.lt))
  have HV := Lib.hid (fun (W : World) (hB : Below w.heap.size w W) => rvalence_any n A c es hn hz q (some ⟨bB, oB, none⟩) n d v hv W ((h.below hB).more hB.size))
  unfold catchB
  rw [getD_at hx]
  have g0 := Blk.new w 80 (pileC n A es.length c q (some ⟨bB, oB, none⟩) n d)
  have hB0 : Below w.heap.size w (w.alloc (.cells (pileC n A es.length c q (some ⟨bB, oB, none⟩) n d) 80)) := (Below.refl _ _).alloc (Nat.le_refl _) _
  have hce := (hB0.cell (p := ⟨bB, oB + v, none⟩) hbB).trans hcell
  have hi : (v : Int) < (n : Int) := by omega
  obtain ⟨J, hJ⟩ : ∃ J, jnE es l v = J := ⟨_, rfl⟩
  obtain ⟨V, hV⟩ : ∃ V, valE es v = V := ⟨_, rfl⟩
  rw [hJ] at HJ JB ⊢
  rw [hV] at HV ⊢
  have hw : IntKind.i64.wrap (x + J) = x + J := IntWalk.i64_in _ (by omega)
  clear hJ hV hz hok hx hcell
  simp only [pileV, pileC] at g0 hB0 hce HJ HV ⊢
  have c0 := g0.cell 0
  have c1 := g0.cell 1
  have c2 := g0.cell 2
  have c3 := g0.cell 3
  have hgw : w.heap.size < (w.alloc (.cells #[.int .i64 n, .slice A es.length c, .int .i64 q, .slice (some ⟨bB, oB, none⟩) n d] 80)).heap.size := by simp
  obtain ⟨W0, hW0⟩ : ∃ W0, w.alloc (.cells #[.int .i64 n, .slice A es.length c, .int .i64 q, .slice (some ⟨bB, oB, none⟩) n d] 80) = W0 := ⟨_, rfl⟩
  have HW0 := Lib.hid hW0
  rw [hW0] at g0 hB0 hce c0 c1 c2 c3 hgw
  clear hW0
  have HJ2 := Lib.hid (fun (W : World) (hB : Below W0.heap.size W0 W) => HJ.out W (hB0.trans (hB.mono hB0.size)))
  have HV2 := Lib.hid (fun (W : World) (hB : Below W0.heap.size W0 W) => HV.out W (hB0.trans (hB.mono hB0.size)))
  have hb5 : bB < W0.heap.size := by have := hB0.size; omega
  have KC := Lib.hid (fun (W : World) (hB : Below W0.heap.size W0 W) => (⟨(hB.cell (p := ⟨w.heap.size, 0, none⟩) hgw).trans c0, (hB.cell (p := ⟨w.heap.size, 1, none⟩) hgw).trans c1, (hB.cell (p := ⟨w.heap.size, 2, none⟩) hgw).trans c2, (hB.cell (p := ⟨w.heap.size, 3, none⟩) hgw).trans c3, (hB.cell (p := ⟨bB, oB + v, none⟩) hb5).trans hce⟩ :
    W.cell? ⟨w.heap.size, 0, none⟩ = some (.int .i64 n) ∧ W.cell? ⟨w.heap.size, 1, none⟩ = some (.slice A es.length c) ∧ W.cell? ⟨w.heap.size, 2, none⟩ = some (.int .i64 q) ∧ W.cell? ⟨w.heap.size, 3, none⟩ = some (.slice (some ⟨bB, oB, none⟩) n d) ∧ W.cell? ⟨bB, oB + v, none⟩ = some (.int .i64 x)))
  have B0 : Below W0.heap.size W0 W0.drew := (Below.refl _ _).drew
  clear g0 HJ HV
  go_enter Tryz.func103, Tryz.ntmps103
  go_wp2_with fail
  rw [HW0.out]
  go_region_held3 (fun W => W.cell? ⟨w.heap.size, 0, none⟩ = some (.int .i64 n) ∧ W.cell? ⟨w.heap.size, 1, none⟩ = some (.slice A es.length c) ∧ W.cell? ⟨w.heap.size, 2, none⟩ = some (.int .i64 q) ∧ W.cell? ⟨w.heap.size, 3, none⟩ = some (.slice (some ⟨bB, oB, none⟩) n d) ∧ W.cell? ⟨bB, oB + v, none⟩ = some (.int .i64 x)) (go_keep)
    (first
      | (go_at_call 67; refine (HJ2.out _ B0).mono ?_; rintro e wJ ⟨rfl, bJ⟩; have BJ := B0.trans (bJ.mono (Nat.le_refl _)); obtain ⟨j0, j1, j2, j3, j4⟩ := KC.out wJ BJ)
      | (go_at_call 67; refine (HJ2.out _ BV).mono ?_; rintro e wJ ⟨rfl, bJ⟩; have BJ := BV.trans (bJ.mono BV.size); obtain ⟨j0, j1, j2, j3, j4⟩ := KC.out wJ BJ)
      | (go_at_call 122; refine (HV2.out _ B0).mono ?_; rintro e wV ⟨rfl, bV⟩; have BV := B0.trans (bV.mono (Nat.le_refl _)); obtain ⟨l0, l1, l2, l3, l4⟩ := KC.out wV BV)
      | (go_at_call 122; refine (HV2.out _ BJ).mono ?_; rintro e wV ⟨rfl, bV⟩; have BV := BJ.trans (bV.mono BJ.size); obtain ⟨l0, l1, l2, l3, l4⟩ := KC.out wV BV))
  all_goals
    go_wp2
    go_ret
    first
      | exact ⟨rfl, hB0.trans (BV.mono hB0.size)⟩
      | exact ⟨rfl, hB0.trans (BJ.mono hB0.size)⟩

set_option maxRecDepth 100000 in
set_option maxHeartbeats 8000000 in
theorem stable_any (n : Nat) (hn12 : n ≤ 12) (A : Option Addr) (c : Nat) (es : List E3) (hn : es.length ≤ 10000) (hz : checkG n es = 0) (q : Nat) (B : Option Addr) (d : Nat) (cs : List Int) (hcl : cs.length = n) (w : World)
    (h : Reads w w.heap.size 3 A es.length (edgeCells es)) (h' : Reads w w.heap.size 1 B n (ints cs)) :
    Calls Tryz.prog 92 #[pileV n A es.length c q B n d] w fun e w' => e = .returned (.bool (stabTo es cs q n)) ∧ Below w.heap.size w w' := by
  have HV := Lib.hid (fun (v : Nat) (hv : v < n) (W : World) (hB : Below w.heap.size w W) => rvalence_any n A c es hn hz q B n d v hv W ((h.below hB).more hB.size))
  have g0 := Blk.new w 80 (pileC n A es.length c q B n d)
  have hB0 : Below w.heap.size w (w.alloc (.cells (pileC n A es.length c q B n d) 80)) := (Below.refl _ _).alloc (Nat.le_refl _) _
  have HCL := Lib.hid hcl
  clear hz hcl
  simp only [pileV, pileC] at g0 hB0 HV ⊢
  have c3 := g0.cell 3
  go_enter Tryz.func92, Tryz.ntmps92
  go_wp2_with fail
  go_loopw [3, 4, 8] (fun _ _ i wl => ∃ k : Nat, k ≤ n ∧ i = .int .i64 k ∧ Hid (stabTo es cs q k = true) ∧ Below w.heap.size w wl ∧ Blk wl w.heap.size 80 #[.int .i64 n, .slice A es.length c, .int .i64 q, .slice B n d]) (fun _ _ i _ => n - (intOf i).toNat)
  case atStart => exact ⟨0, by omega, rfl, by simp [Hid, stabTo], hB0, g0⟩
  case round =>
    obtain ⟨k, hk, rfl, HT, hbel, g1⟩ := hrel
    clear g0 c3 hB0
    by_cases hlt : k < n
    · obtain ⟨x, hx⟩ := get_of_lt (xs := cs) (k := k) (by rw [HCL.out]; exact hlt)
      have hi : (k : Int) < (n : Int) := by omega
      obtain ⟨bB, oB, hA, hbB, hcell⟩ := (h'.below hbel).at_ (ints_at hx)
      subst hA
      have c0 := g1.cell 0
      have c1 := g1.cell 1
      have c2 := g1.cell 2
      have c3 := g1.cell 3
      have hst := stabTo_succ es cs q k
      rw [HT.out, Bool.true_and, getD_at hx] at hst
      have hge := fun hq hv => stabTo_false (es := es) (cs := cs) (q := q) (k := k) (n := n) hlt hq hv
      rw [getD_at hx] at hge
      have HG := Lib.hid hge
      clear hge
      by_cases hkq : k = q
      · have n1 : ((k : Int) != (q : Int)) = false := by simp [hkq]
        rw [decide_eq_true hkq, Bool.true_or] at hst
        have HS := Lib.hid hst
        clear hst hx hkq
        go_wp2
        go_roundw
        case rel => exact ⟨k + 1, by omega, by go_num, HS.out, hbel, g1⟩
        case measure => simp [intOf]; omega
      · have n1 : ((k : Int) != (q : Int)) = true := by rw [bne_iff_ne]; omega
        rw [decide_eq_false hkq, Bool.false_or] at hst
        have VC := Lib.hid (HV.out k hlt wr hbel)
        have HK := Lib.hid hkq
        by_cases hge : valE es k ≤ x
        · have hsf := HG.out hkq hge
          have HS := Lib.hid hsf
          obtain ⟨V, hV⟩ : ∃ V, valE es k = V := ⟨_, rfl⟩
          rw [hV] at VC hge
          clear hst hsf hx hkq hV
          go_wp2_with (go_at_call 122; refine (VC.out).mono ?_; rintro e wV ⟨rfl, bV⟩)
          go_ret
          exact ⟨by rw [HS.out]; rfl, hbel.trans (bV.mono hbel.size)⟩
        · rw [decide_eq_true (by omega)] at hst
          have HS := Lib.hid hst
          obtain ⟨V, hV⟩ : ∃ V, valE es k = V := ⟨_, rfl⟩
          rw [hV] at VC hge
          clear hst hx hkq hV
          go_wp2_with (go_at_call 122; refine (VC.out).mono ?_; rintro e wV ⟨rfl, bV⟩)
          go_roundw
          case rel => exact ⟨k + 1, by omega, by go_num, HS.out, hbel.trans (bV.mono hbel.size), g1.next bV⟩
          case measure => simp [intOf]; omega
    · obtain rfl : k = n := by omega
      go_wp2
      go_ret
      exact ⟨by rw [HT.out]; rfl, hbel⟩
end Go.Proofs.YtplgbapbgcipdaaGreat

/-! Package stabilize: wait; pileOf. -/
namespace Go.Proofs.YtplgbapbgcipdaaGreat
open Go.RowKit

set_option maxHeartbeats 2000000 in
theorem wait_any (base bp n : Nat) (hn : n ≤ 12) (a : PA) (d : List Int) (q : Int) (rows : List (List Int)) (val fired : List Int) (total : Int) (ws : List Bool) (v : Nat) (hv : v < n) (w : World) (h : PileW w base bp n a d q rows val fired total ws) :
    Calls Tryz.prog 116 #[.pointer (some ⟨bp, 0, none⟩), .int .i64 v] w fun e w' => (∃ v, e = .returned v) ∧ PileW w' base bp n a d q rows val fired total (ws.set v (unst q d val v)) ∧ Only (fun k => k = bp) w w' := by
  have HU := Lib.hid (fun m => unstable_any base bp n a d q rows val fired total ws v hv _ (h.drewN m))
  have HP := Lib.hid h
  obtain ⟨b0, hb0⟩ := get_of_lt (xs := ws) (k := v) (by have := h.wl; omega)
  have hfz := h.blk.frozen (6 + v)
  have hce : w.cell? ⟨bp, 6 + v, none⟩ = some (.bool b0) := (h.blk.cell (6 + v)).trans (by rw [Nat.add_comm]; simp [pileCells, hb0])
  have hi : (v : Int) < 12 := by omega
  clear h
  go_enter Tryz.func116, Tryz.ntmps116
  go_wp2
  go_region_with (go_at_call 142; refine (HU.out 1).mono ?_; rintro e w1 ⟨rfl, m, rfl⟩)
  all_goals
    go_wp2
    exact bodyPost_end (results_none rfl _ _ _) rfl ⟨⟨_, rfl⟩, (HP.out.drewN _).setW v _, ((Only.refl (fun k => k = bp) w).drewN _).setCell (p := ⟨bp, 6 + v, none⟩) (.inl rfl) _⟩
end Go.Proofs.YtplgbapbgcipdaaGreat

/-! What pileOf lays down: the table of single edges, the valences, the unstable vertices. -/
namespace Go.Proofs.YtplgbapbgcipdaaGreat
open Go.RowKit

def incE (xs : List Int) (i : Nat) : List Int := xs.set i (xs.getD i 0 + 1)
def incR (rows : List (List Int)) (a b : Nat) : List (List Int) := rows.set a (incE (rows.getD a []) b)
def edgeR (rows : List (List Int)) (p : Nat × Nat) : List (List Int) := if p.1 = p.2 then rows else incR (incR rows p.1 p.2) p.2 p.1
def edgeV (val : List Int) (p : Nat × Nat) : List Int := if p.1 = p.2 then val else incE (incE val p.1) p.2
def rowsL (n : Nat) (ps : List (Nat × Nat)) : List (List Int) := ps.foldl edgeR (List.replicate n (List.replicate n 0))
def valL (n : Nat) (ps : List (Nat × Nat)) : List Int := ps.foldl edgeV (List.replicate n 0)
def waitL (k : Nat) (q : Int) (d val : List Int) : List Bool := (List.range 12).map fun v => decide (v < k) && unst q d val v
theorem rowsL_snoc (n : Nat) {ps : List (Nat × Nat)} {k : Nat} {p : Nat × Nat} (h : ps[k]? = some p) : rowsL n (ps.take (k + 1)) = edgeR (rowsL n (ps.take k)) p := by rw [take_snoc h]; simp [rowsL]
theorem valL_snoc (n : Nat) {ps : List (Nat × Nat)} {k : Nat} {p : Nat × Nat} (h : ps[k]? = some p) : valL n (ps.take (k + 1)) = edgeV (valL n (ps.take k)) p := by rw [take_snoc h]; simp [valL]
theorem incE_length (xs : List Int) (i : Nat) : (incE xs i).length = xs.length := by simp [incE]
/-- Bounds of a table. -/
def TabBd (n : Nat) (K : Int) (rows : List (List Int)) : Prop := rows.length = n ∧ ∀ r ∈ rows, r.length = n ∧ ∀ x ∈ r, 0 ≤ x ∧ x ≤ K
def ValBd (n : Nat) (K : Int) (val : List Int) : Prop := val.length = n ∧ ∀ x ∈ val, 0 ≤ x ∧ x ≤ K
theorem ValBd.inc {n : Nat} {K : Int} {xs : List Int} (h : ValBd n K xs) (hK : 0 ≤ K) (i : Nat) : ValBd n (K + 1) (incE xs i) := by
  refine ⟨by rw [incE_length]; exact h.1, fun x hx => ?_⟩
  unfold incE at hx
  rcases List.mem_or_eq_of_mem_set hx with hx | rfl
  · have := h.2 x hx; omega
  · by_cases hi : i < xs.length
    · rw [List.getD_eq_getElem?_getD, List.getElem?_eq_getElem hi, Option.getD_some]
      have := h.2 _ (List.getElem_mem hi); omega
    · rw [List.getD_eq_getElem?_getD, List.getElem?_eq_none (by omega), Option.getD_none]; omega
theorem TabBd.inc {n : Nat} {K : Int} {rows : List (List Int)} (h : TabBd n K rows) (hK : 0 ≤ K) {a : Nat} (ha : a < n) (b : Nat) : TabBd n (K + 1) (incR rows a b) := by
  refine ⟨by unfold incR; rw [List.length_set]; exact h.1, fun r hr => ?_⟩
  unfold incR at hr
  rcases List.mem_or_eq_of_mem_set hr with hr | rfl
  · have := h.2 r hr
    exact ⟨this.1, fun x hx => by have := this.2 x hx; omega⟩
  · have hi : a < rows.length := by rw [h.1]; exact ha
    rw [List.getD_eq_getElem?_getD, List.getElem?_eq_getElem hi, Option.getD_some]
    exact ValBd.inc (h.2 _ (List.getElem_mem hi)) hK b
theorem edgeV_bd {n : Nat} {K : Int} {xs : List Int} (h : ValBd n K xs) (hK : 0 ≤ K) (p : Nat × Nat) : ValBd n (K + 2) (edgeV xs p) := by
  unfold edgeV
  split
  · exact ⟨h.1, fun x hx => by have := h.2 x hx; omega⟩
  · have := (h.inc hK p.1).inc (by omega) p.2
    exact ⟨this.1, fun x hx => by have := this.2 x hx; omega⟩
theorem edgeR_bd {n : Nat} {K : Int} {rows : List (List Int)} (h : TabBd n K rows) (hK : 0 ≤ K) {p : Nat × Nat} (h1 : p.1 < n) (h2 : p.2 < n) : TabBd n (K + 2) (edgeR rows p) := by
  unfold edgeR
  split
  · exact ⟨h.1, fun r hr => ⟨(h.2 r hr).1, fun x hx => by have := (h.2 r hr).2 x hx; omega⟩⟩
  · have := (h.inc hK h1 p.2).inc (by omega) h2 p.1
    exact ⟨this.1, fun r hr => ⟨(this.2 r hr).1, fun x hx => by have := (this.2 r hr).2 x hx; omega⟩⟩
theorem rep_bd (n : Nat) : ValBd n 0 (List.replicate n 0) := ⟨by simp, fun x hx => by rw [(List.mem_replicate.1 hx).2]; omega⟩
theorem valL_bd (n : Nat) (ps : List (Nat × Nat)) : ValBd n (2 * ps.length) (valL n ps) := by
  suffices h : ∀ (ps : List (Nat × Nat)) (K : Int) (xs : List Int), 0 ≤ K → ValBd n K xs → ValBd n (K + 2 * ps.length) (ps.foldl edgeV xs) by
    have := h ps 0 _ (Int.le_refl _) (rep_bd n)
    rwa [Int.zero_add] at this
  intro ps
  induction ps with
  | nil => intro K xs hK h; simpa using h
  | cons p ps ih =>
    intro K xs hK h
    have := ih (K + 2) _ (by omega) (edgeV_bd h hK p)
    rw [List.foldl_cons, List.length_cons]
    rwa [show K + 2 + 2 * (ps.length : Int) = K + 2 * ((ps.length + 1 : Nat) : Int) by omega] at this
theorem rowsL_bd (n : Nat) (ps : List (Nat × Nat)) (hp : ∀ p ∈ ps, p.1 < n ∧ p.2 < n) : TabBd n (2 * ps.length) (rowsL n ps) := by
  suffices h : ∀ (ps : List (Nat × Nat)) (K : Int) (xs : List (List Int)), (∀ p ∈ ps, p.1 < n ∧ p.2 < n) → 0 ≤ K → TabBd n K xs → TabBd n (K + 2 * ps.length) (ps.foldl edgeR xs) by
    have := h ps 0 (List.replicate n (List.replicate n 0)) hp (Int.le_refl _) ⟨by simp, fun r hr => by rw [(List.mem_replicate.1 hr).2]; exact rep_bd n⟩
    rwa [Int.zero_add] at this
  intro ps
  induction ps with
  | nil => intro K xs _ hK h; simpa using h
  | cons p ps ih =>
    intro K xs hp hK h
    have := ih (K + 2) _ (fun x hx => hp x (List.mem_cons_of_mem _ hx)) (by omega) (edgeR_bd h hK (hp p (List.mem_cons_self ..)).1 (hp p (List.mem_cons_self ..)).2)
    rw [List.foldl_cons, List.length_cons]
    rwa [show K + 2 + 2 * (ps.length : Int) = K + 2 * ((ps.length + 1 : Nat) : Int) by omega] at this
theorem endsL_ok {n : Nat} {es : List E3} (hok : ∀ e ∈ es, okE n e) : ∀ p ∈ endsL es, p.1 < n ∧ p.2 < n := by
  intro p hp
  unfold endsL at hp
  rw [List.mem_flatMap] at hp
  obtain ⟨e, he, hp⟩ := hp
  have h := hok e he
  unfold okE at h
  rw [(List.mem_replicate.1 hp).2]
  dsimp only
  omega
theorem waitL_succ (k : Nat) (hk : k < 12) (q : Int) (d val : List Int) : (waitL k q d val).set k (unst q d val k) = waitL (k + 1) q d val := by
  apply List.ext_getElem?
  intro i
  unfold waitL
  by_cases hi : i = k
  · subst hi
    rw [List.getElem?_set_self (by simp; exact hk)]
    simp [hk]
  · rw [List.getElem?_set_ne (fun e => hi e.symm), List.getElem?_map, List.getElem?_map]
    by_cases h12 : i < 12
    · rw [List.getElem?_range h12]
      simp only [Option.map_some]
      rw [show decide (i < k) = decide (i < k + 1) by rw [decide_eq_decide]; omega]
    · rw [List.getElem?_eq_none (by simp; omega)]; rfl
theorem waitL_zero (q : Int) (d val : List Int) : waitL 0 q d val = List.replicate 12 false := by
  unfold waitL
  simp [List.range_succ]
end Go.Proofs.YtplgbapbgcipdaaGreat

