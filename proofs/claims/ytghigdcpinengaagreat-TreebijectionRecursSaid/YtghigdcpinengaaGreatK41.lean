/-
  Texts of this claim, put together: GrownF.
-/
import Derived.Test.YtghigdcpinengaaGreatK39
import Derived.Test.YtghigdcpinengaaGreatK11
import Derived.Test.YtghigdcpinengaaGreatK31
/-! treebijection: grown, Config and Unused, with their errors. -/
namespace Go.Proofs.YtghigdcpinengaaGreat
open Go.RowKit

def confFE (n : Int) (es : List E3) (q : Int) (xs : List Int) : List Int × Int := if grownErr n es q xs = 0 then (confN (endsL es) n.toNat q.toNat (xs.map Int.toNat), 0) else ([], grownErr n es q xs)
def unusedFE (n : Int) (es : List E3) (q : Int) (xs : List Int) : List Int × Int := if grownErr n es q xs = 0 then (nI (unusedN (endsL es) n.toNat q.toNat (xs.map Int.toNat)), 0) else ([], grownErr n es q xs)
theorem nI_toNat (t : List Nat) : (nI t).map Int.toNat = t := by
  unfold nI; rw [List.map_map]
  exact (List.map_congr_left fun x _ => by simp).trans (List.map_id t)
theorem tree_join {n : Int} {es : List E3} {xs : List Int} (h : treeErr n es xs = 0) : joinErr n es = 0 := by
  obtain ⟨_, _, _, _, _, _, _, _, _, hj⟩ := tree_zero h
  exact hj
theorem grown_nat {n : Int} {es : List E3} {q : Int} {xs : List Int} (h : grownErr n es q xs = 0) : ∃ (m p : Nat) (t : List Nat), n = m ∧ q = p ∧ xs = nI t ∧ p < m ∧ m ≤ 12 ∧ TreeR m es t ∧ treeErr n es xs = 0 := by
  unfold grownErr at h
  by_cases h1 : treeErr n es xs = 0
  · rw [if_neg (fun hc => hc h1)] at h
    by_cases h2 : q < 0 ∨ n ≤ q
    · rw [if_pos h2] at h; cases h
    · rw [not_or] at h2
      obtain ⟨m, t, rfl, rfl, hR⟩ := treeR_of h1
      obtain ⟨p, rfl⟩ := Int.eq_ofNat_of_zero_le (show 0 ≤ q by omega)
      exact ⟨m, p, t, rfl, rfl, rfl, by omega, hR.hi, hR, h1⟩
  · rw [if_pos h1] at h; exact absurd h h1

set_option maxRecDepth 100000 in
set_option maxHeartbeats 4000000 in
theorem grown_ok (m p : Nat) (A : Option Addr) (c : Nat) (es : List E3) (hlen : es.length ≤ 10000) (hm : (endsL es).length ≤ 60) (B : Option Addr) (d : Nat) (t : List Nat) (hp : p < m) (hR : TreeR m es t) (hck : checkG m es = 0) (hz : treeErr m es (nI t) = 0) (w : World) (h : Reads w w.heap.size 3 A es.length (edgeCells es)) (h' : Reads w w.heap.size 1 B t.length (ints (nI t))) :
    Calls Tryz.prog 54 #[.agg #[.int .i64 m, .slice A es.length c], .int .i64 p, .slice B t.length d] w fun e w' => ∃ b, e = .returned (.tuple #[.pointer (some ⟨b, 0, none⟩), .int .i64 0]) ∧ Hid (FireOut w w' b m (endsL es) (fireB (endsL es) m p t)) ∧ Below w.heap.size w w' := by
  have hE := hR.hT.bd
  have hm12 := hR.hi
  have htl : t.length ≤ 12 := hR.len
  have TC : Hid (∀ W, Below w.heap.size w W → Calls Tryz.prog 89 #[.agg #[.int .i64 m, .slice A es.length c], .slice B t.length d] W fun e w' => e = .returned (.int .i64 0) ∧ Below W.heap.size W w') := by
    intro W hB
    have h6 := (h'.below hB).more hB.size
    have := tcheck_any m A c es hlen B d (nI t) (by rw [nI_length]; omega) W ((h.below hB).more hB.size) (by rw [nI_length]; exact h6)
    rw [nI_length, hz] at this
    exact this
  have LI : Hid (∀ W, Below w.heap.size w W → Calls Tryz.prog 85 #[.agg #[.int .i64 m, .slice A es.length c], .int .i64 p, .func (.func 90) #[.slice B t.length d] #[]] W fun e w' => ∃ b, e = .returned (.pointer (some ⟨b, 0, none⟩)) ∧ Hid (FireOut w w' b m (endsL es) (fireB (endsL es) m p t)) ∧ Below W.heap.size W w') := by
    intro W hB
    refine (lit_any m p 90 (.slice B t.length d) (ltB t) A c es hm12 hp hlen hck hm hE W ((h.below hB).more hB.size) (enters_of (P := Tryz.prog) Tryz.func90 (by kernel_rfl) rfl) (fun W' x e k hW' hx _ => ?_)).mono ?_
    · have h6 := (h'.below (hB.trans (hW'.mono hB.size))).more (hB.trans (hW'.mono hB.size)).size
      exact blights_any B d t (by omega) x e k W' h6
    · rintro e w' ⟨b, rfl, HF, hb⟩
      obtain ⟨a, T, base, f, p', so, z1, z2⟩ := HF.out
      have hfi : FI (endsL es) m p (fireB (endsL es) m p t) := (FI.run (lit := ltB t) hE hp).1
      refine ⟨b, rfl, ?_, hb⟩
      have := asc_of hfi.tnd (fun e he => hfi.lt e (hfi.tsub e he)) p' so
      rw [this] at f
      exact ⟨_, a, base, f, Nat.le_trans hB.size z1, z2⟩
  have g0 := Blk.new w 24 #[.int .i64 m, .slice A es.length c]
  have hB0 : Below w.heap.size w (w.alloc (.cells #[.int .i64 m, .slice A es.length c] 24)) := (Below.refl _ _).alloc (Nat.le_refl _) _
  have c0 := g0.cell 0
  have c1 := g0.cell 1
  have hp1 : (p : Int) < (m : Int) := by omega
  have hp0 : (0 : Int) ≤ (p : Int) := by omega
  have hp2 : decide ((p : Int) ≥ (m : Int)) = false := decide_eq_false (by omega)
  obtain ⟨S, hS⟩ : ∃ S, fireB (endsL es) m p t = S := ⟨_, rfl⟩
  rw [hS] at LI ⊢
  clear hz hck hE h h' hm hR htl hS
  go_enter Tryz.func54, Tryz.ntmps54
  go_wp2_with fail
  refine (TC.out _ hB0).mono ?_
  rintro e w1 ⟨rfl, hb1⟩
  have hB1 := hB0.trans (hb1.mono hB0.size)
  have g1 := g0.next hb1
  have k0 := g1.cell 0
  have k1 := g1.cell 1
  clear c0 c1
  go_wp2_with fail
  refine (LI.out _ hB1).mono ?_
  rintro e w2 ⟨b, rfl, HF, hb2⟩
  have hB2 := hB1.trans (hb2.mono hB1.size)
  go_wp2
  go_ret2
  exact ⟨b, rfl, HF, hB2⟩

set_option maxHeartbeats 4000000 in
theorem grown_bad (n q : Int) (A : Option Addr) (c : Nat) (es : List E3) (hlen : es.length ≤ 10000) (B : Option Addr) (d : Nat) (xs : List Int) (hm : xs.length ≤ 1048576) (z : Int) (hcz : grownErr n es q xs = z) (hz : z ≠ 0) (w : World) (h : Reads w w.heap.size 3 A es.length (edgeCells es)) (h' : Reads w w.heap.size 1 B xs.length (ints xs)) :
    Calls Tryz.prog 54 #[.agg #[.int .i64 n, .slice A es.length c], .int .i64 q, .slice B xs.length d] w fun e w' => e = .returned (.tuple #[.pointer none, .int .i64 z]) ∧ Below w.heap.size w w' := by
  have TC := Lib.hid (fun (W : World) (hB : Below w.heap.size w W) => tcheck_any n A c es hlen B d xs hm W ((h.below hB).more hB.size) ((h'.below hB).more hB.size))
  have g0 := Blk.new w 24 #[.int .i64 n, .slice A es.length c]
  have hB0 : Below w.heap.size w (w.alloc (.cells #[.int .i64 n, .slice A es.length c] 24)) := (Below.refl _ _).alloc (Nat.le_refl _) _
  have c0 := g0.cell 0
  have c1 := g0.cell 1
  unfold grownErr at hcz
  obtain ⟨x, hr⟩ : ∃ p, treeErr n es xs = p := ⟨_, rfl⟩
  rw [hr] at TC hcz
  clear hr h h'
  by_cases hx : x = 0
  · subst hx
    rw [if_neg (by simp)] at hcz
    by_cases h2 : q < 0 ∨ n ≤ q
    · rw [if_pos h2] at hcz
      subst hcz
      clear hz
      have hrest : ∀ w1, Below w.heap.size w w1 → w1.cell? ⟨w.heap.size, 0, none⟩ = some (.int .i64 n) → True := fun _ _ _ => trivial
      by_cases h3 : q < 0
      · go_enter Tryz.func54, Tryz.ntmps54
        go_wp2_with fail
        refine (TC.out _ hB0).mono ?_
        rintro e w1 ⟨rfl, hb1⟩
        have hB1 := hB0.trans (hb1.mono hB0.size)
        have g1 := g0.next hb1
        have k0 := g1.cell 0
        clear c0 c1 hrest
        go_wp2
        go_ret2
        exact ⟨rfl, hB1⟩
      · have h4 : n ≤ q := by omega
        have h5 : decide (q ≥ n) = true := decide_eq_true h4
        go_enter Tryz.func54, Tryz.ntmps54
        go_wp2_with fail
        refine (TC.out _ hB0).mono ?_
        rintro e w1 ⟨rfl, hb1⟩
        have hB1 := hB0.trans (hb1.mono hB0.size)
        have g1 := g0.next hb1
        have k0 := g1.cell 0
        clear c0 c1 hrest
        go_wp2
        go_ret2
        exact ⟨rfl, hB1⟩
    · rw [if_neg h2] at hcz; exact absurd hcz.symm hz
  · rw [if_pos hx] at hcz
    subst hcz
    have hxb : (x != 0) = true := by simpa using hx
    clear hx hz
    go_enter Tryz.func54, Tryz.ntmps54
    go_wp2_with fail
    refine (TC.out _ hB0).mono ?_
    rintro e w1 ⟨rfl, hb1⟩
    have hB1 := hB0.trans (hb1.mono hB0.size)
    go_wp2
    go_ret2
    exact ⟨rfl, hB1⟩

set_option maxRecDepth 100000 in
set_option maxHeartbeats 4000000 in
theorem config30_any (n q : Int) (A : Option Addr) (c : Nat) (es : List E3) (hlen : es.length ≤ 10000) (hm0 : checkG n es = 0 → (endsL es).length ≤ 60) (B : Option Addr) (d : Nat) (xs : List Int) (hl : xs.length ≤ 1048576) (w : World) (h : Reads w w.heap.size 3 A es.length (edgeCells es)) (h' : Reads w w.heap.size 1 B xs.length (ints xs)) :
    Calls Tryz.prog 18 #[.agg #[.int .i64 n, .slice A es.length c], .int .i64 q, .slice B xs.length d] w fun e w' => ∃ A' c', e = .returned (.tuple #[.slice A' (confFE n es q xs).1.length c', .int .i64 (confFE n es q xs).2]) ∧ OwnI w' w.heap.size A' c' (confFE n es q xs).1 ∧ Below w.heap.size w w' := by
  have g0 := Blk.new w 24 #[.int .i64 n, .slice A es.length c]
  have hB0 : Below w.heap.size w (w.alloc (.cells #[.int .i64 n, .slice A es.length c] 24)) := (Below.refl _ _).alloc (Nat.le_refl _) _
  have c0 := g0.cell 0
  have c1 := g0.cell 1
  by_cases hz : grownErr n es q xs = 0
  · obtain ⟨m, p, t, rfl, rfl, rfl, hp, hm12, hR, hte⟩ := grown_nat hz
    have hck : checkG m es = 0 := (join_zero (tree_join hte)).1
    have hm := hm0 hck
    rw [nI_length] at h' hl ⊢
    have CO := Lib.hid (fun (W : World) (hB : Below w.heap.size w W) => grown_ok m p A c es hlen hm B d t hp hR hck hte W ((h.below hB).more hB.size) ((h'.below hB).more hB.size))
    have hE : confFE m es p (nI t) = (confN (endsL es) m p t, 0) := by unfold confFE; rw [if_pos hz, nI_toNat]; rfl
    rw [hE]
    dsimp only
    have hcl : (confN (endsL es) m p t).length = m := (conf_facts hR.hT.bd hp t).1
    obtain ⟨S, hS⟩ : ∃ S, fireB (endsL es) m p t = S := ⟨_, rfl⟩
    have hC : confN (endsL es) m p t = S.times := by rw [← hS]; rfl
    rw [hS] at CO
    rw [hC] at hcl ⊢
    rw [hcl]
    have HCL := Lib.hid hcl
    clear hE hS hz h h' hm hC hcl hR hte hck hl
    go_enter Tryz.func18, Tryz.ntmps18
    go_wp2_with fail
    refine (CO.out _ hB0).mono ?_
    rintro e w1 ⟨b, rfl, HF, hb1⟩
    have hB1 := hB0.trans (hb1.mono hB0.size)
    obtain ⟨lv, a, base, f, z1, z2⟩ := HF.out
    have k4 : w1.cell? ⟨b, 3, none⟩ = some (.slice (some ⟨a.gT, 0, none⟩) m m) := f.blk.cell 3
    have R2 : Hid (OwnI w1 w.heap.size (some ⟨a.gT, 0, none⟩) m S.times) := f.times.mono (Nat.le_trans hB0.size z1)
    clear f HF
    go_wp2
    go_ret2
    exact ⟨_, _, rfl, R2.out, hB1⟩
  · have hE : confFE n es q xs = ([], grownErr n es q xs) := by unfold confFE; rw [if_neg hz]
    have CO := Lib.hid (fun (W : World) (hB : Below w.heap.size w W) => grown_bad n q A c es hlen B d xs hl _ rfl hz W ((h.below hB).more hB.size) ((h'.below hB).more hB.size))
    rw [hE]
    dsimp only
    obtain ⟨z, hzz⟩ : ∃ z, grownErr n es q xs = z := ⟨_, rfl⟩
    rw [hzz] at CO hz ⊢
    have hzb : (z != 0) = true := by simpa using hz
    clear hE hzz hz h h' hm0
    go_enter Tryz.func18, Tryz.ntmps18
    go_wp2_with fail
    refine (CO.out _ hB0).mono ?_
    rintro e w1 ⟨rfl, hb1⟩
    have hB1 := hB0.trans (hb1.mono hB0.size)
    go_wp2
    go_ret2
    exact ⟨_, _, rfl, OwnI.nil_ _ _, hB1⟩

set_option maxRecDepth 100000 in
set_option maxHeartbeats 4000000 in
theorem unused30_any (n q : Int) (A : Option Addr) (c : Nat) (es : List E3) (hlen : es.length ≤ 10000) (hm0 : checkG n es = 0 → (endsL es).length ≤ 60) (B : Option Addr) (d : Nat) (xs : List Int) (hl : xs.length ≤ 1048576) (w : World) (h : Reads w w.heap.size 3 A es.length (edgeCells es)) (h' : Reads w w.heap.size 1 B xs.length (ints xs)) :
    Calls Tryz.prog 20 #[.agg #[.int .i64 n, .slice A es.length c], .int .i64 q, .slice B xs.length d] w fun e w' => ∃ A' c', e = .returned (.tuple #[.slice A' (unusedFE n es q xs).1.length c', .int .i64 (unusedFE n es q xs).2]) ∧ OwnI w' w.heap.size A' c' (unusedFE n es q xs).1 ∧ Below w.heap.size w w' := by
  have g0 := Blk.new w 24 #[.int .i64 n, .slice A es.length c]
  have hB0 : Below w.heap.size w (w.alloc (.cells #[.int .i64 n, .slice A es.length c] 24)) := (Below.refl _ _).alloc (Nat.le_refl _) _
  have c0 := g0.cell 0
  have c1 := g0.cell 1
  by_cases hz : grownErr n es q xs = 0
  · obtain ⟨m, p, t, rfl, rfl, rfl, hp, hm12, hR, hte⟩ := grown_nat hz
    have hck : checkG m es = 0 := (join_zero (tree_join hte)).1
    have hm := hm0 hck
    rw [nI_length] at h' hl ⊢
    have CO := Lib.hid (fun (W : World) (hB : Below w.heap.size w W) => grown_ok m p A c es hlen hm B d t hp hR hck hte W ((h.below hB).more hB.size) ((h'.below hB).more hB.size))
    have hE : unusedFE m es p (nI t) = (nI (unusedN (endsL es) m p t), 0) := by unfold unusedFE; rw [if_pos hz, nI_toNat]; rfl
    rw [hE]
    dsimp only
    rw [nI_length]
    obtain ⟨S, hS⟩ : ∃ S, fireB (endsL es) m p t = S := ⟨_, rfl⟩
    have hU : unusedN (endsL es) m p t = (List.range (endsL es).length).filter fun e => !decide (e ∈ S.steps) := by rw [← hS]; rfl
    have hsl : S.steps.length ≤ 60 := by
      have hfi : FI (endsL es) m p S := by rw [← hS]; exact (FI.run (lit := ltB t) hR.hT.bd hp).1
      have := nodup_sub_le hfi.nodup (m := List.range (endsL es).length) (fun x hx => List.mem_range.2 (hfi.lt x hx))
      rw [List.length_range] at this; omega
    rw [hS] at CO
    rw [hU]
    obtain ⟨E, hEE⟩ : ∃ E, endsL es = E := ⟨_, rfl⟩
    rw [hEE] at CO hm ⊢
    clear hE hS hz h h' hU hR hte hck hl hEE
    go_enter Tryz.func20, Tryz.ntmps20
    go_wp2_with fail
    refine (CO.out _ hB0).mono ?_
    rintro e w1 ⟨b, rfl, HF, hb1⟩
    have hB1 := hB0.trans (hb1.mono hB0.size)
    obtain ⟨lv, a, base, f, z1, z2⟩ := HF.out
    have g4 : Blk w1 b 89 (fireC E m lv a { S with tree := ascN E.length S.tree } []) := f.blk
    have R2 := Lib.hid (readsN f.steps rfl)
    have k4 : w1.cell? ⟨b, 0, none⟩ = some (.slice a.AE E.length a.cE) := g4.cell 0
    have hz1 : w.heap.size ≤ w1.heap.size := hB1.size
    obtain ⟨N, hN⟩ : ∃ N, E.length = N := ⟨_, rfl⟩
    have G4 := Lib.hid g4
    rw [hN] at k4 hm
    have HN := Lib.hid hN
    have HB1 := Lib.hid hB1
    clear f HF hN g0 c0 c1 g4 hB1
    go_wp2_with fail
    go_loopw [10, 27] (fun o i wr => ∃ (k : Nat) (A : Option Addr) (c : Nat) (r : List Nat), k ≤ N ∧ i = .int .i64 k ∧ o = .slice A (nI r).length c ∧ Hid (((List.range k).filter fun e => !decide (e ∈ S.steps)) = r) ∧ (nI r).length ≤ k ∧ OwnI wr w1.heap.size A c (nI r) ∧ Below w1.heap.size w1 wr) (fun _ i _ => N - (intOf i).toNat)
    case atStart => exact ⟨0, none, 0, [], by omega, rfl, rfl, rfl, by simp [nI], OwnI.nil_ _ _, Below.refl _ _⟩
    case round =>
      obtain ⟨k, Ao, co, r, hk, rfl, rfl, HR, hrl, hown, hbel⟩ := hrel
      have hsz := hbel.size
      clear k4
      by_cases hlt : k < N
      · have hi : (k : Int) < (N : Int) := by omega
        have k44 : wr.cell? ⟨b, 4, none⟩ = some (.slice a.AS S.steps.length a.cS) := (G4.out.next hbel).cell 4
        have HR1 : Hid (((List.range (k + 1)).filter fun e => !decide (e ∈ S.steps)) = r ++ (if k ∈ S.steps then [] else [k])) := by
          rw [Hid, List.range_succ, List.filter_append, HR.out]
          by_cases hm : k ∈ S.steps <;> simp [hm]
        have CA : Hid (Calls Tryz.prog 33 #[.slice a.AS S.steps.length a.cS, .int .i64 (k : Int)] wr fun e w' => e = .returned (.bool (decide (k ∈ S.steps))) ∧ wr = w') := by
          have h7 := (R2.out.below hbel).more hbel.size
          have := contains_any a.AS a.cS (nI S.steps) (by rw [nI_length]; omega) (k : Int) wr (by rw [nI_length]; exact h7)
          rw [nI_length] at this
          have e1 : decide ((k : Int) ∈ nI S.steps) = decide (k ∈ S.steps) := by
            unfold nI
            rw [Bool.eq_iff_iff, decide_eq_true_eq, decide_eq_true_eq, List.mem_map]
            exact ⟨fun ⟨a, ha, hae⟩ => by have : a = k := by omega
                                          exact this ▸ ha, fun h => ⟨k, h, rfl⟩⟩
          rw [e1] at this
          exact this
        by_cases hm : k ∈ S.steps
        · rw [decide_eq_true hm] at CA
          rw [if_pos hm, List.append_nil] at HR1
          clear hm HR
          go_wp2_with fail
          refine (CA.out).mono ?_
          rintro e w9 ⟨rfl, rfl⟩
          go_wp2
          go_roundw
          case rel => exact ⟨k + 1, Ao, co, r, by omega, by go_num, rfl, HR1.out, by omega, hown, hbel⟩
          case measure => simp [intOf]; omega
        · rw [decide_eq_false hm] at CA
          rw [if_neg hm] at HR1
          clear hm HR
          go_wp2_with fail
          refine (CA.out).mono ?_
          rintro e w9 ⟨rfl, rfl⟩
          go_wp2_with (at_builtin; refine push_int rfl (.tmp 37) (.tmp 39) _ rfl Tryz.underlying25 w1.heap.size Ao co (nI r) (k : Int) rfl hown rfl rfl (by omega) hsz ?_; intro A2 c2 w2 hown2 hg2 hb2)
          have e2 : nI (r ++ [k]) = nI r ++ [(k : Int)] := by simp [nI]
          have HE2 := Lib.hid e2
          clear e2
          go_roundw
          case rel => exact ⟨k + 1, A2, c2, r ++ [k], by omega, by go_num, by rw [HE2.out]; simp, HR1.out, by rw [HE2.out]; simp; omega, by rw [HE2.out]; exact hown2, hbel.trans (hb2.mono (Nat.le_refl _))⟩
          case measure => simp [intOf]; omega
      · obtain rfl : k = N := by omega
        rw [nI_length] at *
        go_wp2
        go_ret2
        rw [HN.out, HR.out]
        exact ⟨_, _, rfl, hown.mono hz1, HB1.out.trans (hbel.mono hz1)⟩
  · have hE : unusedFE n es q xs = ([], grownErr n es q xs) := by unfold unusedFE; rw [if_neg hz]
    have CO := Lib.hid (fun (W : World) (hB : Below w.heap.size w W) => grown_bad n q A c es hlen B d xs hl _ rfl hz W ((h.below hB).more hB.size) ((h'.below hB).more hB.size))
    rw [hE]
    dsimp only
    obtain ⟨z, hzz⟩ : ∃ z, grownErr n es q xs = z := ⟨_, rfl⟩
    rw [hzz] at CO hz ⊢
    have hzb : (z != 0) = true := by simpa using hz
    clear hE hzz hz h h' hm0
    go_enter Tryz.func20, Tryz.ntmps20
    go_wp2_with fail
    refine (CO.out _ hB0).mono ?_
    rintro e w1 ⟨rfl, hb1⟩
    have hB1 := hB0.trans (hb1.mono hB0.size)
    go_wp2
    go_ret2
    exact ⟨_, _, rfl, OwnI.nil_ _ _, hB1⟩

end Go.Proofs.YtghigdcpinengaaGreat

