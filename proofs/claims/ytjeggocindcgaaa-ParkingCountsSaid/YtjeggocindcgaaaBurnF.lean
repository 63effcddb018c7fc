/-
  burning.Burn and Superstable with their errors.
-/
import Derived.Test.YtjeggocindcgaaaBurn
namespace Go.Proofs.Ytjeggocindcgaaa
open Go.RowKit Go.Shelf

/-- What Burn, Superstable return. -/
def burnE (n : Int) (es : List E3) (q : Int) (cs : List Int) : List Int × List Int × Int := if burnErr n es q cs = 0 then (natI (burntL es cs n.toNat q.toNat), natI (restL n.toNat (burntL es cs n.toNat q.toNat)), 0) else ([], [], burnErr n es q cs)
def superE (n : Int) (es : List E3) (q : Int) (cs : List Int) : Bool × Int := if burnErr n es q cs = 0 then (decide (restL n.toNat (burntL es cs n.toNat q.toNat) = []), 0) else (false, burnErr n es q cs)
theorem burnE_len {n : Int} {es : List E3} {q : Int} {cs : List Int} : (burnE n es q cs).1.length ≤ 12 ∧ (burnE n es q cs).2.1.length ≤ 12 := by
  unfold burnE
  split
  · rename_i hz
    obtain ⟨hG, _, hq0, hqn, _⟩ := conf_zero (burn_zero hz).1
    have hhi := hG.hi
    have h1 := nodup_len (burnL_ok (es := es) (c := cs) (n := n.toNat) n.toNat [q.toNat] ⟨by simp, by simp; omega⟩)
    have h2 := restL_length n.toNat (burntL es cs n.toNat q.toNat)
    dsimp only
    rw [natI_length, natI_length]
    unfold burntL
    unfold burntL at h2
    omega
  · simp

set_option maxRecDepth 100000 in
set_option maxHeartbeats 4000000 in
theorem burn_any (n : Int) (A : Option Addr) (c : Nat) (es : List E3) (hn : es.length ≤ 1048576) (q : Int) (B : Option Addr) (d : Nat) (cs : List Int) (hm : cs.length ≤ 1048000) (w : World) (h : Reads w w.heap.size 3 A es.length (edgeCells es)) (h' : Reads w w.heap.size 1 B cs.length (ints cs)) :
    Calls Try.prog 64 #[.agg #[.int .i64 n, .slice A es.length c], .int .i64 q, .slice B cs.length d] w fun e w' => ∃ A1 c1 A2 c2, e = .returned (.tuple #[.slice A1 (burnE n es q cs).1.length c1, .slice A2 (burnE n es q cs).2.1.length c2, .int .i64 (burnE n es q cs).2.2]) ∧
      OwnI w' w.heap.size A1 c1 (burnE n es q cs).1 ∧ OwnI w' w.heap.size A2 c2 (burnE n es q cs).2.1 ∧ Below w.heap.size w w' := by
  by_cases hz : burnErr n es q cs = 0
  · obtain ⟨hG, _, hq0, hqn, _⟩ := conf_zero (burn_zero hz).1
    have hlo := hG.lo
    obtain ⟨m, rfl⟩ := Int.eq_ofNat_of_zero_le (show 0 ≤ n by omega)
    obtain ⟨p, rfl⟩ := Int.eq_ofNat_of_zero_le hq0
    have hE : burnE m es p cs = (natI (burntL es cs m p), natI (restL m (burntL es cs m p)), 0) := by unfold burnE; rw [if_pos hz]; simp
    rw [hE]
    refine (burn_ok m A c es hn p B d cs hm hz w h h').mono ?_
    rintro e w' ⟨A1, c1, A2, c2, he, o1, o2, hb⟩
    exact ⟨A1, c1, A2, c2, by dsimp only; rw [natI_length, natI_length]; exact he, o1, o2, hb⟩
  · have hE : burnE n es q cs = ([], [], burnErr n es q cs) := by unfold burnE; rw [if_neg hz]
    rw [hE]
    have hbc := bcheck_any n A c es hn q B d cs (by omega)
    obtain ⟨z, hzz⟩ : ∃ z, burnErr n es q cs = z := ⟨_, rfl⟩
    rw [hzz] at hbc hz ⊢
    have hb : (z == 0) = false := by simpa using hz
    have BC := Lib.hid hbc
    clear hz hE hbc hzz
    refine (callsIn_wide (n := 3)).1 ?_
    refine callsIn_of_wp_marks Try.func64 rfl trivial ?_
    simp only [Try.ntmps64, List.size_toArray, List.length_cons, List.length_nil, Nat.reduceAdd, Nat.reduceSub, Array.replicate_succ, Array.replicate_zero, List.push_toArray, List.append_toArray, List.nil_append, List.cons_append]
    gi_wp2_with fail
    refine ⟨trivial, ?_⟩
    refine (inW (BC.out _ ((h.alloc (Nat.le_refl _) _).more (by simp)) ((h'.alloc (Nat.le_refl _) _).more (by simp)))).mono ?_
    rintro e w1 ⟨rfl, hb1⟩
    have hbel1 : Below w.heap.size w w1 := ((Below.refl _ _).alloc (Nat.le_refl _) _).trans (hb1.mono (by simp))
    gi_wp2
    refine end_marks [] _ trivial fun w' ho => ⟨.tuple #[.slice none 0 0, .slice none 0 0, .int .i64 z], by simp [results, Try.results64, go_sem], none, 0, none, 0, rfl, OwnI.nil_ _ _, OwnI.nil_ _ _, ?_⟩
    exact hbel1.trans (ho.below (fun k hk e => by cases e) hbel1.size)

set_option maxRecDepth 100000 in
set_option maxHeartbeats 2000000 in
theorem super_any (n : Int) (A : Option Addr) (c : Nat) (es : List E3) (hn : es.length ≤ 1048576) (q : Int) (B : Option Addr) (d : Nat) (cs : List Int) (hm : cs.length ≤ 1048000) (w : World) (h : Reads w w.heap.size 3 A es.length (edgeCells es)) (h' : Reads w w.heap.size 1 B cs.length (ints cs)) :
    Calls Try.prog 40 #[.agg #[.int .i64 n, .slice A es.length c], .int .i64 q, .slice B cs.length d] w fun e w' => e = .returned (.tuple #[.bool (superE n es q cs).1, .int .i64 (superE n es q cs).2]) ∧ Below w.heap.size w w' := by
  have hE : superE n es q cs = (decide ((burnE n es q cs).2.2 = 0) && decide ((burnE n es q cs).2.1.length = 0), (burnE n es q cs).2.2) := by
    unfold superE burnE
    by_cases hz : burnErr n es q cs = 0
    · rw [if_pos hz, if_pos hz]
      simp [natI_length]
    · rw [if_neg hz, if_neg hz]
      simp [hz]
  have BC := Lib.hid (fun w h h' => burn_any n A c es hn q B d cs hm w h h')
  rw [hE]
  clear hE
  obtain ⟨⟨l, r, x⟩, hp⟩ : ∃ p, burnE n es q cs = p := ⟨_, rfl⟩
  rw [hp] at BC ⊢
  clear hp
  dsimp only at BC ⊢
  have g0 := Blk.new w 52 #[.int .i64 n, .slice A es.length c]
  by_cases hx : x = 0
  · subst hx
    obtain ⟨m, hm'⟩ : ∃ m, r.length = m := ⟨_, rfl⟩
    go_enter Try.func40, Try.ntmps40
    go_wp2_with fail
    refine (BC.out _ ((h.alloc (Nat.le_refl _) _).more (by simp)) ((h'.alloc (Nat.le_refl _) _).more (by simp))).mono ?_
    rintro e w1 ⟨A1, c1, A2, c2, rfl, _, _, hb1⟩
    have hbel1 : Below w.heap.size w w1 := ((Below.refl _ _).alloc (Nat.le_refl _) _).trans (hb1.mono (by simp))
    go_wp2
    go_ret2
    refine ⟨?_, hbel1⟩
    rw [hm', show ((m : Int) == 0) = decide (m = 0) from by rw [Bool.eq_iff_iff]; simp]
    simp
  · have hxb : (x == 0) = false := by simpa using hx
    rw [decide_eq_false hx, Bool.false_and]
    clear hx
    go_enter Try.func40, Try.ntmps40
    go_wp2_with fail
    refine (BC.out _ ((h.alloc (Nat.le_refl _) _).more (by simp)) ((h'.alloc (Nat.le_refl _) _).more (by simp))).mono ?_
    rintro e w1 ⟨A1, c1, A2, c2, rfl, _, _, hb1⟩
    have hbel1 : Below w.heap.size w w1 := ((Below.refl _ _).alloc (Nat.le_refl _) _).trans (hb1.mono (by simp))
    go_wp2
    go_ret2
    exact ⟨rfl, hbel1⟩
end Go.Proofs.Ytjeggocindcgaaa
