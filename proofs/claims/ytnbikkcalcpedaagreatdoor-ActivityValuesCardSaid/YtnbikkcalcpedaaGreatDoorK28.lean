/-
  Texts of this claim, put together: TCyc, TIter, RPath, TCycM, TSwap, RSubset13.
-/
import Derived.Test.YtnbikkcalcpedaaGreatDoorK25
import Derived.Test.YtnbikkcalcpedaaGreatDoorK10
import Derived.Test.YtnbikkcalcpedaaGreatDoorK03
import Derived.Test.YtnbikkcalcpedaaGreatDoorK26
import Derived.Deep.RegionWith
import Derived.Test.YtnbikkcalcpedaaGreatDoorK27
import Derived.Deep.RegionHeld3
import Derived.Test.YtnbikkcalcpedaaGreatDoorK13
import Derived.Deep.RegionLaw
import Derived.Deep.DeepMust
import Derived.Test.YtnbikkcalcpedaaGreatDoorK04
import Derived.Test.YtnbikkcalcpedaaGreatDoorK09
/-! Package tree: Cycle (what it returns; the refusals). -/
namespace Go.Proofs.YtnbikkcalcpedaaGreatDoor
open Go.RowKit

/-- What Cycle returns. -/
def cycleE (n : Int) (es : List E3) (xs : List Int) (e : Int) : List Int × Int :=
  if treeErr n es xs ≠ 0 then ([], treeErr n es xs) else if e < 0 ∨ ((endsL es).length : Int) ≤ e then ([], 2) else if e ∈ xs then ([], 15) else
    match (endsL es)[e.toNat]? with
    | some ab => (sortG ltI (nI (pathL (endsL es) (toN xs) ab.1 ab.2) ++ [e]), 0)
    | none => ([], 2)

set_option maxRecDepth 100000 in
set_option maxHeartbeats 4000000 in
theorem tcycle_err (n : Int) (A : Option Addr) (c : Nat) (es : List E3) (hn : es.length ≤ 10000) (B : Option Addr) (d : Nat) (xs : List Int) (hm : xs.length ≤ 1048576) (x : Int) (w : World) (h : Reads w w.heap.size 3 A es.length (edgeCells es)) (h' : Reads w w.heap.size 1 B xs.length (ints xs)) (hj : treeErr n es xs ≠ 0) :
    Calls Tryz.prog 74 #[.agg #[.int .i64 n, .slice A es.length c], .slice B xs.length d, .int .i64 x] w fun e w' => ∃ A' c', e = .returned (.tuple #[.slice A' (cycleE n es xs x).1.length c', .int .i64 (cycleE n es xs x).2]) ∧ OwnI w' w.heap.size A' c' (cycleE n es xs x).1 ∧ Below w.heap.size w w' := by
  have GC := Lib.hid (fun (W : World) (hB : Below w.heap.size w W) => checked_any n A c es hn B d xs hm W ((h.below hB).more hB.size) ((h'.below hB).more hB.size))
  have g0 := Blk.new w 24 #[.int .i64 n, .slice A es.length c]
  have hb0 : Below w.heap.size w (w.alloc (.cells #[.int .i64 n, .slice A es.length c] 24)) := (Below.refl _ _).alloc (Nat.le_refl _) _
  have c0 := g0.cell 0
  have c1 := g0.cell 1
  have HE : Hid (cycleE n es xs x = ([], treeErr n es xs)) := by unfold Hid cycleE; rw [if_pos hj]
  rw [HE.out]
  obtain ⟨z, hzz⟩ : ∃ z, treeErr n es xs = z := ⟨_, rfl⟩
  rw [hzz] at GC hj ⊢
  have hb : (z != 0) = true := by simpa using hj
  have HZ := Lib.hid hj
  clear hj hzz HE
  go_enter Tryz.func74, Tryz.ntmps74
  go_wp2_with fail
  refine (GC.out _ hb0).mono ?_
  rintro e w1 ⟨Ar, lr, cr, rfl, _, hg2, hb1⟩
  obtain ⟨rfl, rfl⟩ := hg2 HZ.out
  go_wp2
  go_ret2
  exact ⟨none, 0, rfl, OwnI.nil_ _ _, hb0.trans (hb1.mono hb0.size)⟩
set_option maxRecDepth 100000 in
set_option maxHeartbeats 4000000 in
theorem tcycle_neg (n : Int) (A : Option Addr) (c : Nat) (es : List E3) (hn : es.length ≤ 10000) (B : Option Addr) (d : Nat) (xs : List Int) (hm : xs.length ≤ 1048576) (x : Int) (w : World) (h : Reads w w.heap.size 3 A es.length (edgeCells es)) (h' : Reads w w.heap.size 1 B xs.length (ints xs)) (hj : treeErr n es xs = 0) (hx : x < 0) :
    Calls Tryz.prog 74 #[.agg #[.int .i64 n, .slice A es.length c], .slice B xs.length d, .int .i64 x] w fun e w' => ∃ A' c', e = .returned (.tuple #[.slice A' (cycleE n es xs x).1.length c', .int .i64 (cycleE n es xs x).2]) ∧ OwnI w' w.heap.size A' c' (cycleE n es xs x).1 ∧ Below w.heap.size w w' := by
  have GC := Lib.hid (fun (W : World) (hB : Below w.heap.size w W) => checked_any n A c es hn B d xs hm W ((h.below hB).more hB.size) ((h'.below hB).more hB.size))
  have g0 := Blk.new w 24 #[.int .i64 n, .slice A es.length c]
  have hb0 : Below w.heap.size w (w.alloc (.cells #[.int .i64 n, .slice A es.length c] 24)) := (Below.refl _ _).alloc (Nat.le_refl _) _
  have c0 := g0.cell 0
  have c1 := g0.cell 1
  rw [hj] at GC
  have HE : Hid (cycleE n es xs x = ([], 2)) := by unfold Hid cycleE; rw [if_neg (fun hc => hc hj), if_pos (.inl hx)]
  rw [HE.out]
  have hd := decide_eq_true hx
  obtain ⟨E, hE⟩ : ∃ E, endsL es = E := ⟨_, rfl⟩
  rw [hE] at GC
  clear hj hE HE
  go_enter Tryz.func74, Tryz.ntmps74
  go_wp2_with fail
  refine (GC.out _ hb0).mono ?_
  rintro e w1 ⟨Ar, lr, cr, rfl, hg1, _, hb1⟩
  obtain ⟨rfl, HQ⟩ := hg1 rfl
  clear HQ
  go_wp2
  go_ret2
  exact ⟨none, 0, rfl, OwnI.nil_ _ _, hb0.trans (hb1.mono hb0.size)⟩
set_option maxRecDepth 100000 in
set_option maxHeartbeats 4000000 in
theorem tcycle_big (n : Int) (A : Option Addr) (c : Nat) (es : List E3) (hn : es.length ≤ 10000) (B : Option Addr) (d : Nat) (xs : List Int) (hm : xs.length ≤ 1048576) (x : Int) (w : World) (h : Reads w w.heap.size 3 A es.length (edgeCells es)) (h' : Reads w w.heap.size 1 B xs.length (ints xs)) (hj : treeErr n es xs = 0) (hx0 : 0 ≤ x) (hx : ((endsL es).length : Int) ≤ x) :
    Calls Tryz.prog 74 #[.agg #[.int .i64 n, .slice A es.length c], .slice B xs.length d, .int .i64 x] w fun e w' => ∃ A' c', e = .returned (.tuple #[.slice A' (cycleE n es xs x).1.length c', .int .i64 (cycleE n es xs x).2]) ∧ OwnI w' w.heap.size A' c' (cycleE n es xs x).1 ∧ Below w.heap.size w w' := by
  have GC := Lib.hid (fun (W : World) (hB : Below w.heap.size w W) => checked_any n A c es hn B d xs hm W ((h.below hB).more hB.size) ((h'.below hB).more hB.size))
  have g0 := Blk.new w 24 #[.int .i64 n, .slice A es.length c]
  have hb0 : Below w.heap.size w (w.alloc (.cells #[.int .i64 n, .slice A es.length c] 24)) := (Below.refl _ _).alloc (Nat.le_refl _) _
  have c0 := g0.cell 0
  have c1 := g0.cell 1
  rw [hj] at GC
  have HE : Hid (cycleE n es xs x = ([], 2)) := by unfold Hid cycleE; rw [if_neg (fun hc => hc hj), if_pos (.inr hx)]
  rw [HE.out]
  have hd0 : ¬ x < 0 := by omega
  obtain ⟨E, hE⟩ : ∃ E, endsL es = E := ⟨_, rfl⟩
  rw [hE] at GC hx
  clear hj hE HE
  go_enter Tryz.func74, Tryz.ntmps74
  go_wp2_with fail
  refine (GC.out _ hb0).mono ?_
  rintro e w1 ⟨Ar, lr, cr, rfl, hg1, _, hb1⟩
  obtain ⟨rfl, HQ⟩ := hg1 rfl
  clear HQ
  have hd := decide_eq_true hx
  go_wp2
  go_ret2
  exact ⟨none, 0, rfl, OwnI.nil_ _ _, hb0.trans (hb1.mono hb0.size)⟩
set_option maxRecDepth 100000 in
set_option maxHeartbeats 4000000 in
theorem tcycle_in (n : Int) (A : Option Addr) (c : Nat) (es : List E3) (hn : es.length ≤ 10000) (B : Option Addr) (d : Nat) (xs : List Int) (hm : xs.length ≤ 1048576) (x : Int) (w : World) (h : Reads w w.heap.size 3 A es.length (edgeCells es)) (h' : Reads w w.heap.size 1 B xs.length (ints xs)) (hj : treeErr n es xs = 0) (hx0 : 0 ≤ x) (hx : x < ((endsL es).length : Int)) (hi : x ∈ xs) :
    Calls Tryz.prog 74 #[.agg #[.int .i64 n, .slice A es.length c], .slice B xs.length d, .int .i64 x] w fun e w' => ∃ A' c', e = .returned (.tuple #[.slice A' (cycleE n es xs x).1.length c', .int .i64 (cycleE n es xs x).2]) ∧ OwnI w' w.heap.size A' c' (cycleE n es xs x).1 ∧ Below w.heap.size w w' := by
  have GC := Lib.hid (fun (W : World) (hB : Below w.heap.size w W) => checked_any n A c es hn B d xs hm W ((h.below hB).more hB.size) ((h'.below hB).more hB.size))
  have g0 := Blk.new w 24 #[.int .i64 n, .slice A es.length c]
  have hb0 : Below w.heap.size w (w.alloc (.cells #[.int .i64 n, .slice A es.length c] 24)) := (Below.refl _ _).alloc (Nat.le_refl _) _
  have c0 := g0.cell 0
  have c1 := g0.cell 1
  rw [hj] at GC
  have HE : Hid (cycleE n es xs x = ([], 15)) := by unfold Hid cycleE; rw [if_neg (fun hc => hc hj), if_neg (by omega), if_pos hi]
  rw [HE.out]
  have CC := Lib.hid (fun (W : World) (hB : Below w.heap.size w W) => contains_any B d xs hm x W ((h'.below hB).more hB.size))
  rw [decide_eq_true hi] at CC
  have hd0 : ¬ x < 0 := by omega
  clear hi
  obtain ⟨E, hE⟩ : ∃ E, endsL es = E := ⟨_, rfl⟩
  rw [hE] at GC hx
  clear hj hE HE
  go_enter Tryz.func74, Tryz.ntmps74
  go_wp2_with fail
  refine (GC.out _ hb0).mono ?_
  rintro e w1 ⟨Ar, lr, cr, rfl, hg1, _, hb1⟩
  obtain ⟨rfl, HQ⟩ := hg1 rfl
  clear HQ
  have hd : ¬ (E.length : Int) ≤ x := by omega
  go_wp2_with fail
  refine (CC.out _ (hb0.trans (hb1.mono hb0.size))).mono ?_
  rintro e w2 ⟨rfl, rfl⟩
  go_wp2
  go_ret2
  exact ⟨none, 0, rfl, OwnI.nil_ _ _, hb0.trans (hb1.mono hb0.size)⟩
end Go.Proofs.YtnbikkcalcpedaaGreatDoor

/-! Package tree: the iterator of all spanning trees. -/
namespace Go.Proofs.YtnbikkcalcpedaaGreatDoor
open Go.RowKit Go.Shelf

theorem grow_any (n : Nat) (hn1 : 1 ≤ n) (hn : n ≤ 12) (E : List (Nat × Nat)) (hE : BdP n E) (hel : E.length ≤ 1000000) (Ar : Option Addr) (cr l bN bY bE bG base : Nat) (xs : List (List Nat)) (J Jx : List (List Nat) → (Nat → Prop) → World → Prop)
    (hY : Rounds Tryz.prog l J Jx xs base) (hJ : Bears base (fun _ => False) J) :
    ∀ (m : Nat) (t : List Nat) (e : Nat), E.length - e ≤ m → e ≤ E.length → t.length + 1 ≤ n → (∀ y ∈ t, y < E.length) → GrowC n E Ar cr l bN bY bE bG base xs J Jx t e := by
  intro m
  induction m with
  | zero =>
    intro t e hm he ht htE
    by_cases h1 : t.length + 1 = n
    · intro a0 a1 a2 a3 a4 a5 a6 a7 a8 a9 a10 a11 A c C pre W hF hS hp h0
      exact grow_leaf n hn1 hn E Ar cr l bN bY bE bG base xs J Jx hY hJ t h1 e a0 a1 a2 a3 a4 a5 a6 a7 a8 a9 a10 a11 A c C pre W hS.w hS.own hS.cl hp h0
    · exact grow_step n hn1 hn E hE hel Ar cr l bN bY bE bG base xs J Jx hJ t (by omega) htE e he fun k h1 h2 => absurd h2 (by omega)
  | succ m ih =>
    intro t e hm he ht htE
    by_cases h1 : t.length + 1 = n
    · intro a0 a1 a2 a3 a4 a5 a6 a7 a8 a9 a10 a11 A c C pre W hF hS hp h0
      exact grow_leaf n hn1 hn E Ar cr l bN bY bE bG base xs J Jx hY hJ t h1 e a0 a1 a2 a3 a4 a5 a6 a7 a8 a9 a10 a11 A c C pre W hS.w hS.own hS.cl hp h0
    · refine grow_step n hn1 hn E hE hel Ar cr l bN bY bE bG base xs J Jx hJ t (by omega) htE e he fun k h2 h3 => ih (t ++ [k]) (k + 1) (by omega) (by omega) (by simp; omega) fun y hy => ?_
      rcases List.mem_append.1 hy with hy | hy
      · exact htE y hy
      · rw [List.mem_singleton.1 hy]; exact h3

theorem Blk.newAt {w : World} {g : Nat} {t : TypeId} {cs : Array Value} (hg : g = w.heap.size) : Blk (w.alloc (.cells cs t)) g t cs := by subst hg; exact Blk.new w t cs
theorem growL_all (n : Nat) (E : List (Nat × Nat)) : growL n E [] 0 = treesT n E := by
  unfold growL treesT
  by_cases h : n = 1
  · rw [if_pos (by simp [h]), if_pos h]
  · rw [if_neg (by simp; omega), if_neg h]; rfl

/-- What the iterator leans on. -/
def KT (bN bE : Nat) (Ar : Option Addr) (k : Nat) : Prop := k = bN ∨ k = bE ∨ blockOf Ar k
set_option maxRecDepth 100000 in
set_option maxHeartbeats 4000000 in
theorem trees_iter (n : Nat) (hn1 : 1 ≤ n) (hn : n ≤ 12) (E : List (Nat × Nat)) (hE : BdP n E) (hel : E.length ≤ 1000000) (Ar : Option Addr) (cr bN bE : Nat) (hcap : E.length ≤ cr) (W0 : World)
    (h1 : Blk W0 bN 3 #[.int .i64 n]) (h3 : Blk W0 bE 48 #[.slice Ar E.length cr]) (rd : Reads W0 W0.heap.size 2 Ar E.length (pair2 E)) (hAr : ∀ k, blockOf Ar k → k < W0.heap.size) :
    Iter Tryz.prog 159 #[.pointer (some ⟨bN, 0, none⟩), .pointer (some ⟨bE, 0, none⟩)] ArgT (KT bN bE Ar) (fun _ => False) (treesT n E) W0 := by
  intro l J Jx C W hL hC hJ hJx hY h0
  have eg := enters_of (P := Tryz.prog) Tryz.func160 (by kernel_rfl) rfl
  have hmf : ∀ (fn : Fn) (first cap : Array Value) (w : World), (Instr.makeFunc fn first cap).run Tryz.prog w = .ok (.func fn first cap) w := fun _ _ _ _ => rfl
  have k1 : Blk W bN 3 #[.int .i64 n] := (hL.block bN h1.lt (.inl rfl)).trans h1
  have k3 : Blk W bE 48 #[.slice Ar E.length cr] := (hL.block bE h3.lt (.inr (.inl rfl))).trans h3
  have k4 : Reads W W.heap.size 2 Ar E.length (pair2 E) := ⟨rd.1, fun hn => by
    obtain ⟨b, off, rfl, hb, hc⟩ := rd.2 hn
    exact ⟨b, off, rfl, by have := hL.size; omega, fun j u hu => (World.cell?_of_block (w := W0) (hL.block b hb (.inr (.inr ⟨_, rfl, rfl⟩)))).trans (hc j u hu)⟩⟩
  have hlb : ∀ k, KT bN bE Ar k → k < W.heap.size := fun k hk => by
    have := hL.size
    rcases hk with rfl | rfl | hk
    · exact k1.lt
    · exact k3.lt
    · have := hAr k hk; omega
  obtain ⟨W2, hW2⟩ : ∃ W2, (W.alloc (.cells #[.func (.yield l) #[] #[]] 194)).alloc (.cells #[growF bN W.heap.size bE (W.heap.size + 1)] 195) = W2 := ⟨_, rfl⟩
  have ho2 : Only (fun _ => False) W W2 := by rw [← hW2]; exact ((Only.refl _ W).alloc _).alloc _
  have hs2 : W2.heap.size = W.heap.size + 1 + 1 := by rw [← hW2]; simp
  have GW : GrowW W2 n E Ar cr l bN W.heap.size bE (W.heap.size + 1) W.heap.size := by
    refine ⟨k1.only ho2 id, ?_, k3.only ho2 id, ?_, reads_onlyN k4 ho2 (Nat.le_refl _) (fun _ _ h => h), by omega, hcap⟩
    · rw [← hW2]; exact (Blk.new W _ _).alloc _
    · rw [← hW2]; exact Blk.newAt (by simp)
  have HGS : Hid (∀ w3, Below W2.heap.size W2 w3 → GrowS n E Ar cr l bN W.heap.size bE (W.heap.size + 1) W.heap.size none 0 [] C w3 ∧ J [] C w3) := by
    intro w3 hb
    have o3 : Only (fun _ => False) W w3 := ho2.trans (Only.of_new hb)
    refine ⟨⟨GW.only (Only.of_new hb) (fun _ _ h => h), OwnI.nil_ _ _, fun k hk => ⟨by have := (hC k hk).1; have := o3.size; omega, fun hf => ?_, fun ⟨a, h, _⟩ => (by cases h)⟩, fun k ⟨a, h, _⟩ => (by cases h), fun k hf => ?_⟩, hJ _ _ _ _ h0 (Stays.of_only o3 (fun _ _ h => h.elim))⟩
    · have h2 := (hC k hk)
      rcases hf with rfl | rfl | rfl | rfl | hf
      · exact h2.2 (.inl rfl)
      · omega
      · exact h2.2 (.inr (.inl rfl))
      · omega
      · exact h2.2 (.inr (.inr hf))
    · have hs3 := hb.size
      rcases hf with rfl | rfl | rfl | rfl | hf
      · have := hlb _ (.inl rfl); omega
      · omega
      · have := hlb _ (.inr (.inl rfl)); omega
      · omega
      · have := hlb _ (.inr (.inr hf)); omega
  have GC := grow_any n hn1 hn E hE hel Ar cr l bN W.heap.size bE (W.heap.size + 1) W.heap.size (treesT n E) J Jx hY hJ (E.length - 0) [] 0 (Nat.le_refl _) (by omega) (by simp; omega) (by simp)
  have HC : Hid (∀ w3, Below W2.heap.size W2 w3 → Calls Tryz.prog 160 #[.slice none 0 0, .int .i64 0, .agg #[.int .i64 0, .int .i64 1, .int .i64 2, .int .i64 3, .int .i64 4, .int .i64 5, .int .i64 6, .int .i64 7, .int .i64 8, .int .i64 9, .int .i64 10, .int .i64 11], .pointer (some ⟨bN, 0, none⟩), .pointer (some ⟨W.heap.size, 0, none⟩), .pointer (some ⟨bE, 0, none⟩), .pointer (some ⟨W.heap.size + 1, 0, none⟩)] w3
      fun en w' => ∃ b, en = .returned (.bool b) ∧ Hid (∃ C', (J (treesT n E) C' w' ∨ ∃ pre, pre <+: treesT n E ∧ Jx pre C' w'))) := by
    intro w3 hb
    obtain ⟨s1, s2⟩ := HGS.out w3 hb
    refine (GC 0 1 2 3 4 5 6 7 8 9 10 11 none 0 C [] w3 fr_nil s1 (by rw [growL_all]; exact List.prefix_refl _) s2).mono ?_
    rintro en w' ⟨C', b, rfl, _, _, hb1, hb2⟩
    refine ⟨b, rfl, C', ?_⟩
    cases b
    · exact .inr (hb2 rfl)
    · have := (hb1 rfl).1
      rw [growL_all] at this
      exact .inl this
  have g0 := GW.h4.cell 0
  have HW2 := Lib.hid hW2
  have h4' := Lib.hid GW.h4
  clear hY hJ hJx h0 GC GW hL hC k1 k3 k4 h1 h3 rd HGS ho2 hW2 hs2
  go_enter Tryz.func159, Tryz.ntmps159
  go_wp2_with fail
  try rw [HW2.out]
  go_region_with (first
    | (go_at_call 129; (with_reducible refine (loose_any _).mono ?_); rintro en w3 ⟨rfl, hb3⟩; have hb3' := Lib.hid (((Below.refl W2.heap.size W2).drew).trans hb3); have g3 := (h4'.out.below hb3'.out h4'.out.lt).cell 0)
    | (go_at_call 160; (with_reducible refine (HC.out _ hb3'.out).mono ?_); rintro en w4 ⟨b, rfl, hr⟩))
  all_goals (
    go_wp2
    refine bodyPost_end (results_none rfl _ _ _) rfl ?_
    exact ⟨⟨_, rfl⟩, hr.out⟩)
end Go.Proofs.YtnbikkcalcpedaaGreatDoor

/-! ref13.other, ref13.Path. -/
namespace Go.Proofs.YtnbikkcalcpedaaGreatDoor
open Go.RowKit

end Go.Proofs.YtnbikkcalcpedaaGreatDoor

/-! Package tree: Cycle, the way and the sorted cycle; Cycle for all arguments. -/
namespace Go.Proofs.YtnbikkcalcpedaaGreatDoor
open Go.RowKit

theorem own_len {w : World} {base : Nat} {A : Option Addr} {c : Nat} {xs : List Int} {n : Nat} (h : OwnI w base A c xs) (hn : xs.length = n) : w.ownsRow base 3 1 (.slice A n c) n (ints xs) := by subst hn; exact h
set_option maxRecDepth 100000 in
set_option maxHeartbeats 8000000 in
theorem tcycle_main (m : Nat) (A : Option Addr) (c : Nat) (es : List E3) (hn : es.length ≤ 10000) (B : Option Addr) (d : Nat) (t : List Nat) (hR : TreeR m es t) (ht : t.length ≤ 11) (x : Nat) (w : World) (h : Reads w w.heap.size 3 A es.length (edgeCells es)) (h' : Reads w w.heap.size 1 B (nI t).length (ints (nI t))) (hj : treeErr m es (nI t) = 0) (hx : x < (endsL es).length) (hi : (x : Int) ∉ nI t) :
    Calls Tryz.prog 74 #[.agg #[.int .i64 m, .slice A es.length c], .slice B (nI t).length d, .int .i64 x] w fun e w' => ∃ A' c', e = .returned (.tuple #[.slice A' (cycleE m es (nI t) x).1.length c', .int .i64 (cycleE m es (nI t) x).2]) ∧ OwnI w' w.heap.size A' c' (cycleE m es (nI t) x).1 ∧ Below w.heap.size w w' := by
  have hnl := nI_length t
  have hm : (nI t).length ≤ 1048576 := by omega
  have GC := Lib.hid (fun (W : World) (hB : Below w.heap.size w W) => checked_any m A c es hn B d (nI t) hm W ((h.below hB).more hB.size) ((h'.below hB).more hB.size))
  have g0 := Blk.new w 24 #[.int .i64 m, .slice A es.length c]
  have hb0 : Below w.heap.size w (w.alloc (.cells #[.int .i64 m, .slice A es.length c] 24)) := (Below.refl _ _).alloc (Nat.le_refl _) _
  have c0 := g0.cell 0
  have c1 := g0.cell 1
  rw [hj] at GC
  obtain ⟨ab, hab⟩ := get_of_lt hx
  obtain ⟨p, q⟩ := ab
  have hpq := bd_ends hR.hG _ (List.mem_of_getElem? hab)
  have HE : Hid (cycleE m es (nI t) x = (sortG ltI (nI (pathL (endsL es) t p q) ++ [(x : Int)]), 0)) := by
    unfold Hid cycleE
    rw [if_neg (fun hc => hc hj), if_neg (by omega), if_neg hi, toN_nI, Int.toNat_natCast, hab]
  rw [HE.out]
  have CC := Lib.hid (fun (W : World) (hB : Below w.heap.size w W) => contains_any B d (nI t) hm (x : Int) W ((h'.below hB).more hB.size))
  rw [decide_eq_false hi] at CC
  have WC := Lib.hid (fun (Ar : Option Addr) (cr : Nat) (W : World) (hB : Below w.heap.size w W) (hr : Reads W W.heap.size 2 Ar (endsL es).length (pair2 (endsL es))) => way_any m hR.hi p q hpq.1 (endsL es) t hR.hT hR.len (hR.cn hpq.1 hpq.2) Ar cr B d W hr (by rw [← hnl]; exact (h'.below hB).more hB.size))
  have hPl := path_len hR.hT (hR.cn hpq.1 hpq.2)
  obtain ⟨R, hRR⟩ : ∃ R, pathL (endsL es) t p q = R := ⟨_, rfl⟩
  rw [hRR] at WC hPl ⊢
  have hd0 : ¬ (x : Int) < 0 := by omega
  clear hi
  obtain ⟨E, hE⟩ : ∃ E, endsL es = E := ⟨_, rfl⟩
  rw [hE] at GC WC hx hab
  have hRl : (nI R).length = R.length := nI_length R
  have SC : Hid (∀ (A' : Option Addr) (c' : Nat) (W : World), OwnI W w.heap.size A' c' (nI R ++ [(x : Int)]) → Calls Tryz.prog 135 #[.slice A' (R.length + 1) c'] W fun e w' => e = .returned (.tuple #[]) ∧ OwnI w' w.heap.size A' c' (sortG ltI (nI R ++ [(x : Int)])) ∧ Below w.heap.size W w') := by
    intro A' c' W hO
    have h1 : (nI R ++ [(x : Int)]).length = R.length + 1 := by simp [nI_length]
    have := sortx_any A' c' (nI R ++ [(x : Int)]) (by omega) (by omega) W w.heap.size hO
    rw [h1] at this
    exact this
  have hSl : Hid ((sortG ltI (nI R ++ [(x : Int)])).length = R.length + 1) := by
    unfold Hid
    rw [(sortG_perm _).length_eq]; simp [nI_length]
  obtain ⟨Z, hZ⟩ : ∃ Z, sortG ltI (nI R ++ [(x : Int)]) = Z := ⟨_, rfl⟩
  rw [hZ] at SC hSl ⊢
  have HRl := Lib.hid hRl
  have HX := Lib.hid hab
  have HPl := Lib.hid hPl
  have Hxl := Lib.hid hx
  rw [hnl] at GC CC h' ⊢
  clear hj hR hE HE hZ hRR hpq hRl hab hPl hx hnl hm h h'
  go_enter Tryz.func74, Tryz.ntmps74
  go_wp2_with fail
  refine (GC.out _ hb0).mono ?_
  rintro e w1 ⟨Ar, lr, cr, rfl, hg1, _, hb1⟩
  obtain ⟨rfl, HQ⟩ := hg1 rfl
  have HQ : Hid (OwnQ w1 w.heap.size Ar cr E) := own_rebase2 HQ hb0.size
  have hd : ¬ (E.length : Int) ≤ (x : Int) := by have := Hxl.out; omega
  have B1 := Lib.hid (hb0.trans (hb1.mono hb0.size))
  clear hb1 hb0 g0 c0 c1 GC
  go_wp2_with fail
  refine (CC.out _ B1.out).mono ?_
  rintro e w2 ⟨rfl, rfl⟩
  obtain ⟨bA, oA, hA, hbA, q0, q1⟩ := (HQ.out.reads).pairAt HX.out
  subst hA
  have hx0 : (0 : Int) ≤ (x : Int) := by omega
  have hx1 : (x : Int) < (E.length : Int) := by have := Hxl.out; omega
  have hx2 : x < E.length := Hxl.out
  have WC1 := Lib.hid (WC.out (some ⟨bA, oA, none⟩) cr w1.drew (by exact below_drewN B1.out 1) (by exact OwnQ.reads HQ.out))
  have HR2 : Hid (∀ o, Reads (w1.alloc o) (w1.alloc o).heap.size 2 (some ⟨bA, oA, none⟩) E.length (pair2 E)) := fun o => (OwnQ.reads (HQ.out)).next ((Below.refl _ _).alloc (Nat.le_refl _) o)
  have WC2 := Lib.hid (fun o => WC.out (some ⟨bA, oA, none⟩) cr (w1.alloc o).drew (by exact below_drewN (B1.out.alloc B1.out.size o) 1) (by exact HR2.out o))
  have q0a : ∀ o, (w1.alloc o).cell? ⟨bA, oA + x * 2, none⟩ = some (.int .i64 (p : Int)) := fun o => (World.cell?_alloc_lt w1 o _ hbA).trans q0
  have q1a : ∀ o, (w1.alloc o).cell? ⟨bA, oA + x * 2 + 1, none⟩ = some (.int .i64 (q : Int)) := fun o => (World.cell?_alloc_lt w1 o _ hbA).trans q1
  clear WC CC
  go_wp2_with fail
  have hRi := ints_one (xs := nI R)
  have hx9 : ∀ u ∈ [Value.int .i64 (x : Int)], u.oneCell' = true := by simp [Value.oneCell']
  have hR11 : R.length + 1 ≤ 1048576 := by have := HPl.out; omega
  have hbs := B1.out.size
  have B00 : Hid (Below w.heap.size w (w1.alloc (.cells #[.int .i64 (x : Int)] 3)).drew) := below_drewN (B1.out.alloc hbs (.cells #[.int .i64 (x : Int)] 3)) 1
  have RB0 : Hid (∀ W, Below (w1.alloc (.cells #[.int .i64 (x : Int)] 3)).drew.heap.size (w1.alloc (.cells #[.int .i64 (x : Int)] 3)).drew W → Reads W (w1.alloc (.cells #[.int .i64 (x : Int)] 3)).drew.heap.size 1 (some ⟨w1.heap.size, 0, none⟩) 1 [.int .i64 (x : Int)]) := by
    intro W hW
    refine Reads.below ?_ hW
    exact ((Reads.box w1 (.int .i64 (x : Int)) 3).more (by show w1.heap.size + 1 ≤ (w1.alloc (.cells #[.int .i64 (x : Int)] 3)).heap.size; simp))
  go_region_law (first
    | (go_simp; go_at_call 134; (with_reducible refine (WC1.out).mono ?_); rintro e w4 ⟨A4, c4, rfl, o4, hb4⟩
       have o5 := (o4.mono hbs).alloc (.cells #[.int .i64 (x : Int)] 3)
       have o5 := own_len o5 HRl.out
       have B4 := (below_drewN B1.out 1).trans (hb4.mono hbs)
       have B5 := (below_drewN B1.out 1).trans ((hb4.mono hbs).trans ((Below.refl _ _).alloc (Nat.le_refl _) (.cells #[.int .i64 (x : Int)] 3) |>.mono B4.size))
       have rb := Reads.box w4 (.int .i64 (x : Int)) 3
       have hz := B5.size)
    | (go_simp; go_at_call 134; (with_reducible refine (WC2.out _).mono ?_); rintro e w4 ⟨A4, c4, rfl, o4, hb4⟩
       have B0 := B00.out
       have o5 := o4.mono B0.size
       have o5 := own_len o5 HRl.out
       have B5 := B0.trans (hb4.mono B0.size)
       have rb := RB0.out _ hb4
       have hz := B5.size)
    | (refine append_step2 rfl (.tmp 46) (.tmp 48) _ _ rfl w.heap.size 3 3 Tryz.underlying25 Tryz.underlying25 info_int rfl (by omega) A4 c4 R.length (ints (nI R)) rfl o5 _ [.int .i64 (x : Int)] rfl rb hx9 hR11 hz ?_
       intro A6 c6 w6 own6 _ b6 _
       have B6 := B5.trans b6))
  all_goals (
    have O6 : Hid (OwnI w6 w.heap.size A6 c6 (nI R ++ [(x : Int)])) := by
      unfold Hid OwnI
      rw [List.length_append, HRl.out, ints_snoc]
      exact own6
    have S6 := Lib.hid (SC.out A6 c6 w6 O6.out)
    have B6 := Lib.hid B6
    clear own6 O6 rb o5 hz hb4 o4 B5
    go_wp2_with fail
    refine (S6.out).mono ?_
    rintro e w7 ⟨rfl, o7, b7⟩
    go_wp2
    go_ret2
    exact ⟨A6, c6, by rw [hSl.out]; rfl, o7, B6.out.trans b7⟩)

theorem tcycle_any (n : Int) (A : Option Addr) (c : Nat) (es : List E3) (hn : es.length ≤ 10000) (B : Option Addr) (d : Nat) (xs : List Int) (hm : xs.length ≤ 11) (x : Int) (w : World) (h : Reads w w.heap.size 3 A es.length (edgeCells es)) (h' : Reads w w.heap.size 1 B xs.length (ints xs)) :
    Calls Tryz.prog 74 #[.agg #[.int .i64 n, .slice A es.length c], .slice B xs.length d, .int .i64 x] w fun e w' => ∃ A' c', e = .returned (.tuple #[.slice A' (cycleE n es xs x).1.length c', .int .i64 (cycleE n es xs x).2]) ∧ OwnI w' w.heap.size A' c' (cycleE n es xs x).1 ∧ Below w.heap.size w w' := by
  have hm' : xs.length ≤ 1048576 := by omega
  by_cases hj : treeErr n es xs = 0
  · by_cases h0 : x < 0
    · exact tcycle_neg n A c es hn B d xs hm' x w h h' hj h0
    · by_cases h1 : ((endsL es).length : Int) ≤ x
      · exact tcycle_big n A c es hn B d xs hm' x w h h' hj (by omega) h1
      · by_cases hi : x ∈ xs
        · exact tcycle_in n A c es hn B d xs hm' x w h h' hj (by omega) (by omega) hi
        · obtain ⟨m, t, rfl, rfl, hR⟩ := treeR_of hj
          obtain ⟨k, rfl⟩ := Int.eq_ofNat_of_zero_le (show 0 ≤ x by omega)
          exact tcycle_main m A c es hn B d t hR (by rw [nI_length] at hm; exact hm) k w h h' hj (by omega) hi
  · exact tcycle_err n A c es hn B d xs hm' x w h h' hj
end Go.Proofs.YtnbikkcalcpedaaGreatDoor

/-! Package tree: Swap. -/
namespace Go.Proofs.YtnbikkcalcpedaaGreatDoor
open Go.RowKit

end Go.Proofs.YtnbikkcalcpedaaGreatDoor

/-! ref10.Subset: the set with a number. -/
namespace Go.Proofs.YtnbikkcalcpedaaGreatDoor
open Go.RowKit

end Go.Proofs.YtnbikkcalcpedaaGreatDoor

