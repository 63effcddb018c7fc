/-
  Texts of this claim, put together: TGrow, RTreeE, RowsN, TreeX, TPath.
-/
import Derived.Test.YtplgbapbgcipdaaGreatDoorK21
import Derived.Test.YtplgbapbgcipdaaGreatDoorK11
import Derived.Test.YtplgbapbgcipdaaGreatDoorK10
import Derived.Test.YtplgbapbgcipdaaGreatDoorK09
import Derived.Test.YtplgbapbgcipdaaGreatDoorK20
import Derived.Test.YtplgbapbgcipdaaGreatDoorK08
import Derived.Stop.RegionWithIn
import Derived.Test.YtplgbapbgcipdaaGreatDoorK19
import Derived.Test.YtplgbapbgcipdaaGreatDoorK16
/-! Package tree: the closure that grows trees: what it has captured; a list that is a tree is yielded. -/
namespace Go.Proofs.YtplgbapbgcipdaaGreatDoor
open Go.RowKit Go.Shelf
attribute [local go_sem] Oper.semAt_some

/-- A yielded tree. -/
def ArgT (t : List Nat) (args : Array Value) (O : Nat → Prop) (W : World) : Prop := ∃ A c, args = #[.slice A t.length c] ∧ OwnI W 0 A c (nI t) ∧ ∀ k, blockOf A k → O k
abbrev growF (bN bY bE bG : Nat) : Value := .func (.func 108) #[] #[.pointer (some ⟨bN, 0, none⟩), .pointer (some ⟨bY, 0, none⟩), .pointer (some ⟨bE, 0, none⟩), .pointer (some ⟨bG, 0, none⟩)]
/-- The blocks that the closure leans on. -/
def Fix5 (bN bY bE bG : Nat) (Ar : Option Addr) (k : Nat) : Prop := k = bN ∨ k = bY ∨ k = bE ∨ k = bG ∨ blockOf Ar k
/-- What the closure has captured. -/
structure GrowW (W : World) (n : Nat) (E : List (Nat × Nat)) (Ar : Option Addr) (cr l bN bY bE bG base : Nat) : Prop where
  h1 : Blk W bN 3 #[.int .i64 n]
  h2 : Blk W bY 126 #[.func (.yield l) #[] #[]]
  h3 : Blk W bE 65 #[.slice Ar E.length cr]
  h4 : Blk W bG 127 #[growF bN bY bE bG]
  rd : Reads W base 2 Ar E.length (pair2 E)
  lo : base ≤ W.heap.size
  cap : E.length ≤ cr
theorem GrowW.only {W W' : World} {n : Nat} {E : List (Nat × Nat)} {Ar : Option Addr} {cr l bN bY bE bG base : Nat} {D : Nat → Prop} (h : GrowW W n E Ar cr l bN bY bE bG base) (ho : Only D W W') (hd : ∀ k, Fix5 bN bY bE bG Ar k → ¬ D k) : GrowW W' n E Ar cr l bN bY bE bG base :=
  ⟨h.h1.only ho (hd _ (.inl rfl)), h.h2.only ho (hd _ (.inr (.inl rfl))), h.h3.only ho (hd _ (.inr (.inr (.inl rfl)))), h.h4.only ho (hd _ (.inr (.inr (.inr (.inl rfl))))), reads_onlyN h.rd ho h.lo fun _ hk => hd _ (.inr (.inr (.inr (.inr hk)))), Nat.le_trans h.lo ho.size, h.cap⟩
/-- The rest of the list of trees that a list of single edges grows to. -/
def growL (n : Nat) (E : List (Nat × Nat)) (t : List Nat) (e : Nat) : List (List Nat) := if t.length + 1 = n then [t] else treesG n E (E.length - e) t e
/-- What grow does: it yields L. -/
def GrowR (L xs pre : List (List Nat)) (J Jx : List (List Nat) → (Nat → Prop) → World → Prop) (base : Nat) (C : Nat → Prop) (A : Option Addr) (c : Nat) (t : List Nat) (W : World) (e : Ending) (W' : World) : Prop :=
  ∃ C' b, e = .returned (.bool b) ∧ Only (fun k => C k ∨ blockOf A k) W W' ∧ Grows C (fun _ => False) C' W W' ∧ (b = true → J (pre ++ L) C' W' ∧ OwnI W' base A c (nI t)) ∧ (b = false → ∃ pre', pre' <+: xs ∧ Jx pre' C' W')
/-- What a round is to be. -/
def Rounds (P : Program) (l : Nat) (J Jx : List (List Nat) → (Nat → Prop) → World → Prop) (xs : List (List Nat)) (base : Nat) : Prop :=
  ∀ pre x C W1 args O, pre ++ [x] <+: xs → J pre C W1 → base ≤ W1.heap.size → (∀ k, C k → k < W1.heap.size) → (∀ k, O k → ¬ C k ∧ k < W1.heap.size ∧ base ≤ k) → ArgT x args O W1 → Round P l J Jx pre x C O W1 args

theorem Only.tail {D D' : Nat → Prop} {a b c : World} (h : Only D a b) (k : Only D' b c) (hd : ∀ i, i < a.heap.size → D' i → D i) : Only D a c :=
  ⟨k.os.trans h.os, k.tape.trans h.tape, k.output.trans h.output, Nat.le_trans h.size k.size, fun i hi hn => (k.block i (Nat.lt_of_lt_of_le hi h.size) (fun hdi => hn (hd i hi hdi))).trans (h.block i hi hn)⟩
theorem Grows.tail {C C1 C2 O O' : Nat → Prop} {a b c : World} (h : Grows C O C1 a b) (k : Grows C1 O' C2 b c) (hs : a.heap.size ≤ b.heap.size) (hs2 : b.heap.size ≤ c.heap.size) (ho : ∀ i, O' i → a.heap.size ≤ i ∧ i < c.heap.size) : Grows C O C2 a c := fun i hi => by
  rcases k i hi with h1 | h1 | h1
  · rcases h i h1 with h2 | h2 | h2
    · exact .inl h2
    · exact .inr (.inl h2)
    · exact .inr (.inr ⟨h2.1, by omega⟩)
  · exact .inr (.inr (ho i h1))
  · exact .inr (.inr ⟨by omega, h1.2⟩)
theorem Grows.refl (C O : Nat → Prop) (a b : World) : Grows C O C a b := fun _ h => .inl h
set_option maxRecDepth 100000 in
set_option maxHeartbeats 4000000 in
theorem grow_leaf (n : Nat) (hn1 : 1 ≤ n) (hn : n ≤ 12) (E : List (Nat × Nat)) (Ar : Option Addr) (cr l bN bY bE bG base : Nat) (xs : List (List Nat)) (J Jx : List (List Nat) → (Nat → Prop) → World → Prop)
    (hY : Rounds Tryz.prog l J Jx xs base) (hJ : Bears base (fun _ => False) J)
    (t : List Nat) (ht : t.length + 1 = n) (e : Nat) (a0 a1 a2 a3 a4 a5 a6 a7 a8 a9 a10 a11 : Nat) (A : Option Addr) (c : Nat) (C : Nat → Prop) (pre : List (List Nat)) (W : World)
    (hW : GrowW W n E Ar cr l bN bY bE bG base) (hA : OwnI W base A c (nI t)) (hC : ∀ k, C k → k < W.heap.size ∧ ¬ Fix5 bN bY bE bG Ar k ∧ ¬ blockOf A k)
    (hp : pre ++ growL n E t e <+: xs) (h0 : J pre C W) :
    Calls Tryz.prog 108 #[.slice A t.length c, .int .i64 e, .agg #[.int .i64 a0, .int .i64 a1, .int .i64 a2, .int .i64 a3, .int .i64 a4, .int .i64 a5, .int .i64 a6, .int .i64 a7, .int .i64 a8, .int .i64 a9, .int .i64 a10, .int .i64 a11], .pointer (some ⟨bN, 0, none⟩), .pointer (some ⟨bY, 0, none⟩), .pointer (some ⟨bE, 0, none⟩), .pointer (some ⟨bG, 0, none⟩)] W
      fun en W' => GrowR (growL n E t e) xs pre J Jx base C A c t W en W' := by
  have hg : growL n E t e = [t] := if_pos ht
  rw [hg] at hp ⊢
  obtain ⟨W1, hW1⟩ : ∃ W1, W.alloc (.cells #[.int .i64 a0, .int .i64 a1, .int .i64 a2, .int .i64 a3, .int .i64 a4, .int .i64 a5, .int .i64 a6, .int .i64 a7, .int .i64 a8, .int .i64 a9, .int .i64 a10, .int .i64 a11] 112) = W1 := ⟨_, rfl⟩
  have ho1 : Only (fun _ => False) W W1 := by rw [← hW1]; exact (Only.refl _ W).alloc _
  have hG1 := hW.only ho1 (fun _ _ h => h)
  have hA1 : OwnI W1 base A c (nI t) := by rw [← hW1]; exact hA.alloc _
  have k1 := hG1.h1.cell 0
  have k2 := hG1.h2.cell 0
  have hnl := nI_length t
  have CL : Hid (∀ W2 : World, Reads W2 W2.heap.size 1 A (nI t).length (ints (nI t)) → Calls Tryz.prog 109 #[.slice A t.length c] W2 fun e w' => ∃ A' c', e = .returned (.slice A' t.length c') ∧ OwnI w' W2.heap.size A' c' (nI t) ∧ Below W2.heap.size W2 w') := by
    intro W2 hr
    have := clone_any A c (nI t) (by omega) W2 hr
    rw [hnl] at this
    exact this
  have hwn : IntKind.i64.wrap ((n : Int) - 1) = (n : Int) - 1 := IntWalk.i64_in _ (by omega)
  have hq : ((t.length : Int) == (n : Int) - 1) = true := by simp; omega
  have HY := Lib.hid hY
  have HP := Lib.hid hp
  have HJ := Lib.hid hJ
  have J1 := Lib.hid (hJ _ _ _ _ h0 (Stays.of_only ho1 (fun _ _ h => h.elim)))
  have HC := Lib.hid hC
  have HO1 := Lib.hid ho1
  have HA := Lib.hid hA
  have HA1 := Lib.hid hA1
  have HNL := Lib.hid hnl
  have hlo := hW.lo
  have HH2 := Lib.hid hG1.h2
  clear hY hp hJ h0 hC ho1 hA1 hA hnl hG1 hW ht hg
  refine (callsIn_wide (n := 3)).1 ?_
  refine callsIn_of_wp Tryz.func108 rfl trivial ?_
  simp only [Tryz.ntmps108, List.size_toArray, List.length_cons, List.length_nil, Nat.reduceAdd, Nat.reduceSub, Array.replicate_succ, Array.replicate_zero, List.push_toArray, List.append_toArray, List.nil_append, List.cons_append]
  gi_wp2_with fail
  clear hW1
  gi_region_with (first
    | (refine ⟨trivial, ?_⟩; gi_at_call 109; refine (inW (CL.out W1.drew (by exact HA1.out.reads))).mono ?_; rintro e w2 ⟨A', c', rfl, hown, hbel⟩
       have ho2 : Only (fun _ => False) W1 w2 := ((Only.refl _ W1).drew).trans (Only.of_new hbel)
       have cy : w2.cell? ⟨bY, 0, none⟩ = some (.func (.yield l) #[] #[]) := (HH2.out.only ho2 id).cell 0
       have hs1 := HO1.out.size
       have hs2 := ho2.size
       have hOw : Hid (∀ k, blockOf A' k → W1.heap.size ≤ k ∧ k < w2.heap.size) := fun k hk => hown.lt k (blockOf_own.2 hk)
       obtain ⟨fn, tmps, assign, body, hy, hR⟩ := HY.out pre t C w2 #[.slice A' t.length c'] (blockOf A') HP.out (HJ.out _ _ _ _ J1.out (Stays.of_only ho2 (fun _ _ h => h.elim))) (by omega) (fun k hk => by have := (HC.out k hk).1; omega) (fun k hk => ⟨fun h => by have := (HC.out k h).1; have := (hOw.out k hk).1; omega, (hOw.out k hk).2, by have := (hOw.out k hk).1; omega⟩) ⟨A', c', rfl, hown.mono (Nat.zero_le _), fun k hk => hk⟩)
    | (refine (roundIn_wide hR).mono ?_; rintro e w3 ⟨C2, b2, ho3, hg3, rfl, hj2, hx2⟩))
  all_goals (
    have EN : Hid (GrowR [t] xs pre J Jx base C A c t W (.returned (.bool b2)) w3) := by
      have hol : Only (fun _ => False) W w2 := HO1.out.trans ho2
      refine ⟨C2, b2, rfl, ?_, ?_, fun hb => ⟨hj2 hb, ?_⟩, fun hb => ⟨_, HP.out, hx2 hb⟩⟩
      · refine (hol.mono (fun _ _ h => h.elim)).tail ho3 fun i hi hd => ?_
        rcases hd with hd | hd
        · exact .inl hd
        · have := (hOw.out i hd).1; omega
      · exact (Grows.refl C _ W w2).tail hg3 hol.size ho3.size fun i hi => ⟨by have := (hOw.out i hi).1; omega, by have := (hOw.out i hi).2; have := ho3.size; omega⟩
      · refine (HA.out.only hol (fun _ _ h => h)).only ho3 fun k hk hd => ?_
        rcases hd with hd | hd
        · exact (HC.out k hd).2.2 hk
        · have h1 := (hOw.out k hd).1
          have h2 := (World.ownsRow.lt HA.out k (blockOf_own.2 hk)).2
          omega
    clear hj2 hx2 hR hy ho3 hg3 ho2 hown hbel
    gi_wp2
    go_ret
    exact EN.out)
end Go.Proofs.YtplgbapbgcipdaaGreatDoor

/-! ref08.Ends with what it holds. -/
namespace Go.Proofs.YtplgbapbgcipdaaGreatDoor
open Go.RowKit

theorem size_ends {es : List E3} : sizeE es = (endsL es).length := by
  unfold sizeE endsL
  induction es with
  | nil => rfl
  | cons e es ih => simp only [List.map_cons, List.sum_cons, List.flatMap_cons, List.length_append, List.length_replicate, ih]

end Go.Proofs.YtplgbapbgcipdaaGreatDoor

/-! A slice of slices of ints that reads as lists of numbers: its rows, and what a later world keeps. -/
namespace Go.Proofs.YtplgbapbgcipdaaGreatDoor
open Go.RowKit

theorem RowsR.row {W : World} {B : Nat} {A : Option Addr} {T : List (List Nat)} {j : Nat} {x : List Nat} (h : RowsR W B A (T.map nI)) (hx : T[j]? = some x) :
    ∃ b off A0 c0, A = some ⟨b, off, none⟩ ∧ W.cell? ⟨b, off + j, none⟩ = some (.slice A0 x.length c0) ∧ Reads W B 1 A0 x.length (ints (nI x)) ∧ b < B := by
  obtain ⟨vs, h1, h2⟩ := h
  obtain ⟨A0, c0, e0, r0⟩ := h2 j (nI x) (by simp [hx])
  rw [nI_length] at e0 r0
  obtain ⟨b, off, e, hb, hc⟩ := h1.at_ e0
  exact ⟨b, off, A0, c0, e, hc, r0, hb⟩
end Go.Proofs.YtplgbapbgcipdaaGreatDoor

/-! A connected graph has a spanning tree. No program is in sight. -/
namespace Go.Proofs.YtplgbapbgcipdaaGreatDoor
/-- A connected graph has a spanning tree. -/
theorem tree_ex {n : Nat} {E : List (Nat × Nat)} (hb : BdP n E) (hc : partsP n E = 1) : ∃ t, IsTr n E t := by
  have key : ∀ k, k ≤ E.length → ∃ t : List Nat, t.Pairwise (· < ·) ∧ (∀ e ∈ t, e < k) ∧ Fo (pk E t) ∧ ∀ a b, Cn (pk E t) a b ↔ Cn (E.take k) a b := by
    intro k
    induction k with
    | zero => exact fun _ => ⟨[], .nil, by simp, trivial, fun a b => Iff.rfl⟩
    | succ k ih =>
      intro hk
      obtain ⟨t, h1, h2, h3, h4⟩ := ih (by omega)
      have hE := getD_some (E := E) (e := k) (by omega)
      have htk : E.take (k + 1) = E.take k ++ [E.getD k (0, 0)] := by rw [List.take_add_one, hE]; rfl
      have hsn : ∀ (ps : List (Nat × Nat)) (p : Nat × Nat) (a b : Nat), Cn (ps ++ [p]) a b ↔ Cn (p :: ps) a b := fun ps p a b => cn_same fun q => by simp [or_comm]
      by_cases hc : Cn (pk E t) (E.getD k (0, 0)).1 (E.getD k (0, 0)).2
      · refine ⟨t, h1, fun e he => by have := h2 e he; omega, h3, fun a b => ?_⟩
        rw [htk, hsn, cn_cons_of ((h4 _ _).1 hc), h4]
      · have hpk : pk E (t ++ [k]) = pk E t ++ [E.getD k (0, 0)] := by simp [pk]
        refine ⟨t ++ [k], ?_, ?_, ?_, fun a b => ?_⟩
        · rw [List.pairwise_append]
          exact ⟨h1, List.pairwise_singleton _ _, fun a ha b hb => by rw [List.mem_singleton] at hb; subst hb; exact h2 a ha⟩
        · intro e he
          rcases List.mem_append.1 he with he | he
          · have := h2 e he; omega
          · rw [List.mem_singleton] at he; omega
        · rw [hpk]
          refine (fo_append_snoc (n := n) ?_).2 ⟨h3, hc⟩
          rw [← hpk]
          exact bd_pk hb fun e he => by
            rcases List.mem_append.1 he with he | he
            · have := h2 e he; omega
            · rw [List.mem_singleton] at he; omega
        · rw [hpk, htk, hsn, hsn, cn_cons, cn_cons, h4, h4, h4, h4, h4]
  obtain ⟨t, h1, h2, h3, h4⟩ := key E.length (Nat.le_refl _)
  rw [List.take_length] at h4
  have hp : partsP n (pk E t) = 1 := by rw [partsP_congr h4]; exact hc
  have hl := (tree_of_fo (bd_pk hb h2) h3).1 hp
  rw [pk_length] at hl
  exact ⟨t, ⟨h1, h2⟩, hl, h3⟩
end Go.Proofs.YtplgbapbgcipdaaGreatDoor

/-! Package tree: vertex, Path, Parents. -/
namespace Go.Proofs.YtplgbapbgcipdaaGreatDoor
open Go.RowKit

/-- A list of ints as numbers. -/
abbrev toN (xs : List Int) : List Nat := xs.map Int.toNat
theorem toN_nI (t : List Nat) : toN (nI t) = t := by
  unfold toN nI
  rw [List.map_map]
  conv => rhs; rw [← List.map_id t]
  exact List.map_congr_left fun x _ => by simp
/-- What a right tree brings. -/
structure TreeR (m : Nat) (es : List E3) (t : List Nat) : Prop where
  hG : RightG m es
  hT : FoE m (endsL es) t
  tr : IsTr m (endsL es) t
  lo : 1 ≤ m
  hi : m ≤ 12
theorem TreeR.cn {m : Nat} {es : List E3} {t : List Nat} (h : TreeR m es t) {a b : Nat} (ha : a < m) (hb : b < m) : Cn (pk (endsL es) t) a b := h.tr.cn h.hT.bd ha hb
theorem TreeR.len {m : Nat} {es : List E3} {t : List Nat} (h : TreeR m es t) : t.length ≤ 12 := by have := h.tr.len; have := h.hi; omega
theorem treeR_of {n : Int} {es : List E3} {xs : List Int} (h : treeErr n es xs = 0) : ∃ (m : Nat) (t : List Nat), n = m ∧ xs = nI t ∧ TreeR m es t := by
  obtain ⟨m, t, h1, h2, h3, h4, h5, h6, h7, _⟩ := tree_zero h
  exact ⟨m, t, h1, h2, h3, h5.foe h4, h5, h6, h7⟩

/-! Parents. -/
end Go.Proofs.YtplgbapbgcipdaaGreatDoor

