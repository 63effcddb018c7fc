/-
  Texts of this claim, put together: TreeX, MayP, Blocks, TGrow, TakeF, Kindle, SFire, TPath.
-/
import Derived.Test.YtplgbapbgcipdaaGreatK23
import Derived.Test.YtplgbapbgcipdaaGreatK24
import Derived.Test.YtplgbapbgcipdaaGreatK05
import Derived.Test.YtplgbapbgcipdaaGreatK12
import Derived.Test.YtplgbapbgcipdaaGreatK11
import Derived.Test.YtplgbapbgcipdaaGreatK07
import Derived.Test.YtplgbapbgcipdaaGreatK06
import Derived.Stop.RegionWithIn
import Derived.Deep.RegionWith
import Derived.BigRegion
import Derived.Test.YtplgbapbgcipdaaGreatK25
import Derived.Test.YtplgbapbgcipdaaGreatK18
/-! A connected graph has a spanning tree. No program is in sight. -/
namespace Go.Proofs.YtplgbapbgcipdaaGreat
/-- A connected graph has a spanning tree. -/
theorem tree_ex {n : Nat} {E : List (Nat × Nat)} (hb : BdP n E) (hc : partsP n E = 1) : ∃ t, IsTr n E t := by
  have key : ∀ k, k ≤ E.length → ∃ t : List Nat, t.Pairwise (· < ·) ∧ (∀ e ∈ t, e < k) ∧ Fo (pk E t) ∧ ∀ a b, Cn (pk E t) a b ↔ Cn (E.take k) a b := by
    intro k
    induction k with
    | zero => exact fun _ => ⟨[], .nil, by simp, trivial, fun a b => Iff.rfl⟩
    | succ k ih =>
      intro hk
      obtain ⟨t, h1, h2, h3, h4⟩ := ih (by omega)
      have hE := getD_some (E := E) (e := k) (by omega)
      have htk : E.take (k + 1) = E.take k ++ [E.getD k (0, 0)] := by rw [List.take_add_one, hE]; rfl
      have hsn : ∀ (ps : List (Nat × Nat)) (p : Nat × Nat) (a b : Nat), Cn (ps ++ [p]) a b ↔ Cn (p :: ps) a b := fun ps p a b => cn_same fun q => by simp [or_comm]
      by_cases hc : Cn (pk E t) (E.getD k (0, 0)).1 (E.getD k (0, 0)).2
      · refine ⟨t, h1, fun e he => by have := h2 e he; omega, h3, fun a b => ?_⟩
        rw [htk, hsn, cn_cons_of ((h4 _ _).1 hc), h4]
      · have hpk : pk E (t ++ [k]) = pk E t ++ [E.getD k (0, 0)] := by simp [pk]
        refine ⟨t ++ [k], ?_, ?_, ?_, fun a b => ?_⟩
        · rw [List.pairwise_append]
          exact ⟨h1, List.pairwise_singleton _ _, fun a ha b hb => by rw [List.mem_singleton] at hb; subst hb; exact h2 a ha⟩
        · intro e he
          rcases List.mem_append.1 he with he | he
          · have := h2 e he; omega
          · rw [List.mem_singleton] at he; omega
        · rw [hpk]
          refine (fo_append_snoc (n := n) ?_).2 ⟨h3, hc⟩
          rw [← hpk]
          exact bd_pk hb fun e he => by
            rcases List.mem_append.1 he with he | he
            · have := h2 e he; omega
            · rw [List.mem_singleton] at he; omega
        · rw [hpk, htk, hsn, hsn, cn_cons, cn_cons, h4, h4, h4, h4, h4]
  obtain ⟨t, h1, h2, h3, h4⟩ := key E.length (Nat.le_refl _)
  rw [List.take_length] at h4
  have hp : partsP n (pk E t) = 1 := by rw [partsP_congr h4]; exact hc
  have hl := (tree_of_fo (bd_pk hb h2) h3).1 hp
  rw [pk_length] at hl
  exact ⟨t, ⟨h1, h2⟩, hl, h3⟩
end Go.Proofs.YtplgbapbgcipdaaGreat

/-! Plain laws of sets that may fire: as the reference counts, and as the program does; Dhar's law: the unburnt vertices block, and each set that blocks is unburnt. -/
namespace Go.Proofs.YtplgbapbgcipdaaGreat
open Go.RowKit

/-! Dhar's law. -/
end Go.Proofs.YtplgbapbgcipdaaGreat

/-! Package burning: Blocks. -/
namespace Go.Proofs.YtplgbapbgcipdaaGreat
open Go.RowKit

end Go.Proofs.YtplgbapbgcipdaaGreat

/-! Package tree: the closure that grows trees: what it has captured; a list that is a tree is yielded. -/
namespace Go.Proofs.YtplgbapbgcipdaaGreat
open Go.RowKit Go.Shelf
attribute [local go_sem] Oper.semAt_some

/-- A yielded tree. -/
def ArgT (t : List Nat) (args : Array Value) (O : Nat → Prop) (W : World) : Prop := ∃ A c, args = #[.slice A t.length c] ∧ OwnI W 0 A c (nI t) ∧ ∀ k, blockOf A k → O k
abbrev growF (bN bY bE bG : Nat) : Value := .func (.func 126) #[] #[.pointer (some ⟨bN, 0, none⟩), .pointer (some ⟨bY, 0, none⟩), .pointer (some ⟨bE, 0, none⟩), .pointer (some ⟨bG, 0, none⟩)]
/-- The blocks that the closure leans on. -/
def Fix5 (bN bY bE bG : Nat) (Ar : Option Addr) (k : Nat) : Prop := k = bN ∨ k = bY ∨ k = bE ∨ k = bG ∨ blockOf Ar k
/-- What the closure has captured. -/
structure GrowW (W : World) (n : Nat) (E : List (Nat × Nat)) (Ar : Option Addr) (cr l bN bY bE bG base : Nat) : Prop where
  h1 : Blk W bN 3 #[.int .i64 n]
  h2 : Blk W bY 170 #[.func (.yield l) #[] #[]]
  h3 : Blk W bE 124 #[.slice Ar E.length cr]
  h4 : Blk W bG 171 #[growF bN bY bE bG]
  rd : Reads W base 2 Ar E.length (pair2 E)
  lo : base ≤ W.heap.size
  cap : E.length ≤ cr
theorem GrowW.only {W W' : World} {n : Nat} {E : List (Nat × Nat)} {Ar : Option Addr} {cr l bN bY bE bG base : Nat} {D : Nat → Prop} (h : GrowW W n E Ar cr l bN bY bE bG base) (ho : Only D W W') (hd : ∀ k, Fix5 bN bY bE bG Ar k → ¬ D k) : GrowW W' n E Ar cr l bN bY bE bG base :=
  ⟨h.h1.only ho (hd _ (.inl rfl)), h.h2.only ho (hd _ (.inr (.inl rfl))), h.h3.only ho (hd _ (.inr (.inr (.inl rfl)))), h.h4.only ho (hd _ (.inr (.inr (.inr (.inl rfl))))), reads_onlyN h.rd ho h.lo fun _ hk => hd _ (.inr (.inr (.inr (.inr hk)))), Nat.le_trans h.lo ho.size, h.cap⟩
/-- The rest of the list of trees that a list of single edges grows to. -/
def growL (n : Nat) (E : List (Nat × Nat)) (t : List Nat) (e : Nat) : List (List Nat) := if t.length + 1 = n then [t] else treesG n E (E.length - e) t e
/-- What grow does: it yields L. -/
def GrowR (L xs pre : List (List Nat)) (J Jx : List (List Nat) → (Nat → Prop) → World → Prop) (base : Nat) (C : Nat → Prop) (A : Option Addr) (c : Nat) (t : List Nat) (W : World) (e : Ending) (W' : World) : Prop :=
  ∃ C' b, e = .returned (.bool b) ∧ Only (fun k => C k ∨ blockOf A k) W W' ∧ Grows C (fun _ => False) C' W W' ∧ (b = true → J (pre ++ L) C' W' ∧ OwnI W' base A c (nI t)) ∧ (b = false → ∃ pre', pre' <+: xs ∧ Jx pre' C' W')
/-- What a round is to be. -/
def Rounds (P : Program) (l : Nat) (J Jx : List (List Nat) → (Nat → Prop) → World → Prop) (xs : List (List Nat)) (base : Nat) : Prop :=
  ∀ pre x C W1 args O, pre ++ [x] <+: xs → J pre C W1 → base ≤ W1.heap.size → (∀ k, C k → k < W1.heap.size) → (∀ k, O k → ¬ C k ∧ k < W1.heap.size ∧ base ≤ k) → ArgT x args O W1 → Round P l J Jx pre x C O W1 args

theorem Only.tail {D D' : Nat → Prop} {a b c : World} (h : Only D a b) (k : Only D' b c) (hd : ∀ i, i < a.heap.size → D' i → D i) : Only D a c :=
  ⟨k.os.trans h.os, k.tape.trans h.tape, k.output.trans h.output, Nat.le_trans h.size k.size, fun i hi hn => (k.block i (Nat.lt_of_lt_of_le hi h.size) (fun hdi => hn (hd i hi hdi))).trans (h.block i hi hn)⟩
theorem Grows.tail {C C1 C2 O O' : Nat → Prop} {a b c : World} (h : Grows C O C1 a b) (k : Grows C1 O' C2 b c) (hs : a.heap.size ≤ b.heap.size) (hs2 : b.heap.size ≤ c.heap.size) (ho : ∀ i, O' i → a.heap.size ≤ i ∧ i < c.heap.size) : Grows C O C2 a c := fun i hi => by
  rcases k i hi with h1 | h1 | h1
  · rcases h i h1 with h2 | h2 | h2
    · exact .inl h2
    · exact .inr (.inl h2)
    · exact .inr (.inr ⟨h2.1, by omega⟩)
  · exact .inr (.inr (ho i h1))
  · exact .inr (.inr ⟨by omega, h1.2⟩)
theorem Grows.refl (C O : Nat → Prop) (a b : World) : Grows C O C a b := fun _ h => .inl h
set_option maxRecDepth 100000 in
set_option maxHeartbeats 4000000 in
theorem grow_leaf (n : Nat) (hn1 : 1 ≤ n) (hn : n ≤ 12) (E : List (Nat × Nat)) (Ar : Option Addr) (cr l bN bY bE bG base : Nat) (xs : List (List Nat)) (J Jx : List (List Nat) → (Nat → Prop) → World → Prop)
    (hY : Rounds Tryz.prog l J Jx xs base) (hJ : Bears base (fun _ => False) J)
    (t : List Nat) (ht : t.length + 1 = n) (e : Nat) (a0 a1 a2 a3 a4 a5 a6 a7 a8 a9 a10 a11 : Nat) (A : Option Addr) (c : Nat) (C : Nat → Prop) (pre : List (List Nat)) (W : World)
    (hW : GrowW W n E Ar cr l bN bY bE bG base) (hA : OwnI W base A c (nI t)) (hC : ∀ k, C k → k < W.heap.size ∧ ¬ Fix5 bN bY bE bG Ar k ∧ ¬ blockOf A k)
    (hp : pre ++ growL n E t e <+: xs) (h0 : J pre C W) :
    Calls Tryz.prog 126 #[.slice A t.length c, .int .i64 e, .agg #[.int .i64 a0, .int .i64 a1, .int .i64 a2, .int .i64 a3, .int .i64 a4, .int .i64 a5, .int .i64 a6, .int .i64 a7, .int .i64 a8, .int .i64 a9, .int .i64 a10, .int .i64 a11], .pointer (some ⟨bN, 0, none⟩), .pointer (some ⟨bY, 0, none⟩), .pointer (some ⟨bE, 0, none⟩), .pointer (some ⟨bG, 0, none⟩)] W
      fun en W' => GrowR (growL n E t e) xs pre J Jx base C A c t W en W' := by
  have hg : growL n E t e = [t] := if_pos ht
  rw [hg] at hp ⊢
  obtain ⟨W1, hW1⟩ : ∃ W1, W.alloc (.cells #[.int .i64 a0, .int .i64 a1, .int .i64 a2, .int .i64 a3, .int .i64 a4, .int .i64 a5, .int .i64 a6, .int .i64 a7, .int .i64 a8, .int .i64 a9, .int .i64 a10, .int .i64 a11] 167) = W1 := ⟨_, rfl⟩
  have ho1 : Only (fun _ => False) W W1 := by rw [← hW1]; exact (Only.refl _ W).alloc _
  have hG1 := hW.only ho1 (fun _ _ h => h)
  have hA1 : OwnI W1 base A c (nI t) := by rw [← hW1]; exact hA.alloc _
  have k1 := hG1.h1.cell 0
  have k2 := hG1.h2.cell 0
  have hnl := nI_length t
  have CL : Hid (∀ W2 : World, Reads W2 W2.heap.size 1 A (nI t).length (ints (nI t)) → Calls Tryz.prog 114 #[.slice A t.length c] W2 fun e w' => ∃ A' c', e = .returned (.slice A' t.length c') ∧ OwnI w' W2.heap.size A' c' (nI t) ∧ Below W2.heap.size W2 w') := by
    intro W2 hr
    have := clone_any A c (nI t) (by omega) W2 hr
    rw [hnl] at this
    exact this
  have hwn : IntKind.i64.wrap ((n : Int) - 1) = (n : Int) - 1 := IntWalk.i64_in _ (by omega)
  have hq : ((t.length : Int) == (n : Int) - 1) = true := by simp; omega
  have HY := Lib.hid hY
  have HP := Lib.hid hp
  have HJ := Lib.hid hJ
  have J1 := Lib.hid (hJ _ _ _ _ h0 (Stays.of_only ho1 (fun _ _ h => h.elim)))
  have HC := Lib.hid hC
  have HO1 := Lib.hid ho1
  have HA := Lib.hid hA
  have HA1 := Lib.hid hA1
  have HNL := Lib.hid hnl
  have hlo := hW.lo
  have HH2 := Lib.hid hG1.h2
  clear hY hp hJ h0 hC ho1 hA1 hA hnl hG1 hW ht hg
  refine (callsIn_wide (n := 3)).1 ?_
  refine callsIn_of_wp Tryz.func126 rfl trivial ?_
  simp only [Tryz.ntmps126, List.size_toArray, List.length_cons, List.length_nil, Nat.reduceAdd, Nat.reduceSub, Array.replicate_succ, Array.replicate_zero, List.push_toArray, List.append_toArray, List.nil_append, List.cons_append]
  gi_wp2_with fail
  clear hW1
  gi_region_with (first
    | (refine ⟨trivial, ?_⟩; gi_at_call 114; refine (inW (CL.out W1.drew (by exact HA1.out.reads))).mono ?_; rintro e w2 ⟨A', c', rfl, hown, hbel⟩
       have ho2 : Only (fun _ => False) W1 w2 := ((Only.refl _ W1).drew).trans (Only.of_new hbel)
       have cy : w2.cell? ⟨bY, 0, none⟩ = some (.func (.yield l) #[] #[]) := (HH2.out.only ho2 id).cell 0
       have hs1 := HO1.out.size
       have hs2 := ho2.size
       have hOw : Hid (∀ k, blockOf A' k → W1.heap.size ≤ k ∧ k < w2.heap.size) := fun k hk => hown.lt k (blockOf_own.2 hk)
       obtain ⟨fn, tmps, assign, body, hy, hR⟩ := HY.out pre t C w2 #[.slice A' t.length c'] (blockOf A') HP.out (HJ.out _ _ _ _ J1.out (Stays.of_only ho2 (fun _ _ h => h.elim))) (by omega) (fun k hk => by have := (HC.out k hk).1; omega) (fun k hk => ⟨fun h => by have := (HC.out k h).1; have := (hOw.out k hk).1; omega, (hOw.out k hk).2, by have := (hOw.out k hk).1; omega⟩) ⟨A', c', rfl, hown.mono (Nat.zero_le _), fun k hk => hk⟩)
    | (refine (roundIn_wide hR).mono ?_; rintro e w3 ⟨C2, b2, ho3, hg3, rfl, hj2, hx2⟩))
  all_goals (
    have EN : Hid (GrowR [t] xs pre J Jx base C A c t W (.returned (.bool b2)) w3) := by
      have hol : Only (fun _ => False) W w2 := HO1.out.trans ho2
      refine ⟨C2, b2, rfl, ?_, ?_, fun hb => ⟨hj2 hb, ?_⟩, fun hb => ⟨_, HP.out, hx2 hb⟩⟩
      · refine (hol.mono (fun _ _ h => h.elim)).tail ho3 fun i hi hd => ?_
        rcases hd with hd | hd
        · exact .inl hd
        · have := (hOw.out i hd).1; omega
      · exact (Grows.refl C _ W w2).tail hg3 hol.size ho3.size fun i hi => ⟨by have := (hOw.out i hi).1; omega, by have := (hOw.out i hi).2; have := ho3.size; omega⟩
      · refine (HA.out.only hol (fun _ _ h => h)).only ho3 fun k hk hd => ?_
        rcases hd with hd | hd
        · exact (HC.out k hd).2.2 hk
        · have h1 := (hOw.out k hd).1
          have h2 := (World.ownsRow.lt HA.out k (blockOf_own.2 hk)).2
          omega
    clear hj2 hx2 hR hy ho3 hg3 ho2 hown hbel
    gi_wp2
    go_ret
    exact EN.out)
end Go.Proofs.YtplgbapbgcipdaaGreat

/-! (*fire).take: a vertex burns; its single edges wait. -/
namespace Go.Proofs.YtplgbapbgcipdaaGreat
open Go.RowKit

end Go.Proofs.YtplgbapbgcipdaaGreat

/-! Package burning: the wood of a configuration; the vertices that are not burnt. -/
namespace Go.Proofs.YtplgbapbgcipdaaGreat
open Go.RowKit

def natI (l : List Nat) : List Int := l.map fun u : Nat => (u : Int)
theorem natI_length (l : List Nat) : (natI l).length = l.length := by simp [natI]
theorem natI_snoc (l : List Nat) (x : Nat) : natI (l ++ [x]) = natI l ++ [(x : Int)] := by simp [natI]
set_option maxHeartbeats 1000000 in
/-- slices.Clone on divisors. -/
theorem dclone_any (A : Option Addr) (c : Nat) (xs : List Int) (hn : xs.length ≤ 1048000) (w : World) (h : Reads w w.heap.size 1 A xs.length (ints xs)) :
    Calls Tryz.prog 17 #[.slice A xs.length c] w fun e w' =>
      ∃ A' c', e = .returned (.slice A' xs.length c') ∧ OwnI w' w.heap.size A' c' xs ∧ Below w.heap.size w w' := by
  have q22 : ∀ (w : World) (a : Option Addr) (n c n' c' : Nat), (binOp .eql 26 (.slice a n c) (.slice none n' c')).run Tryz.prog w = .ok (.bool a.isNone) w := fun w a n c n' c' => Lib.run_eql_slice_nil w _ _ a n c n' c' Tryz.underlying26
  rcases A with _ | ad
  · have hx : xs = [] := by
      rcases xs with _ | ⟨x, xs⟩
      · rfl
      · obtain ⟨_, _, h, _⟩ := h.2 (by simp)
        cases h
    subst hx
    go_enter Tryz.func17, Tryz.ntmps17
    go_wp2
    go_ret
    exact ⟨none, 0, rfl, OwnI.nil_ _ _, Below.refl _ _⟩
  · go_enter Tryz.func17, Tryz.ntmps17
    have hown0 : (w.alloc (.cells #[] 3)).ownsRow w.heap.size 3 1 (.slice (some ⟨w.heap.size, 0, none⟩) 0 0) 0 [] := World.ownsRow_made w #[] 0 (Nat.le_refl _) (by simp [maxLen]) (by simp)
    have hr := h.alloc (Nat.le_refl _) (.cells #[] 3)
    go_wp2_with (at_builtin; refine append_go rfl (.tmp 5) (.tmp 6) _ rfl w.heap.size 3 Tryz.underlying26 info_int rfl (by omega) (some ⟨w.heap.size, 0, none⟩) 0 0 [] rfl hown0 w.heap.size (ints xs) rfl hr (by simp [ints, Value.oneCell']) (by omega) (by simp) ?_; intro A' c' w' hown' _ hb' _)
    go_ret
    refine ⟨A', c', rfl, ?_, ((Below.refl _ _).alloc (Nat.le_refl _) _).trans hb'⟩
    rw [Nat.zero_add, List.nil_append] at hown'
    exact hown'

end Go.Proofs.YtplgbapbgcipdaaGreat

/-! Package stabilize: next, fire. -/
namespace Go.Proofs.YtplgbapbgcipdaaGreat
open Go.RowKit

/-- What firing a vertex leaves: the first m vertices have their chips. -/
def fireTo (rows : List (List Int)) (val d : List Int) (n v : Nat) (k : Int) (m : Nat) : List Int := (List.range n).map fun u => d.getD u 0 - (if u = v then k * val.getD v 0 else 0) + if u < m then k * (rows.getD v []).getD u 0 else 0
/-- Which vertices wait: the first m are looked at anew. -/
def waitTo (q : Int) (d val : List Int) (ws : List Bool) (m : Nat) : List Bool := (List.range 12).map fun u => if u < m then unst q d val u else ws.getD u false
theorem fireTo_length {rows : List (List Int)} {val d : List Int} {n v m : Nat} {k : Int} : (fireTo rows val d n v k m).length = n := by simp [fireTo]
theorem fireTo_get {rows : List (List Int)} {val d : List Int} {n v m u : Nat} {k : Int} (hu : u < n) : (fireTo rows val d n v k m)[u]? = some (d.getD u 0 - (if u = v then k * val.getD v 0 else 0) + if u < m then k * (rows.getD v []).getD u 0 else 0) := by
  unfold fireTo; rw [List.getElem?_map, List.getElem?_range hu]; rfl
theorem list_ext_n {xs ys : List Int} {n : Nat} (h1 : xs.length = n) (h2 : ys.length = n) (h : ∀ i, i < n → xs[i]? = ys[i]?) : xs = ys := by
  apply List.ext_getElem?
  intro i
  by_cases hi : i < n
  · exact h i hi
  · rw [List.getElem?_eq_none (by omega), List.getElem?_eq_none (by omega)]
theorem fireTo_zero {rows : List (List Int)} {val d : List Int} {n v : Nat} {k x y : Int} (hd : d.length = n) (hx : d[v]? = some x) (hy : val[v]? = some y) : d.set v (x - k * y) = fireTo rows val d n v k 0 := by
  have hv : v < n := by have := (List.getElem?_eq_some_iff.1 hx).1; omega
  refine list_ext_n (n := n) (by simpa using hd) fireTo_length fun i hi => ?_
  rw [fireTo_get hi]
  by_cases e : i = v
  · subst e
    rw [List.getElem?_set_self (by omega)]
    simp [hx, hy]
  · rw [List.getElem?_set_ne (fun h => e h.symm)]
    obtain ⟨z, hz⟩ := get_of_lt (xs := d) (k := i) (by omega)
    rw [hz, getD_at hz]
    simp [e]
theorem fireTo_succ {rows : List (List Int)} {val d r : List Int} {n v m : Nat} {k x u : Int} (hm : m < n) (hr : rows[v]? = some r) (hu : r[m]? = some u) (hx : (fireTo rows val d n v k m)[m]? = some x) : (fireTo rows val d n v k m).set m (x + k * u) = fireTo rows val d n v k (m + 1) := by
  have hrd : rows.getD v [] = r := by rw [List.getD_eq_getElem?_getD, hr]; rfl
  refine list_ext_n (n := n) (by simp [fireTo_length]) fireTo_length fun i hi => ?_
  rw [fireTo_get hi]
  by_cases e : i = m
  · subst e
    rw [List.getElem?_set_self (by rw [fireTo_length]; exact hi)]
    rw [fireTo_get hi] at hx
    injection hx with hx
    rw [← hx, hrd, getD_at hu]
    simp
  · rw [List.getElem?_set_ne (fun h => e h.symm), fireTo_get hi]
    congr 2
    by_cases h : i < m
    · rw [if_pos h, if_pos (by omega)]
    · rw [if_neg h, if_neg (by omega)]
theorem unst_congr {q : Int} {d d' val : List Int} {v : Nat} (h : d.getD v 0 = d'.getD v 0) : unst q d val v = unst q d' val v := by unfold unst; rw [h]
theorem waitTo_succ {q : Int} {d d' val : List Int} {ws : List Bool} {m : Nat} (hm : m < 12) (h : d.getD m 0 = d'.getD m 0) : (waitTo q d' val ws m).set m (unst q d val m) = waitTo q d' val ws (m + 1) := by
  apply List.ext_getElem?
  intro i
  unfold waitTo
  by_cases hi : i = m
  · subst hi
    rw [List.getElem?_set_self (by simpa using hm)]
    simp [hm, unst_congr h]
  · rw [List.getElem?_set_ne (fun e => hi e.symm), List.getElem?_map, List.getElem?_map]
    by_cases h12 : i < 12
    · rw [List.getElem?_range h12]
      simp only [Option.map_some]
      by_cases h2 : i < m
      · rw [if_pos h2, if_pos (by omega)]
      · rw [if_neg h2, if_neg (by omega)]
    · rw [List.getElem?_eq_none (by simp; omega)]; rfl
theorem waitTo_zero {q : Int} {d val : List Int} {ws : List Bool} (h : ws.length = 12) : waitTo q d val ws 0 = ws := by
  apply List.ext_getElem?
  intro i
  unfold waitTo
  by_cases h12 : i < 12
  · rw [List.getElem?_map, List.getElem?_range h12, List.getElem?_eq_getElem (by omega)]
    simp [List.getD_eq_getElem?_getD, List.getElem?_eq_getElem (show i < ws.length by omega)]
  · rw [List.getElem?_eq_none (by simp; omega), List.getElem?_eq_none (by omega)]
theorem waitTo_end {n : Nat} {q : Int} {d d0 val : List Int} (v : Nat) (hv : v < n) : (waitTo q d val (waitL n q d0 val) n).set v (unst q d val v) = waitL n q d val := by
  apply List.ext_getElem?
  intro i
  unfold waitTo waitL
  by_cases h12 : i < 12
  · by_cases hi : i = v
    · subst hi
      rw [List.getElem?_set_self (by simpa using h12), List.getElem?_map, List.getElem?_range h12]
      simp [hv]
    · rw [List.getElem?_set_ne (fun e => hi e.symm), List.getElem?_map, List.getElem?_map, List.getElem?_range h12]
      simp only [Option.map_some]
      by_cases h : i < n
      · rw [if_pos h, decide_eq_true h, Bool.true_and]
      · rw [if_neg h, decide_eq_false h, Bool.false_and, List.getD_eq_getElem?_getD, List.getElem?_map, List.getElem?_range h12]
        simp [h]
  · rw [List.getElem?_eq_none (by simp; omega), List.getElem?_eq_none (by simp; omega)]
theorem mul_bd {k x : Int} (h0 : 0 ≤ k) (h1 : k ≤ 67108864) (h2 : 0 ≤ x) (h3 : x ≤ 1048576) : 0 ≤ k * x ∧ k * x ≤ 70368744177664 :=
  ⟨Int.mul_nonneg h0 h2, by have := Int.mul_le_mul h1 h3 h2 (by omega); omega⟩

set_option maxRecDepth 100000 in
set_option maxHeartbeats 8000000 in
theorem pfire_any (base bp n : Nat) (hn : n ≤ 12) (a : PA) (d : List Int) (q : Int) (rows : List (List Int)) (val fired : List Int) (total : Int) (v : Nat) (hv : v < n) (k : Int) (hk0 : 0 ≤ k) (hk1 : k ≤ 67108864)
    (hd : ∀ x ∈ d, -70368744177664 ≤ x ∧ x ≤ 70368744177664) (hval : ValBd n 1048576 val) (hrows : TabBd n 1048576 rows) (hf : ∀ x ∈ fired, -70368744177664 ≤ x ∧ x ≤ 70368744177664) (ht : -70368744177664 ≤ total ∧ total ≤ 70368744177664) (w : World) (h : PileW w base bp n a d q rows val fired total (waitL n q d val)) :
    Calls Tryz.prog 146 #[.pointer (some ⟨bp, 0, none⟩), .int .i64 v, .int .i64 k] w fun e w' => (∃ x, e = .returned x) ∧ PileW w' base bp n a (fireTo rows val d n v k n) q rows val (fired.set v (fired.getD v 0 + k)) (total + k) (waitL n q (fireTo rows val d n v k n) val) ∧ Only (PB a bp) w w' := by
  obtain ⟨bd, cd, bv, bf, A, cr, gs⟩ := a
  have hgl : gs.length = n := by have := h.grid.len; have := hrows.1; dsimp only at *; omega
  obtain ⟨g, hg⟩ := get_of_lt (xs := gs) (k := v) (by omega)
  obtain ⟨bo, oo, hA, _⟩ := h.grid.cell hg
  dsimp only at hA
  subst hA
  obtain ⟨x, hx⟩ := get_of_lt (xs := d) (k := v) (by have := h.dl; omega)
  obtain ⟨y, hy⟩ := get_of_lt (xs := val) (k := v) (by have := h.vl; omega)
  obtain ⟨r, hr⟩ := get_of_lt (xs := rows) (k := v) (by rw [hrows.1]; exact hv)
  obtain ⟨fv, hfv⟩ := get_of_lt (xs := fired) (k := v) (by have := h.fl; omega)
  have hxb := hd x (List.mem_of_getElem? hx)
  have hyb := hval.2 y (List.mem_of_getElem? hy)
  have hfb := hf fv (List.mem_of_getElem? hfv)
  obtain ⟨hrl, hrb⟩ := hrows.2 r (List.mem_of_getElem? hr)
  have hp1 := mul_bd hk0 hk1 hyb.1 hyb.2
  have hw1 : IntKind.i64.wrap (k * y) = k * y := IntWalk.i64_in _ (by omega)
  have hw2 : IntKind.i64.wrap (x - k * y) = x - k * y := IntWalk.i64_in _ (by omega)
  have hw3 : IntKind.i64.wrap (fv + k) = fv + k := IntWalk.i64_in _ (by omega)
  have hw4 : IntKind.i64.wrap (total + k) = total + k := IntWalk.i64_in _ (by omega)
  have hD0 := fireTo_zero (rows := rows) (k := k) h.dl hx hy
  obtain ⟨D, hDD⟩ : ∃ D, fireTo rows val d n v k n = D := ⟨_, rfl⟩
  obtain ⟨F, hFF⟩ : ∃ F : Nat → List Int, (fun m => fireTo rows val d n v k m) = F := ⟨_, rfl⟩
  have hFm : ∀ m, fireTo rows val d n v k m = F m := fun m => by rw [← hFF]
  have HFD : Hid (F n = D) := by rw [← hDD, ← hFF]; rfl
  have HFB : Hid (∀ m z, m < n → (F m)[m]? = some z → -140737488355328 ≤ z ∧ z ≤ 140737488355328) := by
    intro m z hm hz
    rw [← hFm, fireTo_get hm] at hz
    injection hz with hz
    simp only [Nat.lt_irrefl, if_false, Int.add_zero, getD_at hy] at hz
    obtain ⟨z0, hz0⟩ := get_of_lt (xs := d) (k := m) (by have := h.dl; omega)
    have := hd z0 (List.mem_of_getElem? hz0)
    rw [getD_at hz0] at hz
    split at hz <;> omega
  have HFS : Hid (∀ m z u, m < n → r[m]? = some u → (F m)[m]? = some z → (F m).set m (z + k * u) = F (m + 1)) := by
    intro m z u hm hu hz
    rw [← hFm] at hz ⊢
    rw [← hFm]
    exact fireTo_succ hm hr hu hz
  have HFN : Hid (∀ m, m < n → (F (m + 1)).getD m 0 = D.getD m 0) := by
    intro m hm
    rw [← hFm, ← hDD, List.getD_eq_getElem?_getD, List.getD_eq_getElem?_getD, fireTo_get hm, fireTo_get hm]
    have e1 : m < m + 1 := Nat.lt_succ_self m
    simp only [e1, hm, if_true]
  have HFL : Hid (∀ m, (F m).length = n) := fun m => by rw [← hFm]; exact fireTo_length
  rw [hFm] at hD0
  rw [hDD, getD_at hfv]
  have hk0i : (v : Int) < (n : Int) := by omega
  have e0 := h.c0
  have e3 := h.c3
  have ed := h.cd hx
  have ev := h.cv hy
  have fd := h.fd v
  have h1 := h.drew.setD hv (x - k * y)
  dsimp only at e0 e3 ed ev fd h1
  rw [hD0] at h1
  have H1 := Lib.hid h1
  have HO1 : Hid (Only (PB ⟨bd, cd, bv, bf, some ⟨bo, oo, none⟩, cr, gs⟩ bp) w (w.drew.setCell ⟨bd, v, none⟩ (.int .i64 (x - k * y)))) := ((Only.refl _ w).drew).setCell (p := ⟨bd, v, none⟩) (.inl (.inr (.inl rfl))) _
  have HRB := Lib.hid hrb
  have HRL := Lib.hid hrl
  have HR := Lib.hid hr
  have HG := Lib.hid hg
  have HX := Lib.hid hfv
  clear h1 h hx hy hr hg hd hval hrows hf hrb hrl hD0 hDD hFF hFm hfv hp1
  go_enter Tryz.func146, Tryz.ntmps146
  go_upto_region 0 with fail
  go_cut [] from 8 (fun wx => Hid (PileW wx base bp n ⟨bd, cd, bv, bf, some ⟨bo, oo, none⟩, cr, gs⟩ (F 0) q rows val fired total (waitL n q d val)) ∧ Hid (Only (PB ⟨bd, cd, bv, bf, some ⟨bo, oo, none⟩, cr, gs⟩ bp) w wx))
  case first =>
    go_region_with (fail)
    all_goals
      go_wp2
      go_meet
      exact ⟨H1, HO1⟩
  case rest =>
    obtain ⟨HP, HO⟩ := hcut
    have HE0 : Hid (waitL n q d val = waitTo q D val (waitL n q d val) 0) := (waitTo_zero HP.out.wl).symm
    obtain ⟨ws, hws⟩ : ∃ ws, waitL n q d val = ws := ⟨_, rfl⟩
    have HWS := Lib.hid hws
    rw [hws] at HE0 HP
    have e2 := HP.out.c2
    have eo := HP.out.co HG.out
    dsimp only at e2 eo
    clear H1 HO1 e0 e3 ed ev fd hws
    have hgl2 : (v : Int) < (gs.length : Int) := by omega
    go_wp2_with fail
    go_loopw [6, 7, 34] (fun _ _ i wl => ∃ m : Nat, i = .int .i64 m ∧ m ≤ n ∧ Hid (PileW wl base bp n ⟨bd, cd, bv, bf, some ⟨bo, oo, none⟩, cr, gs⟩ (F m) q rows val fired total (waitTo q D val ws m)) ∧ Hid (Only (PB ⟨bd, cd, bv, bf, some ⟨bo, oo, none⟩, cr, gs⟩ bp) w wl)) (fun _ _ i _ => n - (intOf i).toNat)
    case atStart => exact ⟨0, rfl, by omega, by rw [← HE0.out]; exact HP, HO⟩
    case round =>
      obtain ⟨m, rfl, hm, HPm, HOm⟩ := hrel
      clear e2 eo
      by_cases hlt : m < n
      · have hi : (m : Int) < (n : Int) := by omega
        obtain ⟨u, hu⟩ := get_of_lt (xs := r) (k := m) (by rw [HRL.out]; exact hlt)
        obtain ⟨z, hz⟩ := get_of_lt (xs := F m) (k := m) (by rw [HFL.out]; exact hlt)
        have hub := HRB.out u (List.mem_of_getElem? hu)
        have hzb := HFB.out m z hlt hz
        have hpb := mul_bd hk0 hk1 hub.1 hub.2
        have hw5 : IntKind.i64.wrap (k * u) = k * u := IntWalk.i64_in _ (by omega)
        have hw6 : IntKind.i64.wrap (z + k * u) = z + k * u := IntWalk.i64_in _ (by omega)
        have cr0 := (HPm.out.crow HG.out HR.out hu).1
        have e0 := HPm.out.c0
        have ed := HPm.out.cd hz
        have fd := HPm.out.fd m
        have P2 := HPm.out.setD hlt (z + k * u)
        have hst := HFS.out m z u hlt hu hz
        dsimp only at e0 ed fd P2
        rw [hst] at P2
        have O2 := HOm.out.setCell (p := ⟨bd, m, none⟩) (.inl (.inr (.inl rfl))) (.int .i64 (z + k * u))
        have HW := Lib.hid (wait_any base bp n hn _ _ q rows val fired total _ m hlt _ P2)
        have HO2 := Lib.hid O2
        clear hst P2 O2 hu hz hpb hzb hub
        go_wp2_with (go_at_call 116; refine (HW.out).mono ?_; rintro e w5 ⟨⟨x5, rfl⟩, P5, O5⟩; rw [waitTo_succ (by omega) (HFN.out m hlt)] at P5; have HP5 := Lib.hid P5; have HO5 := Lib.hid (HO2.out.trans (O5.mono (D := PB ⟨bd, cd, bv, bf, some ⟨bo, oo, none⟩, cr, gs⟩ bp) fun k _ hk => .inl hk)); clear P5 O5)
        go_roundw
        case rel => exact ⟨m + 1, by go_num, by omega, HP5, HO5⟩
        case measure => simp [intOf]; omega
      · obtain rfl : m = n := by omega
        have hPm := HPm.out
        rw [HFD.out] at hPm
        have HW := Lib.hid (wait_any base bp m hn _ _ q rows val fired total _ v hv _ hPm)
        clear hPm
        go_wp2_with fail
        refine (HW.out).mono ?_
        rintro e w5 ⟨⟨x5, rfl⟩, P5, O5⟩
        rw [← HWS.out, waitTo_end v hv] at P5
        have O5' := HOm.out.trans (O5.mono (D := PB ⟨bd, cd, bv, bf, some ⟨bo, oo, none⟩, cr, gs⟩ bp) fun k _ hk => .inl hk)
        have e4 := P5.c4
        have ef := P5.cf HX.out
        have ff := P5.ff.frozen v
        have P6 := P5.setF v (fv + k)
        have e5 := P6.c5
        have f5 := P6.blk.frozen 5
        have P7 := P6.setT (total + k)
        have O7 := (O5'.setCell (p := ⟨bf, v, none⟩) (.inl (.inr (.inr (.inr (.inl rfl))))) (.int .i64 (fv + k))).setCell (p := ⟨bp, 5, none⟩) (.inl (.inl rfl)) (.int .i64 (total + k))
        have HP7 := Lib.hid P7
        have HO7 := Lib.hid O7
        dsimp only at e4 ef ff e5
        clear P5 O5 O5' P6 P7 O7
        go_wp2
        exact bodyPost_end (results_none rfl _ _ _) rfl ⟨⟨_, rfl⟩, HP7.out, HO7.out⟩
end Go.Proofs.YtplgbapbgcipdaaGreat

/-! Package tree: vertex, Path, Parents. -/
namespace Go.Proofs.YtplgbapbgcipdaaGreat
open Go.RowKit

/-- A list of ints as numbers. -/
abbrev toN (xs : List Int) : List Nat := xs.map Int.toNat
theorem toN_nI (t : List Nat) : toN (nI t) = t := by
  unfold toN nI
  rw [List.map_map]
  conv => rhs; rw [← List.map_id t]
  exact List.map_congr_left fun x _ => by simp
/-- What a right tree brings. -/
structure TreeR (m : Nat) (es : List E3) (t : List Nat) : Prop where
  hG : RightG m es
  hT : FoE m (endsL es) t
  tr : IsTr m (endsL es) t
  lo : 1 ≤ m
  hi : m ≤ 12
theorem TreeR.len {m : Nat} {es : List E3} {t : List Nat} (h : TreeR m es t) : t.length ≤ 12 := by have := h.tr.len; have := h.hi; omega
theorem treeR_of {n : Int} {es : List E3} {xs : List Int} (h : treeErr n es xs = 0) : ∃ (m : Nat) (t : List Nat), n = m ∧ xs = nI t ∧ TreeR m es t := by
  obtain ⟨m, t, h1, h2, h3, h4, h5, h6, h7, _⟩ := tree_zero h
  exact ⟨m, t, h1, h2, h3, h5.foe h4, h5, h6, h7⟩

/-! Parents. -/
end Go.Proofs.YtplgbapbgcipdaaGreat

