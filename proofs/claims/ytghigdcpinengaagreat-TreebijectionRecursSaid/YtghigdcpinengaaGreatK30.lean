/-
  Texts of this claim, put together: Blocks, TGrow, TakeF.
-/
import Derived.Test.YtghigdcpinengaaGreatK28
import Derived.Test.YtghigdcpinengaaGreatK27
import Derived.Test.YtghigdcpinengaaGreatK11
import Derived.Test.YtghigdcpinengaaGreatK08
import Derived.Test.YtghigdcpinengaaGreatK26
import Derived.Test.YtghigdcpinengaaGreatK06
import Derived.Stop.RegionWithIn
/-! Package burning: Blocks. -/
namespace Go.Proofs.YtghigdcpinengaaGreat
open Go.RowKit

end Go.Proofs.YtghigdcpinengaaGreat

/-! Package tree: the closure that grows trees: what it has captured; a list that is a tree is yielded. -/
namespace Go.Proofs.YtghigdcpinengaaGreat
open Go.RowKit Go.Shelf
attribute [local go_sem] Oper.semAt_some

/-- A yielded tree. -/
def ArgT (t : List Nat) (args : Array Value) (O : Nat → Prop) (W : World) : Prop := ∃ A c, args = #[.slice A t.length c] ∧ OwnI W 0 A c (nI t) ∧ ∀ k, blockOf A k → O k
abbrev growF (bN bY bE bG : Nat) : Value := .func (.func 107) #[] #[.pointer (some ⟨bN, 0, none⟩), .pointer (some ⟨bY, 0, none⟩), .pointer (some ⟨bE, 0, none⟩), .pointer (some ⟨bG, 0, none⟩)]
/-- The blocks that the closure leans on. -/
def Fix5 (bN bY bE bG : Nat) (Ar : Option Addr) (k : Nat) : Prop := k = bN ∨ k = bY ∨ k = bE ∨ k = bG ∨ blockOf Ar k
/-- What the closure has captured. -/
structure GrowW (W : World) (n : Nat) (E : List (Nat × Nat)) (Ar : Option Addr) (cr l bN bY bE bG base : Nat) : Prop where
  h1 : Blk W bN 3 #[.int .i64 n]
  h2 : Blk W bY 141 #[.func (.yield l) #[] #[]]
  h3 : Blk W bE 61 #[.slice Ar E.length cr]
  h4 : Blk W bG 142 #[growF bN bY bE bG]
  rd : Reads W base 2 Ar E.length (pair2 E)
  lo : base ≤ W.heap.size
  cap : E.length ≤ cr
theorem GrowW.only {W W' : World} {n : Nat} {E : List (Nat × Nat)} {Ar : Option Addr} {cr l bN bY bE bG base : Nat} {D : Nat → Prop} (h : GrowW W n E Ar cr l bN bY bE bG base) (ho : Only D W W') (hd : ∀ k, Fix5 bN bY bE bG Ar k → ¬ D k) : GrowW W' n E Ar cr l bN bY bE bG base :=
  ⟨h.h1.only ho (hd _ (.inl rfl)), h.h2.only ho (hd _ (.inr (.inl rfl))), h.h3.only ho (hd _ (.inr (.inr (.inl rfl)))), h.h4.only ho (hd _ (.inr (.inr (.inr (.inl rfl))))), reads_onlyN h.rd ho h.lo fun _ hk => hd _ (.inr (.inr (.inr (.inr hk)))), Nat.le_trans h.lo ho.size, h.cap⟩
/-- The rest of the list of trees that a list of single edges grows to. -/
def growL (n : Nat) (E : List (Nat × Nat)) (t : List Nat) (e : Nat) : List (List Nat) := if t.length + 1 = n then [t] else treesG n E (E.length - e) t e
/-- What grow does: it yields L. -/
def GrowR (L xs pre : List (List Nat)) (J Jx : List (List Nat) → (Nat → Prop) → World → Prop) (base : Nat) (C : Nat → Prop) (A : Option Addr) (c : Nat) (t : List Nat) (W : World) (e : Ending) (W' : World) : Prop :=
  ∃ C' b, e = .returned (.bool b) ∧ Only (fun k => C k ∨ blockOf A k) W W' ∧ Grows C (fun _ => False) C' W W' ∧ (b = true → J (pre ++ L) C' W' ∧ OwnI W' base A c (nI t)) ∧ (b = false → ∃ pre', pre' <+: xs ∧ Jx pre' C' W')
/-- What a round is to be. -/
def Rounds (P : Program) (l : Nat) (J Jx : List (List Nat) → (Nat → Prop) → World → Prop) (xs : List (List Nat)) (base : Nat) : Prop :=
  ∀ pre x C W1 args O, pre ++ [x] <+: xs → J pre C W1 → base ≤ W1.heap.size → (∀ k, C k → k < W1.heap.size) → (∀ k, O k → ¬ C k ∧ k < W1.heap.size ∧ base ≤ k) → ArgT x args O W1 → Round P l J Jx pre x C O W1 args

theorem Only.tail {D D' : Nat → Prop} {a b c : World} (h : Only D a b) (k : Only D' b c) (hd : ∀ i, i < a.heap.size → D' i → D i) : Only D a c :=
  ⟨k.os.trans h.os, k.tape.trans h.tape, k.output.trans h.output, Nat.le_trans h.size k.size, fun i hi hn => (k.block i (Nat.lt_of_lt_of_le hi h.size) (fun hdi => hn (hd i hi hdi))).trans (h.block i hi hn)⟩
theorem Grows.tail {C C1 C2 O O' : Nat → Prop} {a b c : World} (h : Grows C O C1 a b) (k : Grows C1 O' C2 b c) (hs : a.heap.size ≤ b.heap.size) (hs2 : b.heap.size ≤ c.heap.size) (ho : ∀ i, O' i → a.heap.size ≤ i ∧ i < c.heap.size) : Grows C O C2 a c := fun i hi => by
  rcases k i hi with h1 | h1 | h1
  · rcases h i h1 with h2 | h2 | h2
    · exact .inl h2
    · exact .inr (.inl h2)
    · exact .inr (.inr ⟨h2.1, by omega⟩)
  · exact .inr (.inr (ho i h1))
  · exact .inr (.inr ⟨by omega, h1.2⟩)
theorem Grows.refl (C O : Nat → Prop) (a b : World) : Grows C O C a b := fun _ h => .inl h
set_option maxRecDepth 100000 in
set_option maxHeartbeats 4000000 in
theorem grow_leaf (n : Nat) (hn1 : 1 ≤ n) (hn : n ≤ 12) (E : List (Nat × Nat)) (Ar : Option Addr) (cr l bN bY bE bG base : Nat) (xs : List (List Nat)) (J Jx : List (List Nat) → (Nat → Prop) → World → Prop)
    (hY : Rounds Tryz.prog l J Jx xs base) (hJ : Bears base (fun _ => False) J)
    (t : List Nat) (ht : t.length + 1 = n) (e : Nat) (a0 a1 a2 a3 a4 a5 a6 a7 a8 a9 a10 a11 : Nat) (A : Option Addr) (c : Nat) (C : Nat → Prop) (pre : List (List Nat)) (W : World)
    (hW : GrowW W n E Ar cr l bN bY bE bG base) (hA : OwnI W base A c (nI t)) (hC : ∀ k, C k → k < W.heap.size ∧ ¬ Fix5 bN bY bE bG Ar k ∧ ¬ blockOf A k)
    (hp : pre ++ growL n E t e <+: xs) (h0 : J pre C W) :
    Calls Tryz.prog 107 #[.slice A t.length c, .int .i64 e, .agg #[.int .i64 a0, .int .i64 a1, .int .i64 a2, .int .i64 a3, .int .i64 a4, .int .i64 a5, .int .i64 a6, .int .i64 a7, .int .i64 a8, .int .i64 a9, .int .i64 a10, .int .i64 a11], .pointer (some ⟨bN, 0, none⟩), .pointer (some ⟨bY, 0, none⟩), .pointer (some ⟨bE, 0, none⟩), .pointer (some ⟨bG, 0, none⟩)] W
      fun en W' => GrowR (growL n E t e) xs pre J Jx base C A c t W en W' := by
  have hg : growL n E t e = [t] := if_pos ht
  rw [hg] at hp ⊢
  obtain ⟨W1, hW1⟩ : ∃ W1, W.alloc (.cells #[.int .i64 a0, .int .i64 a1, .int .i64 a2, .int .i64 a3, .int .i64 a4, .int .i64 a5, .int .i64 a6, .int .i64 a7, .int .i64 a8, .int .i64 a9, .int .i64 a10, .int .i64 a11] 138) = W1 := ⟨_, rfl⟩
  have ho1 : Only (fun _ => False) W W1 := by rw [← hW1]; exact (Only.refl _ W).alloc _
  have hG1 := hW.only ho1 (fun _ _ h => h)
  have hA1 : OwnI W1 base A c (nI t) := by rw [← hW1]; exact hA.alloc _
  have k1 := hG1.h1.cell 0
  have k2 := hG1.h2.cell 0
  have hnl := nI_length t
  have CL : Hid (∀ W2 : World, Reads W2 W2.heap.size 1 A (nI t).length (ints (nI t)) → Calls Tryz.prog 108 #[.slice A t.length c] W2 fun e w' => ∃ A' c', e = .returned (.slice A' t.length c') ∧ OwnI w' W2.heap.size A' c' (nI t) ∧ Below W2.heap.size W2 w') := by
    intro W2 hr
    have := clone_any A c (nI t) (by omega) W2 hr
    rw [hnl] at this
    exact this
  have hwn : IntKind.i64.wrap ((n : Int) - 1) = (n : Int) - 1 := IntWalk.i64_in _ (by omega)
  have hq : ((t.length : Int) == (n : Int) - 1) = true := by simp; omega
  have HY := Lib.hid hY
  have HP := Lib.hid hp
  have HJ := Lib.hid hJ
  have J1 := Lib.hid (hJ _ _ _ _ h0 (Stays.of_only ho1 (fun _ _ h => h.elim)))
  have HC := Lib.hid hC
  have HO1 := Lib.hid ho1
  have HA := Lib.hid hA
  have HA1 := Lib.hid hA1
  have HNL := Lib.hid hnl
  have hlo := hW.lo
  have HH2 := Lib.hid hG1.h2
  clear hY hp hJ h0 hC ho1 hA1 hA hnl hG1 hW ht hg
  refine (callsIn_wide (n := 3)).1 ?_
  refine callsIn_of_wp Tryz.func107 rfl trivial ?_
  simp only [Tryz.ntmps107, List.size_toArray, List.length_cons, List.length_nil, Nat.reduceAdd, Nat.reduceSub, Array.replicate_succ, Array.replicate_zero, List.push_toArray, List.append_toArray, List.nil_append, List.cons_append]
  gi_wp2_with fail
  clear hW1
  gi_region_with (first
    | (refine ⟨trivial, ?_⟩; gi_at_call 108; refine (inW (CL.out W1.drew (by exact HA1.out.reads))).mono ?_; rintro e w2 ⟨A', c', rfl, hown, hbel⟩
       have ho2 : Only (fun _ => False) W1 w2 := ((Only.refl _ W1).drew).trans (Only.of_new hbel)
       have cy : w2.cell? ⟨bY, 0, none⟩ = some (.func (.yield l) #[] #[]) := (HH2.out.only ho2 id).cell 0
       have hs1 := HO1.out.size
       have hs2 := ho2.size
       have hOw : Hid (∀ k, blockOf A' k → W1.heap.size ≤ k ∧ k < w2.heap.size) := fun k hk => hown.lt k (blockOf_own.2 hk)
       obtain ⟨fn, tmps, assign, body, hy, hR⟩ := HY.out pre t C w2 #[.slice A' t.length c'] (blockOf A') HP.out (HJ.out _ _ _ _ J1.out (Stays.of_only ho2 (fun _ _ h => h.elim))) (by omega) (fun k hk => by have := (HC.out k hk).1; omega) (fun k hk => ⟨fun h => by have := (HC.out k h).1; have := (hOw.out k hk).1; omega, (hOw.out k hk).2, by have := (hOw.out k hk).1; omega⟩) ⟨A', c', rfl, hown.mono (Nat.zero_le _), fun k hk => hk⟩)
    | (refine (roundIn_wide hR).mono ?_; rintro e w3 ⟨C2, b2, ho3, hg3, rfl, hj2, hx2⟩))
  all_goals (
    have EN : Hid (GrowR [t] xs pre J Jx base C A c t W (.returned (.bool b2)) w3) := by
      have hol : Only (fun _ => False) W w2 := HO1.out.trans ho2
      refine ⟨C2, b2, rfl, ?_, ?_, fun hb => ⟨hj2 hb, ?_⟩, fun hb => ⟨_, HP.out, hx2 hb⟩⟩
      · refine (hol.mono (fun _ _ h => h.elim)).tail ho3 fun i hi hd => ?_
        rcases hd with hd | hd
        · exact .inl hd
        · have := (hOw.out i hd).1; omega
      · exact (Grows.refl C _ W w2).tail hg3 hol.size ho3.size fun i hi => ⟨by have := (hOw.out i hi).1; omega, by have := (hOw.out i hi).2; have := ho3.size; omega⟩
      · refine (HA.out.only hol (fun _ _ h => h)).only ho3 fun k hk hd => ?_
        rcases hd with hd | hd
        · exact (HC.out k hd).2.2 hk
        · have h1 := (hOw.out k hd).1
          have h2 := (World.ownsRow.lt HA.out k (blockOf_own.2 hk)).2
          omega
    clear hj2 hx2 hR hy ho3 hg3 ho2 hown hbel
    gi_wp2
    go_ret
    exact EN.out)
end Go.Proofs.YtghigdcpinengaaGreat

/-! (*fire).take: a vertex burns; its single edges wait. -/
namespace Go.Proofs.YtghigdcpinengaaGreat
open Go.RowKit

set_option maxRecDepth 100000 in
set_option maxHeartbeats 8000000 in
theorem take_any (base b n v : Nat) (E : List (Nat × Nat)) (lv : Value) (a : FireA) (s : FireS) (H : List Int) (hn : n ≤ 12) (hv : v < n) (hE : BdP n E) (hEl : E.length ≤ 200) (hHl : H.length ≤ 200) (hol : s.order.length ≤ 1000) (hH : HeapN H H.length) (w : World) (hF : FireW w base b E n lv a s H) (hs : base ≤ w.heap.size) :
    Calls Tryz.prog 139 #[.pointer (some ⟨b, 0, none⟩), .int .i64 v] w fun e w' => e = .returned (.tuple #[]) ∧ ∃ a' H', FireW w' base b E n lv a' { s with order := s.order ++ [v] } H' ∧ H'.Perm (H ++ nI (newL E (s.order ++ [v]) v E.length)) ∧ HeapN H' H'.length ∧ Below base w w' := by
  have HF := Lib.hid hF
  obtain ⟨AE, hAE⟩ : ∃ x, a.AE = x := ⟨_, rfl⟩
  have HAE := Lib.hid hAE
  clear hAE
  have kB := hF.blk.cell 2
  have fB := hF.burnt.frozen v
  have cB := (hF.burnt.cell v).trans (bntL_at hv)
  have hvi : (v : Int) < (n : Int) := by omega
  have b0 : Blk (w.setCell ⟨a.gB, v, none⟩ (.bool true)) b 89 (fireC E n lv a s H) := hF.blk.far (p := ⟨a.gB, v, none⟩) (fun e => hF.ne e.symm) _
  have o0 : OwnI (w.setCell ⟨a.gB, v, none⟩ (.bool true)) base a.AO a.cO (nI s.order) := own_kept hF.order fun k hk => Below.heap_setCell w ⟨a.gB, v, none⟩ _ k (own_neB hF.order hF.burnt (by decide) k hk)
  have z0 : base ≤ (w.setCell ⟨a.gB, v, none⟩ (.bool true)).heap.size := by simpa [World.setCell] using hs
  have own0 := own_lenH o0 (nI_length s.order)
  have hnb : ∀ k, blockOf a.AO k → k ≠ b := own_neB o0 b0 (by decide)
  have kB2 : w.cell? ⟨b, 2, none⟩ = some (.slice (some ⟨a.gB, 0, none⟩) n n) := kB
  have k52 : (w.setCell ⟨a.gB, v, none⟩ (.bool true)).cell? ⟨b, 5, none⟩ = some (.slice a.AO s.order.length a.cO) := b0.cell 5
  have HH := Lib.hid hH
  have HEB := Lib.hid hE
  have HNB := Lib.hid hnb
  have B0 := Lib.hid b0
  have hzw : (w.setCell ⟨a.gB, v, none⟩ (.bool true)).heap.size = w.heap.size := by simp [World.setCell]
  have hrb := Reads.box (w.setCell ⟨a.gB, v, none⟩ (.bool true)) (.int .i64 (v : Int)) 3
  rw [hzw] at hrb
  have HZW := Lib.hid hzw
  clear hF hH hE kB hnb b0 hzw o0
  go_enter Tryz.func139, Tryz.ntmps139
  go_wp2_with (first | (at_builtin; refine append_go rfl (.tmp 16) (.tmp 18) _ rfl base 3 Tryz.underlying25 info_int rfl (by omega) a.AO a.cO s.order.length (ints (nI s.order)) rfl (World.ownsRow.alloc own0 _) (w.heap.size + 1) [.int .i64 (v : Int)] rfl hrb (by simp [Value.oneCell']) (by omega) (by simp; omega) ?_; intro A5 c5 w5 hown5 hg5 hb5 hd5; have b5 : Blk w5 b 89 (fireC E n lv a s H) := (hg5.block b (by have h1 := B0.out.lt; rw [HZW.out] at h1; simp; omega) (fun e => HNB.out b (blockOf_own.1 e.symm) rfl)).trans (B0.out.alloc _); have fz5 := b5.frozen 5; have kc5 : w5.cell? ⟨b, 5, none⟩ = some (.slice a.AO s.order.length a.cO) := b5.cell 5; have kc0 : (w5.setCell ⟨b, 5, none⟩ (.slice A5 (s.order.length + 1) c5)).cell? ⟨b, 0, none⟩ = some (.slice AE E.length a.cE) := (by rw [← HAE.out]; exact (b5.set_ 5 (.slice A5 (s.order.length + 1) c5)).cell 0)) | fail)
  have hF := HF.out
  have hA5 : ∀ k, blockOf A5 k → blockOf a.AO k ∨ w.heap.size ≤ k := by
    intro k hk
    have hk2 : (Value.slice A5 (s.order.length + 1) c5).ownBlock = some k := blockOf_own.2 hk
    rcases hd5 with hd5 | hd5
    · rw [hd5] at hk2; exact .inl (blockOf_own.1 hk2)
    · rw [hd5] at hk2; injection hk2 with hk2; subst hk2; refine .inr ?_; simp [World.setCell]
  have o5 : OwnI w5 base A5 c5 (nI (s.order ++ [v])) := by
    unfold OwnI; rw [nI_length, List.length_append]
    have : ints (nI (s.order ++ [v])) = ints (nI s.order) ++ [.int .i64 (v : Int)] := by simp [nI, ints]
    rw [this]; exact hown5
  have F1 := Lib.hid (hF.mark (x := s.order.length) hv hg5 o5 hA5)
  have HP0 : Hid (Below base w (w5.setCell ⟨b, 5, none⟩ (.slice A5 (s.order.length + 1) c5))) := (((((Below.refl base w).setCell (p := ⟨a.gB, v, none⟩) hF.hgB (.bool true)).alloc z0 (.cells #[.int .i64 (v : Int)] 3)).trans hb5).setCell (p := ⟨b, 5, none⟩) hF.hb _)
  have hz5 : base ≤ (w5.setCell ⟨b, 5, none⟩ (.slice A5 (s.order.length + 1) c5)).heap.size := Nat.le_trans hs HP0.out.size
  have HZ5 := Lib.hid hz5
  clear hF hA5 o5 hown5 hg5 hd5 hb5 b5 fz5 kc5 own0 hrb k52 fB cB kB2 hz5
  go_loopw [27] (fun i wr => ∃ k : Nat, k ≤ E.length ∧ i = .int .i64 k ∧ Hid (base ≤ wr.heap.size) ∧ Hid (Below base w wr) ∧ Hid (∃ A' c' H', FireW wr base b E n lv { a with AO := A5, cO := c5, AH := A', cH := c' } { s with order := s.order ++ [v] } H' ∧ H'.Perm (H ++ nI (newL E (s.order ++ [v]) v k)) ∧ HeapN H' H'.length)) (fun i _ => E.length - (intOf i).toNat)
  case atStart => exact ⟨0, by omega, rfl, HZ5.out, HP0.out, a.AH, a.cH, H, F1.out, by simp [newL, nI], HH.out⟩
  case round =>
    obtain ⟨k, hk, rfl, HZ, HW, HI⟩ := hrel
    clear kc0
    obtain ⟨A1, c1, H1, hF1, hP1, hH1⟩ := HI.out
    by_cases hlt : k < E.length
    · obtain ⟨⟨x0, x1⟩, hp⟩ : ∃ p, E.getD k (0, 0) = p := ⟨_, rfl⟩
      have hab := getD_bd HEB.out hlt
      obtain ⟨bA, oA, hA, hbA, q0, q1⟩ := hF1.ends.pairAt (getD_some hlt)
      have hA2 : AE = some ⟨bA, oA, none⟩ := HAE.out.symm.trans hA
      subst hA2
      clear hA
      have hb2 : wr.cell? ⟨b, 2, none⟩ = some (.slice (some ⟨a.gB, 0, none⟩) n n) := hF1.blk.cell 2
      have hb2a : (wr.alloc (.cells #[.int .i64 (x0 : Int), .int .i64 (x1 : Int)] 63)).cell? ⟨b, 2, none⟩ = some (.slice (some ⟨a.gB, 0, none⟩) n n) := (hF1.blk.alloc _).cell 2
      rw [hp] at hab q0 q1
      dsimp only at hab q0 q1
      obtain ⟨h0, h1⟩ := hab
      have hl1 : H1.length ≤ 500 := by rw [hP1.length_eq, List.length_append, nI_length]; have := List.length_filter_le (fun e => decide ((E.getD e (0, 0)).1 ≠ (E.getD e (0, 0)).2) && (decide ((E.getD e (0, 0)).1 = v) || decide ((E.getD e (0, 0)).2 = v)) && !decide ((E.getD e (0, 0)).1 + (E.getD e (0, 0)).2 - v ∈ s.order ++ [v])) (List.range k); rw [List.length_range] at this; unfold newL; omega
      have QS := Lib.hid (fun W (hB : Below wr.heap.size wr W) => hF1.keep HZ.out hB)
      have hHl1 : H1.length ≤ 500 := hl1
      have PC : Hid (∀ W, Below wr.heap.size wr W → Calls Tryz.prog 157 #[.iface 179 (.pointer (some ⟨b, 7, none⟩)), .iface 3 (.int .i64 (k : Int))] W fun e w' => e = .returned (.tuple #[]) ∧ Hid (base ≤ w'.heap.size) ∧ Hid (Below base w w') ∧ Hid (∃ A' c' H', FireW w' base b E n lv { a with AO := A5, cO := c5, AH := A', cH := c' } { s with order := s.order ++ [v] } H' ∧ H'.Perm (H ++ nI (newL E (s.order ++ [v]) v k) ++ [(k : Int)]) ∧ HeapN H' H'.length)) := by
        intro W hB
        have hFW := QS.out W hB
        have hz : base ≤ W.heap.size := Nat.le_trans HZ.out hB.size
        refine (hpush_any b 7 base 89 (by decide) _ (by simp [fireC]) A1 c1 H1 H1.length rfl (by omega) hH1 (k : Int) W hFW.next hz hFW.blk (by simp [fireC])).mono ?_
        rintro e w' ⟨he, A', c', H', l', p', h', o', b', W', D'⟩
        rw [← l'] at b' h'
        have hbel : Below base W w' := W'.below (fun j hj hc => by
          rcases hc with hc | hc
          · have := own_geI hFW.next j hc; omega
          · have := hFW.hb; omega) hz
        refine ⟨he, Nat.le_trans hz hbel.size, (HW.out.trans (hB.mono HZ.out)).trans hbel, A', c', H', hFW.queue o' b' W' D' hz, ?_, h'⟩
        refine p'.trans ((List.Perm.cons _ hP1).trans ?_)
        exact List.perm_append_comm (l₁ := [(k : Int)])
      have HP := Lib.hid hp
      obtain ⟨y, hy⟩ : ∃ y, x0 + x1 - v = y := ⟨_, rfl⟩
      have hbt := fun (hyn : y < n) => ((hF1.burnt.alloc (w := wr) (.cells #[.int .i64 (x0 : Int), .int .i64 (x1 : Int)] 63)).cell y).trans (bntL_at (order := s.order ++ [v]) hyn)
      have SKIP : Hid ((x0 = x1 ∨ (x0 ≠ v ∧ x1 ≠ v) ∨ x0 + x1 - v ∈ s.order ++ [v]) → ∀ W, Below wr.heap.size wr W → Hid (base ≤ W.heap.size) ∧ Hid (Below base w W) ∧ Hid (∃ A' c' H', FireW W base b E n lv { a with AO := A5, cO := c5, AH := A', cH := c' } { s with order := s.order ++ [v] } H' ∧ H'.Perm (H ++ nI (newL E (s.order ++ [v]) v (k + 1))) ∧ HeapN H' H'.length)) := by
        intro hc W hB
        refine ⟨Nat.le_trans HZ.out hB.size, HW.out.trans (hB.mono HZ.out), A1, c1, H1, QS.out W hB, ?_, hH1⟩
        rw [new_skip HP.out hc]; exact hP1
      clear hF1 hP1 hH1 hp HI hl1 hHl1
      have hki : (k : Int) < (E.length : Int) := by omega
      by_cases e01 : x0 = x1
      · subst e01
        have hne : ((x0 : Int) != (x0 : Int)) = false := by simp
        clear hbt
        have SK := Lib.hid (SKIP.out (.inl rfl))
        clear SKIP
        go_wp2_with fail
        go_quiet (fail)
        go_wp2
        go_roundw
        case rel => exact ⟨k + 1, by omega, by go_num, SK.out _ (by exact below_drewN ((Below.refl _ _).alloc (Nat.le_refl _) _) _)⟩
        case measure => simp [intOf]; omega
      · have hne : ((x0 : Int) != (x1 : Int)) = true := bne_iff_ne.2 (by omega)
        by_cases ev : x0 = v ∨ x1 = v
        · have hyn : y < n := by omega
          have hyi : (y : Int) < (n : Int) := by omega
          have hby := hbt hyn
          have hw1 : IntKind.i64.wrap ((x0 : Int) + (x1 : Int)) = (x0 : Int) + (x1 : Int) := IntWalk.i64_in _ (by omega)
          have hw2 : IntKind.i64.wrap ((x0 : Int) + (x1 : Int) - (v : Int)) = (y : Int) := by rw [IntWalk.i64_in _ (by omega)]; omega
          clear hbt
          rw [hy] at SKIP
          by_cases e0 : x0 = v
          · have hq0 : ((x0 : Int) == (v : Int)) = true := by simp [e0]
            by_cases hbn : x0 + x1 - v ∈ s.order ++ [v]
            · rw [hy] at hbn
              rw [decide_eq_true hbn] at hby
              have E0 := Lib.hid ev
              have EY := Lib.hid hy
              clear ev hy e0
              have SK := Lib.hid (SKIP.out (.inr (.inr hbn)))
              clear SKIP
              go_wp2_with fail
              go_quiet (fail)
              go_wp2
              go_roundw
              case rel => exact ⟨k + 1, by omega, by go_num, SK.out _ (by exact below_drewN ((Below.refl _ _).alloc (Nat.le_refl _) _) _)⟩
              case measure => simp [intOf]; omega
            · have hb2_ := hbn
              rw [hy] at hb2_
              rw [decide_eq_false hb2_] at hby
              have HN := new_push HP.out e01 (.inl e0) hbn
              have HN := Lib.hid HN
              clear e0 ev hy hbn hb2_
              clear SKIP
              go_wp2_with fail
              go_quiet (fail)
              go_wp2_with fail
              refine (PC.out _ (by exact below_drewN ((Below.refl _ _).alloc (Nat.le_refl _) _) _)).mono ?_
              rintro e w8 ⟨rfl, HZ8, HW8, HI8⟩
              go_wp2
              go_roundw
              case rel =>
                refine ⟨k + 1, by omega, by go_num, HZ8, HW8, ?_⟩
                obtain ⟨A', c', H', f', p', h'⟩ := HI8.out
                refine ⟨A', c', H', f', ?_, h'⟩
                rw [HN.out, nI, List.map_append, ← List.append_assoc]; exact p'
              case measure => simp [intOf]; omega
          · have hq0 : ((x0 : Int) == (v : Int)) = false := by simp; omega
            have hq1 : ((x1 : Int) == (v : Int)) = true := by simp; omega
            by_cases hbn : x0 + x1 - v ∈ s.order ++ [v]
            · rw [hy] at hbn
              rw [decide_eq_true hbn] at hby
              have E0 := Lib.hid ev
              have EY := Lib.hid hy
              clear ev hy
              have SK := Lib.hid (SKIP.out (.inr (.inr hbn)))
              clear SKIP
              go_wp2_with fail
              go_quiet (fail)
              go_wp2
              go_roundw
              case rel => exact ⟨k + 1, by omega, by go_num, SK.out _ (by exact below_drewN ((Below.refl _ _).alloc (Nat.le_refl _) _) _)⟩
              case measure => simp [intOf]; omega
            · have hb2_ := hbn
              rw [hy] at hb2_
              rw [decide_eq_false hb2_] at hby
              have HN := new_push HP.out e01 (.inr (by omega)) hbn
              have HN := Lib.hid HN
              clear ev hy hbn hb2_
              clear SKIP
              go_wp2_with fail
              go_quiet (fail)
              go_wp2_with fail
              refine (PC.out _ (by exact below_drewN ((Below.refl _ _).alloc (Nat.le_refl _) _) _)).mono ?_
              rintro e w8 ⟨rfl, HZ8, HW8, HI8⟩
              go_wp2
              go_roundw
              case rel =>
                refine ⟨k + 1, by omega, by go_num, HZ8, HW8, ?_⟩
                obtain ⟨A', c', H', f', p', h'⟩ := HI8.out
                refine ⟨A', c', H', f', ?_, h'⟩
                rw [HN.out, nI, List.map_append, ← List.append_assoc]; exact p'
              case measure => simp [intOf]; omega
        · have hq0 : ((x0 : Int) == (v : Int)) = false := by simp; omega
          have hq1 : ((x1 : Int) == (v : Int)) = false := by simp; omega
          clear hbt
          have SK := Lib.hid (SKIP.out (.inr (.inl ⟨fun e => ev (.inl e), fun e => ev (.inr e)⟩)))
          clear SKIP
          go_wp2_with fail
          go_quiet (fail)
          go_wp2
          go_roundw
          case rel => exact ⟨k + 1, by omega, by go_num, SK.out _ (by exact below_drewN ((Below.refl _ _).alloc (Nat.le_refl _) _) _)⟩
          case measure => simp [intOf]; omega
    · obtain rfl : k = E.length := by omega
      clear HI
      have hF1 := Lib.hid hF1
      have hP1 := Lib.hid hP1
      have hH1 := Lib.hid hH1
      go_wp2
      exact bodyPost_end (results_none rfl _ _ _) rfl ⟨rfl, _, H1, hF1.out, hP1.out, hH1.out, HW.out⟩
end Go.Proofs.YtghigdcpinengaaGreat

