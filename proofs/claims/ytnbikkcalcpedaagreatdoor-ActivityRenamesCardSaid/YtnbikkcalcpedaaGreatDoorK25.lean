/-
  Texts of this claim, put together: Renam, FireW, Wood, PileOf, PileL, MayP, Blocks, TPath, RTree.
-/
import Derived.Test.YtnbikkcalcpedaaGreatDoorK23
import Derived.Test.YtnbikkcalcpedaaGreatDoorK06
import Derived.BigRegion
import Derived.Deep.RegionWith
import Derived.Deep.RegionHeld3
import Derived.Test.YtnbikkcalcpedaaGreatDoorK15
import Derived.Test.YtnbikkcalcpedaaGreatDoorK09
import Derived.Test.YtnbikkcalcpedaaGreatDoorK22
import Derived.Test.YtnbikkcalcpedaaGreatDoorK08
import Derived.Deep.CutBlock
import Derived.Deep.RegionLaw
import Derived.Test.YtnbikkcalcpedaaGreatDoorK11
import Derived.Test.YtnbikkcalcpedaaGreatDoorK24
/-! ref08.Renaming. -/
namespace Go.Proofs.YtnbikkcalcpedaaGreatDoor
open Go.RowKit

set_option maxRecDepth 100000 in
set_option maxHeartbeats 2000000 in
theorem renaming_any (n : Int) (D : Option Addr) (f : Nat) (xs : List Int) (hf : xs.length ≤ f) (hs : xs.length ≤ 1048576) (w : World) (h : Reads w w.heap.size 1 D xs.length (ints xs)) :
    Calls Tryz.prog 12 #[.int .i64 n, .slice D xs.length f] w fun e w' => e = .returned (.int .i64 (renErr n xs)) ∧ Below w.heap.size w w' := by
  by_cases hl : (xs.length : Int) = n
  · have hi0 : ((xs.length : Int) != n) = false := by simp; omega
    have hR0 : Hid (renErr n xs = renFrom n (xs.take 0) (xs.drop 0)) := by rw [Hid]; unfold renErr; rw [if_neg (by omega)]; rfl
    obtain ⟨r, hr⟩ : ∃ r, renErr n xs = r := ⟨_, rfl⟩
    rw [hr] at hR0 ⊢
    have HL := Lib.hid hl
    clear hr hl
    go_enter Tryz.func12, Tryz.ntmps12
    go_wp2
    go_loopw [5] (fun i wr => ∃ k : Nat, k ≤ xs.length ∧ i = .int .i64 k ∧ Hid (r = renFrom n (xs.take k) (xs.drop k)) ∧ Below w.heap.size w wr) (fun i _ => xs.length - (intOf i).toNat)
    case atStart => exact ⟨0, by omega, rfl, hR0, Below.refl _ _⟩
    case round =>
      obtain ⟨k, hk, rfl, HS, hbel⟩ := hrel
      have hsz := hbel.size
      by_cases hlt : k < xs.length
      · obtain ⟨x, hx⟩ := get_of_lt hlt
        have hd := renFrom_at (n := n) hx
        rw [← HS.out] at hd
        obtain ⟨b, off, rfl, hb, hcell⟩ := (h.below hbel).at_ (ints_at hx)
        have hi : (k : Int) < n := by have := HL.out; omega
        have hi2 : (k : Int) < (xs.length : Int) := by omega
        have hkf : (k : Int) ≤ (f : Int) := by omega
        have hrt := ((h.below hbel).more hsz).upto k hlt
        by_cases h1 : x < 0
        · rw [if_pos (.inl h1)] at hd
          have HD := Lib.hid hd
          clear hd hx
          go_wp2
          go_ret
          exact ⟨ret_int HD.out.symm, hbel⟩
        · by_cases h2 : n ≤ x
          · rw [if_pos (.inr h2)] at hd
            have HD := Lib.hid hd
            clear hd hx
            go_wp2
            go_ret
            exact ⟨ret_int HD.out.symm, hbel⟩
          · rw [if_neg (by omega)] at hd
            have CC : ∀ W : World, Reads W W.heap.size 1 (some ⟨b, off, none⟩) k (ints (xs.take k)) → _ := fun W hW => holds_any (some ⟨b, off, none⟩) f (xs.take k) (by rw [List.length_take]; omega) x W (by rw [List.length_take, Nat.min_eq_left (by omega)]; exact hW)
            simp only [List.length_take, Nat.min_eq_left (show k ≤ xs.length by omega)] at CC
            by_cases h3 : x ∈ xs.take k
            · rw [if_pos h3] at hd
              simp only [decide_eq_true h3] at CC
              have HD := Lib.hid hd
              have CC := Lib.hid CC
              have HRT := Lib.hid hrt
              clear hd hx h3 hrt
              go_wp2
              go_region_with (go_at_call 51; refine (CC.out _ (by exact HRT.out)).mono ?_; rintro e w' ⟨rfl, rfl⟩)
              all_goals (
                go_wp2
                go_ret
                exact ⟨ret_int HD.out.symm, below_drewN hbel _⟩)
            · rw [if_neg h3] at hd
              simp only [decide_eq_false h3] at CC
              have HD := Lib.hid hd
              have CC := Lib.hid CC
              have HRT := Lib.hid hrt
              clear hd hx h3 hrt
              go_wp2
              go_region_with (go_at_call 51; refine (CC.out _ (by exact HRT.out)).mono ?_; rintro e w' ⟨rfl, rfl⟩)
              all_goals (
                go_wp2
                go_roundw
                case rel => exact ⟨k + 1, by omega, by go_num, HD.out, below_drewN hbel _⟩
                case measure => simp [intOf]; omega)
      · obtain rfl : k = xs.length := by omega
        have hi : ¬ (xs.length : Int) < n := by have := HL.out; omega
        go_wp2
        go_ret
        exact ⟨ret_int (by rw [HS.out, renFrom_end]), hbel⟩
  · have hi0 : ((xs.length : Int) != n) = true := by simp; omega
    have hR : renErr n xs = 8 := by unfold renErr; rw [if_pos hl]
    rw [hR]
    clear hR hl
    go_enter Tryz.func12, Tryz.ntmps12
    go_wp2
    go_ret
    exact ⟨rfl, Below.refl _ _⟩

set_option maxHeartbeats 1000000 in
theorem renaming_ne_any (n : Int) (D : Option Addr) (f N : Nat) (hl : (N : Int) ≠ n) (w : World) :
    Calls Tryz.prog 12 #[.int .i64 n, .slice D N f] w fun e w' => e = .returned (.int .i64 8) ∧ Below w.heap.size w w' := by
  have hi0 : ((N : Int) != n) = true := by simp; omega
  go_enter Tryz.func12, Tryz.ntmps12
  go_wp2
  go_ret
  exact ⟨rfl, Below.refl _ _⟩
end Go.Proofs.YtnbikkcalcpedaaGreatDoor

/-! The fire of treebijection in memory. -/
namespace Go.Proofs.YtnbikkcalcpedaaGreatDoor
open Go.RowKit

/-- Where the fire's slices lie. -/
structure FireA where
  AE : Option Addr
  cE : Nat
  gB : Nat
  gT : Nat
  AS : Option Addr
  cS : Nat
  AO : Option Addr
  cO : Nat
  AD : Option Addr
  cD : Nat
  AH : Option Addr
  cH : Nat
def fireC (E : List (Nat × Nat)) (n : Nat) (lv : Value) (a : FireA) (s : FireS) (H : List Int) : Array Value :=
  #[.slice a.AE E.length a.cE, lv, .slice (some ⟨a.gB, 0, none⟩) n n, .slice (some ⟨a.gT, 0, none⟩) n n, .slice a.AS s.steps.length a.cS, .slice a.AO s.order.length a.cO, .slice a.AD s.tree.length a.cD, .slice a.AH H.length a.cH]
/-- Two slices in blocks of their own. -/
def Dj (A B : Option Addr) : Prop := ∀ k, blockOf A k → ¬ blockOf B k
theorem Dj.symm {A B : Option Addr} (h : Dj A B) : Dj B A := fun k h1 h2 => h k h2 h1
theorem Dj.upd {A A' B : Option Addr} {N : Nat} (h : Dj A B) (h1 : ∀ k, blockOf A' k → blockOf A k ∨ N ≤ k) (h2 : ∀ k, blockOf B k → k < N) : Dj A' B := fun k k1 k2 => by
  rcases h1 k k1 with h3 | h3
  · exact h k h3 k2
  · have := h2 k k2; omega
def bntL (n : Nat) (order : List Nat) : List Bool := (List.range n).map fun v => decide (v ∈ order)
structure FireW (w : World) (base b : Nat) (E : List (Nat × Nat)) (n : Nat) (lv : Value) (a : FireA) (s : FireS) (H : List Int) : Prop where
  blk : Blk w b 242 (fireC E n lv a s H)
  ends : Reads w base 2 a.AE E.length (pair2 E)
  burnt : Blk w a.gB 4 (bools (bntL n s.order))
  hb : base ≤ b
  hgB : base ≤ a.gB
  times : OwnI w base (some ⟨a.gT, 0, none⟩) n s.times
  tlen : s.times.length = n
  steps : OwnI w base a.AS a.cS (nI s.steps)
  order : OwnI w base a.AO a.cO (nI s.order)
  tree : OwnI w base a.AD a.cD (nI s.tree)
  next : OwnI w base a.AH a.cH H
  tS : Dj (some ⟨a.gT, 0, none⟩) a.AS
  tO : Dj (some ⟨a.gT, 0, none⟩) a.AO
  tD : Dj (some ⟨a.gT, 0, none⟩) a.AD
  tH : Dj (some ⟨a.gT, 0, none⟩) a.AH
  sO : Dj a.AS a.AO
  sD : Dj a.AS a.AD
  sH : Dj a.AS a.AH
  oD : Dj a.AO a.AD
  oH : Dj a.AO a.AH
  dH : Dj a.AD a.AH
section
variable {w w' : World} {base b n : Nat} {E : List (Nat × Nat)} {lv : Value} {a : FireA} {s : FireS} {H : List Int}
theorem own_ltI {A : Option Addr} {c : Nat} {xs : List Int} (h : OwnI w base A c xs) : ∀ k, blockOf A k → k < w.heap.size := fun _ hk => (own_lt h hk).2
theorem own_geI {A : Option Addr} {c : Nat} {xs : List Int} (h : OwnI w base A c xs) : ∀ k, blockOf A k → base ≤ k := fun _ hk => (own_lt h hk).1
theorem own_neB {A : Option Addr} {c g : Nat} {xs : List Int} {t : TypeId} {cs : Array Value} (h : OwnI w base A c xs) (hg : Blk w g t cs) (ht : 3 ≠ t) : ∀ k, blockOf A k → k ≠ g := fun _ hk => own_blk h hg ht hk
theorem FireW.ne (h : FireW w base b E n lv a s H) : a.gB ≠ b := fun e => Blk.ne_ h.burnt h.blk (by decide) e
/-- What has only made memory keeps the fire. -/
theorem FireW.keep (h : FireW w base b E n lv a s H) (hs : base ≤ w.heap.size) (hb : Below w.heap.size w w') : FireW w' base b E n lv a s H := by
  refine { h with blk := h.blk.next hb, ends := h.ends.below (hb.mono hs), burnt := h.burnt.next hb, times := h.times.next hb, steps := h.steps.next hb, order := h.order.next hb, tree := h.tree.next hb, next := h.next.next hb }
end
end Go.Proofs.YtnbikkcalcpedaaGreatDoor

/-! Package burning: the wood, its flames, and what is not burnt. -/
namespace Go.Proofs.YtnbikkcalcpedaaGreatDoor
open Go.RowKit

/-- The cells of a wood: n vertices, how often they are joined, the chips (a slice), what is burnt. -/
def wtail (ch : Value) (l : List Nat) : List Value := ch :: (List.range 12).map fun u => Value.bool (decide (u ∈ l))
def wtab (t : Nat → Nat → Int) : List Value := (List.range 144).map fun i => Value.int .i64 (t (i / 12) (i % 12))
def wcells (n : Nat) (t : Nat → Nat → Int) (ch : Value) (l : List Nat) : Array Value := (.int .i64 n :: (wtab t ++ wtail ch l)).toArray
section
variable {n : Nat} {t : Nat → Nat → Int} {ch : Value} {l : List Nat}
theorem wtab_length : (wtab t).length = 144 := by simp [wtab]
theorem wcells_set_burnt {u : Nat} (hu : u < 12) : (wcells n t ch l).setIfInBounds (146 + u) (.bool true) = wcells n t ch (l ++ [u]) := by
  unfold wcells
  rw [List.setIfInBounds_toArray, show 146 + u = (145 + u) + 1 from by omega, List.set_cons_succ, List.set_append_right _ _ (by rw [wtab_length]; omega), wtab_length, show 145 + u - 144 = u + 1 from by omega]
  congr 3
  unfold wtail
  rw [List.set_cons_succ]
  congr 1
  apply List.ext_getElem?
  intro i
  rw [List.getElem?_set]
  by_cases hi : i < 12
  · by_cases he : u = i
    · subst he; simp [hu]
    · rw [if_neg he, List.getElem?_map, List.getElem?_map, List.getElem?_range hi]
      have : (i ∈ l ++ [u]) ↔ i ∈ l := by simp [Ne.symm he]
      simp only [Option.map_some, this]
  · rw [if_neg (by omega)]
    rw [List.getElem?_eq_none (by simp; omega), List.getElem?_eq_none (by simp; omega)]
end
/-- Block g is a wood. -/
def Wood (w : World) (g n : Nat) (es : List E3) (ch : Value) (l : List Nat) : Prop := Blk w g 359 (wcells n (tt es) ch l)

section
variable {w w' : World} {g n : Nat} {es : List E3} {ch : Value} {l : List Nat}
theorem Wood.burn (h : Wood w g n es ch l) {u : Nat} (hu : u < 12) : Wood (w.setCell ⟨g, 146 + u, none⟩ (.bool true)) g n es ch (l ++ [u]) := by
  have := Blk.set_ h (146 + u) (.bool true)
  rwa [wcells_set_burnt hu] at this
end

end Go.Proofs.YtnbikkcalcpedaaGreatDoor

/-! stabilize.pileOf. -/
namespace Go.Proofs.YtnbikkcalcpedaaGreatDoor
open Go.RowKit

theorem Reads.two {w : World} {B n : Nat} {A : Option Addr} {ps : List (Nat × Nat)} {k : Nat} {e : Nat × Nat} (h : Reads w B 2 A n (pair2 ps)) (he : ps[k]? = some e) :
    ∃ b off, A = some ⟨b, off, none⟩ ∧ b < B ∧ w.cell? ⟨b, off + k * 2, none⟩ = some (.int .i64 (e.1 : Int)) ∧ w.cell? ⟨b, off + k * 2 + 1, none⟩ = some (.int .i64 (e.2 : Int)) := by
  have at_ : ∀ (ps : List (Nat × Nat)) (k : Nat), ps[k]? = some e → (pair2 ps)[k * 2]? = some (.int .i64 (e.1 : Int)) ∧ (pair2 ps)[k * 2 + 1]? = some (.int .i64 (e.2 : Int)) := by
    intro ps
    induction ps with
    | nil => intro k hk; simp at hk
    | cons p ps ih =>
      intro k hk
      rcases k with _ | k
      · have e1 : p = e := by simpa using hk
        subst e1
        exact ⟨rfl, rfl⟩
      · obtain ⟨i1, i2⟩ := ih k (by simpa using hk)
        have e1 : pair2 (p :: ps) = .int .i64 p.1 :: .int .i64 p.2 :: pair2 ps := rfl
        rw [e1, show (k + 1) * 2 = k * 2 + 1 + 1 by omega]
        exact ⟨by simpa using i1, by simpa using i2⟩
  have hk : k < ps.length := (List.getElem?_eq_some_iff.1 he).1
  have hl := h.1
  rw [pair2_length] at hl
  obtain ⟨b, off, hA, hb, hc⟩ := h.2 (by omega)
  obtain ⟨h1, h2⟩ := at_ ps k he
  exact ⟨b, off, hA, hb, hc _ _ h1, by have := hc _ _ h2; rwa [show off + (k * 2 + 1) = off + k * 2 + 1 from by omega] at this⟩
end Go.Proofs.YtnbikkcalcpedaaGreatDoor

/-! Plain: the table of a pile holds the single edges, its valences are the valences. -/
namespace Go.Proofs.YtnbikkcalcpedaaGreatDoor
open Go.RowKit

end Go.Proofs.YtnbikkcalcpedaaGreatDoor

/-! Plain laws of sets that may fire: as the reference counts, and as the program does; Dhar's law: the unburnt vertices block, and each set that blocks is unburnt. -/
namespace Go.Proofs.YtnbikkcalcpedaaGreatDoor
open Go.RowKit

/-! Dhar's law. -/
end Go.Proofs.YtnbikkcalcpedaaGreatDoor

/-! Package burning: Blocks. -/
namespace Go.Proofs.YtnbikkcalcpedaaGreatDoor
open Go.RowKit

end Go.Proofs.YtnbikkcalcpedaaGreatDoor

/-! Package tree: vertex, Path, Parents. -/
namespace Go.Proofs.YtnbikkcalcpedaaGreatDoor
open Go.RowKit

/-- A list of ints as numbers. -/
abbrev toN (xs : List Int) : List Nat := xs.map Int.toNat
theorem toN_nI (t : List Nat) : toN (nI t) = t := by
  unfold toN nI
  rw [List.map_map]
  conv => rhs; rw [← List.map_id t]
  exact List.map_congr_left fun x _ => by simp
/-- What a right tree brings. -/
structure TreeR (m : Nat) (es : List E3) (t : List Nat) : Prop where
  hG : RightG m es
  hT : FoE m (endsL es) t
  tr : IsTr m (endsL es) t
  lo : 1 ≤ m
  hi : m ≤ 12
theorem TreeR.cn {m : Nat} {es : List E3} {t : List Nat} (h : TreeR m es t) {a b : Nat} (ha : a < m) (hb : b < m) : Cn (pk (endsL es) t) a b := h.tr.cn h.hT.bd ha hb
theorem TreeR.len {m : Nat} {es : List E3} {t : List Nat} (h : TreeR m es t) : t.length ≤ 12 := by have := h.tr.len; have := h.hi; omega
theorem treeR_of {n : Int} {es : List E3} {xs : List Int} (h : treeErr n es xs = 0) : ∃ (m : Nat) (t : List Nat), n = m ∧ xs = nI t ∧ TreeR m es t := by
  obtain ⟨m, t, h1, h2, h3, h4, h5, h6, h7, _⟩ := tree_zero h
  exact ⟨m, t, h1, h2, h3, h5.foe h4, h5, h6, h7⟩

/-! Parents. -/
end Go.Proofs.YtnbikkcalcpedaaGreatDoor

/-! ref10.Edges, With; ref13.Joined, Is, Check, single. -/
namespace Go.Proofs.YtnbikkcalcpedaaGreatDoor
open Go.RowKit

set_option maxRecDepth 100000 in
set_option maxHeartbeats 2000000 in
theorem rjoinedErr_any (n : Int) (A : Option Addr) (c : Nat) (es : List E3) (hn : es.length ≤ 1048576) (w : World) (h : Reads w w.heap.size 3 A es.length (edgeCells es)) :
    Calls Tryz.prog 50 #[.agg #[.int .i64 n, .slice A es.length c]] w fun e w' => e = .returned (.int .i64 (joinErr n es)) ∧ Below w.heap.size w w' := by
  have g0 := Blk.new w 24 #[.int .i64 n, .slice A es.length c]
  have hb0 : Below w.heap.size w (w.alloc (.cells #[.int .i64 n, .slice A es.length c] 24)) := (Below.refl _ _).alloc (Nat.le_refl _) _
  have c0 := g0.cell 0
  have c1 := g0.cell 1
  have GC := Lib.hid (fun (W : World) (hB : Below w.heap.size w W) => rgcheck_any n A c es hn W ((h.below hB).more hB.size))
  by_cases hz : checkG n es = 0
  · have hG := right_of hz
    have hlo := hG.lo
    have hhi := hG.hi
    obtain ⟨m, rfl⟩ := Int.eq_ofNat_of_zero_le (show 0 ≤ n by omega)
    have KC := Lib.hid (fun (W : World) (hB : Below w.heap.size w W) => rconnected_any m (by omega) A c es hn W ((h.below hB).more hB.size))
    have HE : Hid (joinErr m es = if connB m es = false then 13 else 0) := by unfold Hid joinErr; rw [if_neg (fun hc => hc hz)]; rfl
    rw [HE.out]
    rw [hz] at GC
    obtain ⟨b, hb⟩ : ∃ b, connB m es = b := ⟨_, rfl⟩
    rw [hb] at KC ⊢
    clear hz hG HE hb
    go_enter Tryz.func50, Tryz.ntmps50
    go_wp2_with fail
    refine (GC.out _ hb0).mono ?_
    rintro e w1 ⟨rfl, hb1⟩
    have B1 := hb0.trans (hb1.mono hb0.size)
    have g1 := g0.next hb1
    have c0 := g1.cell 0
    have c1 := g1.cell 1
    go_wp2_with fail
    refine (KC.out _ B1).mono ?_
    rintro e w2 ⟨rfl, hb2⟩
    have B2 := B1.trans (hb2.mono B1.size)
    cases b
    · go_wp2
      go_ret
      exact ⟨rfl, B2⟩
    · go_wp2
      go_ret
      exact ⟨rfl, B2⟩
  · have HE : Hid (joinErr n es = checkG n es) := by unfold Hid joinErr; rw [if_pos hz]
    rw [HE.out]
    obtain ⟨z, hzz⟩ : ∃ z, checkG n es = z := ⟨_, rfl⟩
    rw [hzz] at GC hz ⊢
    have hb : (z != 0) = true := by simpa using hz
    clear hz hzz HE
    go_enter Tryz.func50, Tryz.ntmps50
    go_wp2_with fail
    refine (GC.out _ hb0).mono ?_
    rintro e w1 ⟨rfl, hb1⟩
    go_wp2
    go_ret
    exact ⟨rfl, hb0.trans (hb1.mono hb0.size)⟩
end Go.Proofs.YtnbikkcalcpedaaGreatDoor

