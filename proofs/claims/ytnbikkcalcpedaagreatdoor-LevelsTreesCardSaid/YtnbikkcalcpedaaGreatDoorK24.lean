/-
 Texts of this claim, put together: TGrowS.
-/
import Derived.Test.YtnbikkcalcpedaaGreatDoorK21
import Derived.Test.YtnbikkcalcpedaaGreatDoorK12
import Derived.Test.YtnbikkcalcpedaaGreatDoorK04
import Derived.Deep.RegionLaw
import Derived.Deep.CutRange
import Derived.Deep.QuietTactic
import Derived.BigQuiet
import Derived.StillTailTactics
namespace Go.Proofs.YtnbikkcalcpedaaGreatDoor
open Go.RowKit Go.Shelf
structure GrowS (n : Nat) (E : List (Nat × Nat)) (Ar : Option Addr) (cr l bN bY bE bG base : Nat) (A : Option Addr) (c : Nat) (t : List Nat) (C : Nat → Prop) (W : World) : Prop where
 w : GrowW W n E Ar cr l bN bY bE bG base
 own : OwnI W base A c (nI t)
 cl : ∀ k, C k → k < W.heap.size ∧ ¬ Fix5 bN bY bE bG Ar k ∧ ¬ blockOf A k
 fx : ∀ k, blockOf A k → ¬ Fix5 bN bY bE bG Ar k
 fl : ∀ k, Fix5 bN bY bE bG Ar k → k < W.heap.size
section
variable {n : Nat} {E : List (Nat × Nat)} {Ar : Option Addr} {cr l bN bY bE bG base : Nat} {A A6 : Option Addr} {c c6 : Nat} {t : List Nat} {C C0 C2 D : Nat → Prop} {W W' W1 w5 w6 w7 : World} {k : Nat} {o : Obj}
theorem GrowS.only (h : GrowS n E Ar cr l bN bY bE bG base A c t C W) (ho : Only D W W') (h1 : ∀ k, Fix5 bN bY bE bG Ar k → ¬ D k) (h2 : ∀ k, blockOf A k → ¬ D k) : GrowS n E Ar cr l bN bY bE bG base A c t C W' :=
 ⟨h.w.only ho h1, h.own.only ho h2, fun k hk => ⟨Nat.lt_of_lt_of_le (h.cl k hk).1 ho.size, (h.cl k hk).2⟩, h.fx, fun k hk => Nat.lt_of_lt_of_le (h.fl k hk) ho.size⟩
theorem GrowS.lt (h : GrowS n E Ar cr l bN bY bE bG base A c t C W) {i : Nat} (hi : blockOf A i) : base ≤ i ∧ i < W.heap.size := World.ownsRow.lt h.own i (blockOf_own.2 hi)
def Fork (A A6 : Option Addr) (c c6 : Nat) (w w6 : World) : Prop := (A6 = A ∧ c6 = c) ∨ ((∀ i, blockOf A6 i → i = w.heap.size) ∧ Below w.heap.size w w6)
theorem fork_only (_h : GrowS n E Ar cr l bN bY bE bG base A c t C w5) (g6 : (w5.alloc o).grownBy w6 (Value.slice A t.length c).ownBlock) : Only (fun i => blockOf A i) w5 w6 :=
 ((Only.refl _ w5).alloc o).grown g6 fun _ hi => .inl (blockOf_own.1 hi)
theorem fork_block (h : GrowS n E Ar cr l bN bY bE bG base A c t C w5) (fk : Fork A A6 c c6 (w5.alloc o) w6) {i : Nat} (hi : blockOf A6 i) : blockOf A i ∨ w5.heap.size ≤ i := by
 rcases fk with ⟨rfl, rfl⟩ | ⟨h1, _⟩
 ·exact .inl hi
 ·right; have := h1 i hi; simp at this; omega
theorem fork_all (h : GrowS n E Ar cr l bN bY bE bG base A c t C w5) (g6 : (w5.alloc o).grownBy w6 (Value.slice A t.length c).ownBlock) (fk : Fork A A6 c c6 (w5.alloc o) w6)
  (o7 : Only (fun i => C i ∨ blockOf A6 i) w6 w7) : Only (fun i => C i ∨ blockOf A i) w5 w7 := by
 refine ((fork_only h g6).mono fun _ _ h => .inr h).tail o7 fun i hi hd => ?_
 rcases hd with hd | hd
 ·exact .inl hd
 ·rcases fork_block h fk hd with hb | hb
  ·exact .inr hb
  ·omega
theorem GrowS.back (h : GrowS n E Ar cr l bN bY bE bG base A c t C w5) (own6 : OwnI w6 base A6 c6 (nI t ++ [(k : Int)])) (g6 : (w5.alloc o).grownBy w6 (Value.slice A t.length c).ownBlock) (fk : Fork A A6 c c6 (w5.alloc o) w6)
  (o7 : Only (fun i => C i ∨ blockOf A6 i) w6 w7) (g7 : Grows C (fun _ => False) C2 w6 w7) (own7 : OwnI w7 base A6 c6 (nI (t ++ [k]))) : GrowS n E Ar cr l bN bY bE bG base A c t C2 w7 := by
 have ho := fork_only h g6
 have ha := fork_all h g6 fk o7
 refine ⟨h.w.only ha fun i hi hd => ?_, ?_, fun i hi => ?_, h.fx, fun i hi => Nat.lt_of_lt_of_le (h.fl i hi) ha.size⟩
 ·rcases hd with hd | hd
  ·exact (h.cl i hd).2.1 hi
  ·exact h.fx i hd hi
 ·rcases fk with ⟨rfl, rfl⟩ | ⟨h1, h2⟩
  ·have hn : nI (t ++ [k]) = nI t ++ [(k : Int)] := by simp [nI]
   rcases own7.2 with ⟨hv, h0⟩ | ⟨g, cap, cur, hv, _⟩
   ·rw [hn, List.length_append] at h0; simp at h0
   ·injection hv with e1 _ _
    subst e1
    have := own7.cut (nI t).length (by rw [hn]; simp)
    rw [hn, List.take_left] at this
    exact this
  ·have h5 : OwnI w6 base A c (nI t) := by
    refine own_kept (h.own.alloc o) fun i hi => h2.block i ?_
    have := (World.ownsRow.lt h.own i (blockOf_own.2 hi)).2
    simp; omega
   refine h5.only o7 fun i hi hd => ?_
   rcases hd with hd | hd
   ·exact (h.cl i hd).2.2 hi
   ·have e := h1 i hd
    have := (World.ownsRow.lt h.own i (blockOf_own.2 hi)).2
    simp at e; omega
 ·rcases g7 i hi with hc | hc | hc
  ·exact ⟨Nat.lt_of_lt_of_le (h.cl i hc).1 ha.size, (h.cl i hc).2⟩
  ·exact hc.elim
  ·have hs := ho.size
   refine ⟨hc.2, fun hf => ?_, fun hb => ?_⟩
   ·have := h.fl i hf; omega
   ·have := (World.ownsRow.lt h.own i (blockOf_own.2 hb)).2; omega
end
end Go.Proofs.YtnbikkcalcpedaaGreatDoor
