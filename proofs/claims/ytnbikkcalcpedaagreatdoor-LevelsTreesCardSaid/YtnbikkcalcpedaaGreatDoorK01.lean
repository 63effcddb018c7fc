/-
 Texts of this claim, put together: Words, GraphP.
-/
import Derived.Below
import Derived.Laws.OwnMore
import Derived.Deep.AppendLies
import Derived.Deep.Draws
import Derived.Lib.Hide
import Derived.WalkKit
import Derived.WalkSpells
namespace Go.Proofs.YtnbikkcalcpedaaGreatDoor
open Go.RowKit
def Reads (w : World) (B size : Nat) (A : Option Addr) (n : Nat) (xs : List Value) : Prop :=
 xs.length = n * size ∧ (0 < n → ∃ b off, A = some ⟨b, off, none⟩ ∧ b < B ∧ ∀ j u, xs[j]? = some u → w.cell? ⟨b, off + j, none⟩ = some u)
section
variable {w w' : World} {B B' size n : Nat} {A : Option Addr} {xs : List Value}
theorem Reads.nil_ : Reads w B size A 0 [] := ⟨by simp, fun h => absurd h (by omega)⟩
theorem Reads.at_ {k : Nat} {u : Value} (h : Reads w B 1 A n xs) (hu : xs[k]? = some u) :
  ∃ b off, A = some ⟨b, off, none⟩ ∧ b < B ∧ w.cell? ⟨b, off + k, none⟩ = some u := by
 have hk : k < xs.length := by
  rcases Nat.lt_or_ge k xs.length with hk | hk
  ·exact hk
  ·rw [List.getElem?_eq_none hk] at hu; cases hu
 have := h.1
 obtain ⟨b, off, e, hb, hc⟩ := h.2 (by omega)
 exact ⟨b, off, e, hb, hc k u hu⟩
theorem Reads.keep (h : Reads w B size A n xs) (hk : ∀ p : Addr, p.block < B → w'.cell? p = w.cell? p) : Reads w' B size A n xs :=
 ⟨h.1, fun hn => by
  obtain ⟨b, off, e, hb, hc⟩ := h.2 hn
  exact ⟨b, off, e, hb, fun j u hu => (hk _ hb).trans (hc j u hu)⟩⟩
theorem Reads.more (h : Reads w B size A n xs) (hB : B ≤ B') : Reads w B' size A n xs :=
 ⟨h.1, fun hn => by
  obtain ⟨b, off, e, hb, hc⟩ := h.2 hn
  exact ⟨b, off, e, by omega, hc⟩⟩
theorem Reads.below (h : Reads w B size A n xs) (hb : Below B w w') : Reads w' B size A n xs := h.keep fun _ hp => hb.cell hp
theorem Reads.next (h : Reads w w.heap.size size A n xs) (hb : Below w.heap.size w w') : Reads w' w'.heap.size size A n xs := (h.below hb).more hb.size
theorem Reads.drew (h : Reads w B size A n xs) : Reads w.drew B size A n xs := h
theorem Reads.drewN (h : Reads w B size A n xs) (k : Nat) : Reads (w.drewN k) B size A n xs := h
theorem Reads.alloc (h : Reads w B size A n xs) (hB : B ≤ w.heap.size) (o : Obj) : Reads (w.alloc o) B size A n xs := h.keep fun p hp => World.cell?_alloc_lt w o p (by omega)
theorem Reads.setCell (h : Reads w B size A n xs) {p : Addr} (hB : B ≤ p.block) (u : Value) : Reads (w.setCell p u) B size A n xs :=
 h.keep fun q hq => World.cell?_setCell_other w p q u (fun e => by subst e; omega)
theorem Reads.grown (h : Reads w B size A n xs) {row : Option Nat} (hg : w.grownBy w' row) (hB : B ≤ w.heap.size) (hr : ∀ g, row = some g → B ≤ g) : Reads w' B size A n xs :=
 h.keep fun p hp => World.cell?_of_block (hg.block p.block (by omega) (fun e => by have := hr _ e.symm; omega))
theorem Reads.of_own {base : Nat} {e : TypeId} {c : Nat} (h : w.ownsRow base e size (.slice A n c) n xs) : Reads w w.heap.size size A n xs := by
 refine ⟨h.1, fun hn => ?_⟩
 obtain ⟨g, cap, hv, _, hlt⟩ := h.form hn
 have hA : A = some ⟨g, 0, none⟩ := by injection hv
 subst hA
 exact ⟨g, 0, rfl, hlt, fun j u hu => by
  have := h.cells (g := g) rfl j u hu
  by_cases hj : j = 0
  ·subst hj; simpa [Addr.add] using this
  ·simpa [Addr.add, hj] using this⟩
end
def Blk (w : World) (g : Nat) (t : TypeId) (cs : Array Value) : Prop := w.heap[g]? = some (.cells cs t (0, 0))
section
variable {w w' : World} {g : Nat} {t : TypeId} {cs : Array Value}
theorem Blk.lt (h : Blk w g t cs) : g < w.heap.size := by
 rcases Nat.lt_or_ge g w.heap.size with hlt | hge
 ·exact hlt
 ·unfold Blk at h; rw [Array.getElem?_eq_none hge] at h; cases h
theorem Blk.cell (h : Blk w g t cs) (i : Nat) : w.cell? ⟨g, i, none⟩ = cs[i]? := cell_of_row w g i cs t (0, 0) h
theorem Blk.frozen (h : Blk w g t cs) (i : Nat) : w.frozen? ⟨g, i, none⟩ = false := by
 unfold Blk at h
 simp [World.frozen?, h]
theorem Blk.new (w : World) (t : TypeId) (cs : Array Value) : Blk (w.alloc (.cells cs t)) w.heap.size t cs := heap_alloc_new w _
theorem Blk.drew (h : Blk w g t cs) : Blk w.drew g t cs := h
theorem Blk.drewN (h : Blk w g t cs) (n : Nat) : Blk (w.drewN n) g t cs := h
theorem Blk.alloc (h : Blk w g t cs) (o : Obj) : Blk (w.alloc o) g t cs := (Below.heap_alloc w o g h.lt).trans h
theorem Blk.set_ (h : Blk w g t cs) (i : Nat) (u : Value) : Blk (w.setCell ⟨g, i, none⟩ u) g t (cs.setIfInBounds i u) := by
 unfold Blk at h ⊢
 simp [World.setCell, Array.getElem?_modify, h]
theorem Blk.far (h : Blk w g t cs) {p : Addr} (hp : g ≠ p.block) (u : Value) : Blk (w.setCell p u) g t cs := (Below.heap_setCell w p u g hp).trans h
theorem Blk.below {B : Nat} (h : Blk w g t cs) (hb : Below B w w') (hg : g < B) : Blk w' g t cs := (hb.block g hg).trans h
theorem Blk.next (h : Blk w g t cs) (hb : Below w.heap.size w w') : Blk w' g t cs := h.below hb h.lt
theorem Blk.grown {row : Option Nat} (h : Blk w g t cs) (hb : w.grownBy w' row) (hg : some g ≠ row) : Blk w' g t cs := (hb.block g h.lt hg).trans h
theorem Blk.ne_ {g' : Nat} {t' : TypeId} {cs' : Array Value} (h : Blk w g t cs) (h' : Blk w g' t' cs') (hne : t ≠ t') : g ≠ g' := by
 rintro rfl
 unfold Blk at h h'
 rw [h] at h'
 injection h' with h'
 injection h' with _ ht
 exact hne ht
theorem own_blk_ne {base : Nat} {e : TypeId} {size n : Nat} {v : Value} {xs : List Value} (h : w.ownsRow base e size v n xs) (hg : Blk w g t cs) (hne : e ≠ t) : some g ≠ v.ownBlock := by
 rcases h.2 with ⟨rfl, _⟩ | ⟨g', cap, cur, rfl, _, hh, _⟩
 ·simp [Value.ownBlock]
 ·intro he
  have : g' = g := by simpa [Value.ownBlock] using he.symm
  subst this
  exact Blk.ne_ (t := e) hh hg hne rfl
end
def bools (s : List Bool) : Array Value := (s.map Value.bool).toArray
theorem bools_get {s : List Bool} {k : Nat} {b : Bool} (h : s[k]? = some b) : (bools s)[k]? = some (.bool b) := by simp [bools, h]
theorem bools_set (s : List Bool) (k : Nat) (b : Bool) : (bools s).setIfInBounds k (.bool b) = bools (s.set k b) := by simp [bools, List.map_set]
def ints (xs : List Int) : List Value := xs.map (Value.int .i64)
theorem ints_at {xs : List Int} {k : Nat} {x : Int} (h : xs[k]? = some x) : (ints xs)[k]? = some (.int .i64 x) := by simp [ints, h]
theorem ints_one {xs : List Int} : ∀ u ∈ ints xs, u.oneCell' = true := by
 intro u hu
 obtain ⟨x, _, rfl⟩ := List.mem_map.1 hu
 rfl
theorem ints_length (xs : List Int) : (ints xs).length = xs.length := by simp [ints]
theorem ints_snoc (xs : List Int) (x : Int) : ints (xs ++ [x]) = ints xs ++ [.int .i64 x] := by simp [ints]
theorem get_of_lt {α : Type} {xs : List α} {k : Nat} (h : k < xs.length) : ∃ x, xs[k]? = some x := ⟨_, List.getElem?_eq_getElem h⟩
theorem ret_bool {a b : Bool} (h : a = b) : Ending.returned (.bool a) = .returned (.bool b) := by rw [h]
theorem ret_int {k : IntKind} {a b : Int} (h : a = b) : Ending.returned (.int k a) = .returned (.int k b) := by rw [h]
theorem below_drewN {B : Nat} {a w : World} (h : Below B a w) (n : Nat) : Below B a (w.drewN n) := ⟨h.os, h.tape, h.output, h.size, h.block⟩
theorem take_snoc {α : Type} {xs : List α} {k : Nat} {x : α} (h : xs[k]? = some x) : xs.take (k + 1) = xs.take k ++ [x] := by
 rw [List.take_add_one]; simp [h]
end Go.Proofs.YtnbikkcalcpedaaGreatDoor
namespace Go.Proofs.YtnbikkcalcpedaaGreatDoor
def edgeErr (n : Int) (p : Option (Int × Int × Int)) (e : Int × Int × Int) : Int :=
 if ¬ (0 ≤ e.1 ∧ e.1 < n ∧ 0 ≤ e.2.1 ∧ e.2.1 < n ∧ 1 ≤ e.2.2 ∧ e.2.2 ≤ 50) then 2
 else if e.2.1 < e.1 then 9
 else match p with
  | none => 0
  | some y => if e.1 < y.1 ∨ (e.1 = y.1 ∧ e.2.1 ≤ y.2.1) then 9 else 0
def edgesErr (n : Int) : Option (Int × Int × Int) → List (Int × Int × Int) → Int
 | _, [] => 0
 | p, e :: es => if edgeErr n p e = 0 then edgesErr n (some e) es else edgeErr n p e
def checkG (n : Int) (es : List (Int × Int × Int)) : Int := if n < 1 ∨ 12 < n then 2 else edgesErr n none es
def okE (n : Int) (e : Int × Int × Int) : Prop := 0 ≤ e.1 ∧ e.1 ≤ e.2.1 ∧ e.2.1 < n ∧ 1 ≤ e.2.2 ∧ e.2.2 ≤ 50
def ltE (x y : Int × Int × Int) : Prop := x.1 < y.1 ∨ (x.1 = y.1 ∧ x.2.1 < y.2.1)
structure RightG (n : Int) (es : List (Int × Int × Int)) : Prop where
 lo : 1 ≤ n
 hi : n ≤ 12
 ok : ∀ e ∈ es, okE n e
 sorted : es.Pairwise ltE
theorem edgeErr_zero {n : Int} {p : Option (Int × Int × Int)} {e : Int × Int × Int} (h : edgeErr n p e = 0) : okE n e ∧ ∀ y, p = some y → ltE y e := by
 unfold edgeErr at h
 split at h
 ·omega
 ·rename_i h1
  split at h
  ·omega
  ·rename_i h2
   refine ⟨⟨by omega, by omega, by omega, by omega, by omega⟩, ?_⟩
   rintro y rfl
   simp only at h
   split at h
   ·omega
   ·unfold ltE; omega
theorem edgesErr_zero {n : Int} : ∀ {es : List (Int × Int × Int)} {p : Option (Int × Int × Int)}, edgesErr n p es = 0 → (∀ e ∈ es, okE n e) ∧ es.Pairwise ltE ∧ ∀ y, p = some y → ∀ e ∈ es, ltE y e
 | [], p, _ => ⟨by simp, .nil, by simp⟩
 | e :: es, p, h => by
   unfold edgesErr at h
   split at h
   ·rename_i h0
    obtain ⟨i1, i2, i3⟩ := edgesErr_zero h
    obtain ⟨k1, k2⟩ := edgeErr_zero h0
    refine ⟨?_, ?_, ?_⟩
    ·intro x hx
     rcases List.mem_cons.1 hx with rfl | hx
     ·exact k1
     ·exact i1 x hx
    ·exact List.pairwise_cons.2 ⟨i3 e rfl, i2⟩
    ·intro y hy x hx
     have := k2 y hy
     rcases List.mem_cons.1 hx with rfl | hx
     ·exact this
     ·have h2 := i3 e rfl x hx
      unfold ltE at *; omega
   ·omega
theorem right_of {n : Int} {es : List (Int × Int × Int)} (h : checkG n es = 0) : RightG n es := by
 unfold checkG at h
 split at h
 ·omega
 ·obtain ⟨h1, h2, _⟩ := edgesErr_zero h
  exact ⟨by omega, by omega, h1, h2⟩
def prevOf (es : List (Int × Int × Int)) (k : Nat) : Option (Int × Int × Int) := if k = 0 then none else es[k - 1]?
theorem prevOf_succ (es : List (Int × Int × Int)) (k : Nat) : prevOf es (k + 1) = es[k]? := by simp [prevOf]
theorem edgesErr_drop {n : Int} {es : List (Int × Int × Int)} {k : Nat} {e : Int × Int × Int} (h : es[k]? = some e) :
  edgesErr n (prevOf es k) (es.drop k) = if edgeErr n (prevOf es k) e = 0 then edgesErr n (prevOf es (k + 1)) (es.drop (k + 1)) else edgeErr n (prevOf es k) e := by
 obtain ⟨l1, e1⟩ := List.getElem?_eq_some_iff.1 h
 rw [List.drop_eq_getElem_cons l1, e1, edgesErr, prevOf_succ, h]
def btw : List (Int × Int × Int) → Int → Int → Int
 | [], _, _ => 0
 | e :: es, a, b => if e.1 = min a b ∧ e.2.1 = max a b then e.2.2 else btw es a b
theorem btw_cons (e : Int × Int × Int) (es : List (Int × Int × Int)) (a b : Int) : btw (e :: es) a b = if e.1 = min a b ∧ e.2.1 = max a b then e.2.2 else btw es a b := rfl
theorem btw_nil (a b : Int) : btw [] a b = 0 := rfl
theorem btw_comm (es : List (Int × Int × Int)) (a b : Int) : btw es a b = btw es b a := by
 induction es with
 | nil => rfl
 | cons e es ih => unfold btw; rw [ih, Int.min_comm, Int.max_comm]
theorem btw_bd {n : Int} {es : List (Int × Int × Int)} (h : ∀ e ∈ es, okE n e) (a b : Int) : 0 ≤ btw es a b ∧ btw es a b ≤ 50 := by
 induction es with
 | nil => rw [btw_nil]; omega
 | cons e es ih =>
   unfold btw
   split
   ·have := h e (by simp); unfold okE at this; omega
   ·exact ih fun x hx => h x (by simp [hx])
theorem btw_drop {es : List (Int × Int × Int)} {k : Nat} {e : Int × Int × Int} (h : es[k]? = some e) (a b : Int) :
  btw (es.drop k) a b = if e.1 = min a b ∧ e.2.1 = max a b then e.2.2 else btw (es.drop (k + 1)) a b := by
 obtain ⟨l1, e1⟩ := List.getElem?_eq_some_iff.1 h
 rw [List.drop_eq_getElem_cons l1, e1, btw]
theorem btw_none {es : List (Int × Int × Int)} {a b : Int} (h : ∀ e ∈ es, ¬ (e.1 = min a b ∧ e.2.1 = max a b)) : btw es a b = 0 := by
 induction es with
 | nil => rfl
 | cons e es ih => unfold btw; rw [if_neg (h e (by simp)), ih fun x hx => h x (by simp [hx])]
theorem btw_append {es fs : List (Int × Int × Int)} (h : (es ++ fs).Pairwise ltE) (hm : ∀ e ∈ es, 0 < e.2.2) (a b : Int) : btw (es ++ fs) a b = btw es a b + btw fs a b := by
 induction es with
 | nil => simp [btw]
 | cons e es ih =>
   rw [List.cons_append] at h ⊢
   obtain ⟨h1, h2⟩ := List.pairwise_cons.1 h
   have ih := ih h2 fun x hx => hm x (by simp [hx])
   rw [btw_cons, btw_cons]
   split
   ·rename_i he
    rw [btw_none (es := fs) fun x hx hc => ?_, Int.add_zero]
    have := h1 x (by simp [hx])
    unfold ltE at this; omega
   ·exact ih
theorem btw_mem {es : List (Int × Int × Int)} (h : es.Pairwise ltE) {e : Int × Int × Int} (he : e ∈ es) (ho : e.1 ≤ e.2.1) : btw es e.1 e.2.1 = e.2.2 := by
 induction es with
 | nil => simp at he
 | cons x es ih =>
   obtain ⟨h1, h2⟩ := List.pairwise_cons.1 h
   unfold btw
   rcases List.mem_cons.1 he with rfl | he
   ·rw [if_pos ⟨by omega, by omega⟩]
   ·rw [if_neg, ih h2 he]
    have := h1 e he
    unfold ltE at this; omega
theorem btw_pos {es : List (Int × Int × Int)} {a b : Int} (h : btw es a b ≠ 0) : ∃ e ∈ es, e.1 = min a b ∧ e.2.1 = max a b ∧ e.2.2 = btw es a b := by
 induction es with
 | nil => exact absurd rfl h
 | cons e es ih =>
   unfold btw at h ⊢
   split
   ·rename_i hc; exact ⟨e, by simp, hc.1, hc.2, rfl⟩
   ·rename_i hc
    rw [if_neg hc] at h
    obtain ⟨x, hx, h1, h2, h3⟩ := ih h
    exact ⟨x, by simp [hx], h1, h2, h3⟩
def tt (es : List (Int × Int × Int)) (a b : Nat) : Int := if a = b then 0 else btw es a b
theorem tt_comm (es : List (Int × Int × Int)) (a b : Nat) : tt es a b = tt es b a := by
 unfold tt; rw [btw_comm]; by_cases h : a = b
 ·subst h; rfl
 ·rw [if_neg h, if_neg (Ne.symm h)]
theorem tt_snoc {n : Int} {es : List (Int × Int × Int)} {e : Int × Int × Int} {a b : Nat} (h : (es ++ [e]).Pairwise ltE) (hok : ∀ x ∈ es ++ [e], okE n x) (h1 : e.1 = a) (h2 : e.2.1 = b) (u v : Nat) :
  tt (es ++ [e]) u v = if u ≠ v ∧ ((u = a ∧ v = b) ∨ (u = b ∧ v = a)) then e.2.2 else tt es u v := by
 have ho := hok e (by simp)
 unfold okE at ho
 have hm := btw_mem h (e := e) (by simp) ho.2.1
 have ha := btw_append h (fun x hx => by have := hok x (by simp [hx]); unfold okE at this; omega)
 unfold tt
 by_cases huv : u = v
 ·rw [if_pos huv, if_pos huv, if_neg (fun hc => hc.1 huv)]
 ·rw [if_neg huv, if_neg huv]
  by_cases hc : (u = a ∧ v = b) ∨ (u = b ∧ v = a)
  ·rw [if_pos ⟨huv, hc⟩]
   rw [h1, h2] at hm
   rcases hc with ⟨rfl, rfl⟩ | ⟨rfl, rfl⟩
   ·exact hm
   ·rw [btw_comm]; exact hm
  ·rw [if_neg (fun h => hc h.2), ha]
   have : btw [e] u v = 0 := by
    rw [btw_cons, if_neg (by omega)]; rfl
   omega
theorem tt_bd {n : Int} {es : List (Int × Int × Int)} (h : ∀ e ∈ es, okE n e) (a b : Nat) : 0 ≤ tt es a b ∧ tt es a b ≤ 50 := by
 unfold tt; split
 ·omega
 ·exact btw_bd h _ _
end Go.Proofs.YtnbikkcalcpedaaGreatDoor
namespace Go.Proofs.YtnbikkcalcpedaaGreatDoor
def adjE (es : List (Int × Int × Int)) (a b : Nat) : Prop := ∃ e ∈ es, (e.1 = a ∧ e.2.1 = b) ∨ (e.1 = b ∧ e.2.1 = a)
inductive Conn (es : List (Int × Int × Int)) (a : Nat) : Nat → Prop
 | refl : Conn es a a
 | step {b c : Nat} : Conn es a b → adjE es b c → Conn es a c
section
variable {es : List (Int × Int × Int)} {a b c : Nat}
theorem adjE.symm (h : adjE es a b) : adjE es b a := by
 obtain ⟨e, he, h⟩ := h
 exact ⟨e, he, h.symm⟩
theorem Conn.trans (h : Conn es a b) (h' : Conn es b c) : Conn es a c := by
 induction h' with
 | refl => exact h
 | step _ hs ih => exact ih.step hs
theorem Conn.symm (h : Conn es a b) : Conn es b a := by
 induction h with
 | refl => exact .refl
 | step _ hs ih => exact (Conn.refl.step hs.symm).trans ih
theorem Conn.mono {fs : List (Int × Int × Int)} (h : Conn es a b) (hs : ∀ e ∈ es, e ∈ fs) : Conn fs a b := by
 induction h with
 | refl => exact .refl
 | step _ he ih => obtain ⟨e, he, hc⟩ := he; exact ih.step ⟨e, hs e he, hc⟩
end
def AllConn (n : Nat) (es : List (Int × Int × Int)) : Prop := ∀ v, v < n → Conn es 0 v
def rootF (f : List Nat) : Nat → Nat → Nat
 | 0, v => v
 | k + 1, v => if f.getD v 0 = v then v else rootF f k (f.getD v 0)
def Forest (f : List Nat) : Prop := ∀ v, f.getD v 0 ≤ v
def rt (f : List Nat) (v : Nat) : Nat := rootF f v v
theorem rootF_fuel {f : List Nat} (h : Forest f) : ∀ (k : Nat) (v : Nat), v ≤ k → rootF f k v = rt f v
 | 0, v, hk => by obtain rfl : v = 0 := by omega
                  rfl
 | k + 1, v, hk => by
   unfold rt
   rcases v with _ | v
   ·have := h 0
    rw [show rootF f (k + 1) 0 = if f.getD 0 0 = 0 then 0 else rootF f k (f.getD 0 0) from rfl, if_pos (by omega)]; rfl
   ·rw [rootF, rootF]
    by_cases he : f.getD (v + 1) 0 = v + 1
    ·rw [if_pos he, if_pos he]
    ·have := h (v + 1)
     rw [if_neg he, if_neg he, rootF_fuel h k _ (by omega), rootF_fuel h v _ (by omega)]
termination_by k => k
theorem rt_eq {f : List Nat} (h : Forest f) (v : Nat) : rt f v = if f.getD v 0 = v then v else rt f (f.getD v 0) := by
 conv => lhs; unfold rt
 rcases v with _ | v
 ·have := h 0
  rw [if_pos (by omega)]; rfl
 ·rw [rootF]
  split
  ·rfl
  ·have := h (v + 1)
   rw [rootF_fuel h v _ (by omega)]
theorem rt_le {f : List Nat} (h : Forest f) (v : Nat) : rt f v ≤ v ∧ f.getD (rt f v) 0 = rt f v := by
 induction v using Nat.strongRecOn with
 | _ v ih =>
   rw [rt_eq h]
   split
   ·rename_i he; exact ⟨Nat.le_refl _, he⟩
   ·have := h v
    have := ih (f.getD v 0) (by omega)
    exact ⟨by omega, this.2⟩
theorem rt_root {f : List Nat} (h : Forest f) {v : Nat} (hv : f.getD v 0 = v) : rt f v = v := by rw [rt_eq h, if_pos hv]
def joinF (f : List Nat) (a b : Nat) : List Nat := f.set (max (rt f a) (rt f b)) (min (rt f a) (rt f b))
theorem getD_set (f : List Nat) (i v x : Nat) : (f.set i x).getD v 0 = if v = i ∧ i < f.length then x else f.getD v 0 := by
 simp only [List.getD_eq_getElem?_getD, List.getElem?_set]
 by_cases h : i = v
 ·subst h
  by_cases hl : i < f.length
  ·simp [hl]
  ·simp [hl]
 ·simp [h, Ne.symm h]
theorem join_forest {f : List Nat} (h : Forest f) (a b : Nat) : Forest (joinF f a b) := by
 intro v
 unfold joinF
 rw [getD_set]
 split
 ·omega
 ·exact h v
theorem rt_join {f : List Nat} (h : Forest f) (a b : Nat) (ha : a < f.length) (hb : b < f.length) (v : Nat) :
  rt (joinF f a b) v = if rt f v = max (rt f a) (rt f b) then min (rt f a) (rt f b) else rt f v := by
 have hJ := join_forest h a b
 have ra := rt_le h a
 have rb := rt_le h b
 induction v using Nat.strongRecOn with
 | _ v ih =>
   have hg : (joinF f a b).getD v 0 = if v = max (rt f a) (rt f b) ∧ max (rt f a) (rt f b) < f.length then min (rt f a) (rt f b) else f.getD v 0 := by unfold joinF; exact getD_set _ _ _ _
   have hml : max (rt f a) (rt f b) < f.length := by omega
   have hlow : f.getD (min (rt f a) (rt f b)) 0 = min (rt f a) (rt f b) := by
    rcases Nat.le_total (rt f a) (rt f b) with hle | hle
    ·rw [Nat.min_eq_left hle]; exact ra.2
    ·rw [Nat.min_eq_right hle]; exact rb.2
   have hhigh : f.getD (max (rt f a) (rt f b)) 0 = max (rt f a) (rt f b) := by
    rcases Nat.le_total (rt f a) (rt f b) with hle | hle
    ·rw [Nat.max_eq_right hle]; exact rb.2
    ·rw [Nat.max_eq_left hle]; exact ra.2
   by_cases hv : v = max (rt f a) (rt f b)
   ·rw [if_pos ⟨hv, hml⟩] at hg
    have hrv : rt f v = max (rt f a) (rt f b) := by rw [hv]; exact rt_root h hhigh
    rw [rt_eq hJ, hg, if_pos hrv]
    split
    ·omega
    ·rename_i hne
     rw [ih _ (by omega), rt_root h hlow]
     rw [if_neg (by omega)]
   ·rw [if_neg (fun hc => hv hc.1)] at hg
    rw [rt_eq hJ, hg]
    by_cases hf : f.getD v 0 = v
    ·rw [if_pos hf, rt_root h hf, if_neg hv]
    ·rw [if_neg hf, ih _ (by have := h v; omega)]
     rw [rt_eq h v, if_neg hf]
structure Joins (es : List (Int × Int × Int)) (f : List Nat) : Prop where
 len : f.length = 12
 forest : Forest f
 sound : ∀ v, v < 12 → Conn es v (rt f v)
 full : ∀ a b, a < 12 → b < 12 → adjE es a b → rt f a = rt f b
theorem joins_nil : Joins [] (List.range 12) := by
 have hg : ∀ v, v < 12 → (List.range 12).getD v 0 = v := fun v hv => by
  simp only [List.getD_eq_getElem?_getD]
  rw [List.getElem?_eq_getElem (by simpa using hv)]; simp
 have hf : Forest (List.range 12) := by
  intro v
  by_cases hv : v < 12
  ·rw [hg v hv]; exact Nat.le_refl _
  ·simp only [List.getD_eq_getElem?_getD]
   rw [List.getElem?_eq_none (by simp; omega)]; simp
 refine ⟨by simp, hf, ?_, ?_⟩
 ·intro v hv
  rw [rt_root hf (hg v hv)]; exact .refl
 ·rintro a b _ _ ⟨e, he, _⟩
  simp at he
theorem joins_snoc {es : List (Int × Int × Int)} {f : List Nat} (h : Joins es f) {e : Int × Int × Int} {a b : Nat} (ha : a < 12) (hb : b < 12) (h1 : e.1 = a) (h2 : e.2.1 = b) : Joins (es ++ [e]) (joinF f a b) := by
 have hl := h.len
 have hr := rt_join h.forest a b (by omega) (by omega)
 have hmo : ∀ {x y}, Conn es x y → Conn (es ++ [e]) x y := fun hc => hc.mono fun x hx => by simp [hx]
 have hab : Conn (es ++ [e]) a b := Conn.refl.step ⟨e, by simp, .inl ⟨h1, h2⟩⟩
 have hra := hmo (h.sound a ha)
 have hrb := hmo (h.sound b hb)
 refine ⟨by unfold joinF; simpa using hl, join_forest h.forest a b, ?_, ?_⟩
 ·intro v hv
  have hv' := hmo (h.sound v hv)
  rw [hr]
  split
  ·rename_i he
   rcases Nat.le_total (rt f a) (rt f b) with hle | hle
   ·rw [Nat.max_eq_right hle] at he
    rw [Nat.min_eq_left hle]
    rw [he] at hv'
    exact (hv'.trans hrb.symm).trans (hab.symm.trans hra)
   ·rw [Nat.max_eq_left hle] at he
    rw [Nat.min_eq_right hle]
    rw [he] at hv'
    exact (hv'.trans hra.symm).trans (hab.trans hrb)
  ·exact hv'
 ·rintro x y hx hy ⟨e', he', hc⟩
  rw [hr, hr]
  rcases List.mem_append.1 he' with he' | he'
  ·rw [h.full x y hx hy ⟨e', he', hc⟩]
  ·rw [List.mem_singleton] at he'
   subst he'
   have key : ∀ {x y : Nat}, x = a → y = b → (if rt f x = max (rt f a) (rt f b) then min (rt f a) (rt f b) else rt f x) = min (rt f a) (rt f b) ∧ (if rt f y = max (rt f a) (rt f b) then min (rt f a) (rt f b) else rt f y) = min (rt f a) (rt f b) := by
    rintro x y rfl rfl
    refine ⟨?_, ?_⟩ <;> split <;> omega
   rcases hc with ⟨c1, c2⟩ | ⟨c1, c2⟩
   ·obtain ⟨k1, k2⟩ := key (x := x) (y := y) (by omega) (by omega)
    rw [k1, k2]
   ·obtain ⟨k1, k2⟩ := key (x := y) (y := x) (by omega) (by omega)
    rw [k1, k2]
theorem Joins.conn {n : Int} {es : List (Int × Int × Int)} {f : List Nat} (h : Joins es f) (hG : RightG n es) {a b : Nat} (ha : a < 12) (hc : Conn es a b) : b < 12 ∧ rt f a = rt f b := by
 induction hc with
 | refl => exact ⟨ha, rfl⟩
 | step _ hs ih =>
   rename_i b c _
   obtain ⟨e, he, hc⟩ := hs
   have ho := hG.ok e he
   have := hG.hi
   unfold okE at ho
   have hlt : c < 12 := by rcases hc with hc | hc <;> omega
   exact ⟨hlt, ih.2.trans (h.full _ _ ih.1 hlt ⟨e, he, hc⟩)⟩
def rootsTo (f : List Nat) (k : Nat) : Nat := ((List.range k).filter fun v => rt f v = v).length
theorem rootsTo_succ (f : List Nat) (k : Nat) : rootsTo f (k + 1) = rootsTo f k + if rt f k = k then 1 else 0 := by
 unfold rootsTo
 rw [List.range_succ, List.filter_append, List.length_append]
 congr 1
 by_cases h : rt f k = k
 ·simp [h]
 ·simp [h]
theorem rootsTo_pos {f : List Nat} {k : Nat} (hk : 0 < k) : 1 ≤ rootsTo f k := by
 induction k with
 | zero => omega
 | succ k ih =>
   rw [rootsTo_succ]
   rcases k with _ | k
   ·have h0 : rt f 0 = 0 := rfl
    rw [if_pos h0]; omega
   ·have := ih (by omega); omega
theorem rootsTo_mono {f : List Nat} {a b : Nat} (h : a ≤ b) : rootsTo f a ≤ rootsTo f b := by
 induction h with
 | refl => exact Nat.le_refl _
 | step _ ih => rw [rootsTo_succ]; omega
theorem rootsTo_one {f : List Nat} (h : Forest f) {n : Nat} (hn : 0 < n) : rootsTo f n = 1 ↔ ∀ v, v < n → rt f v = 0 := by
 constructor
 ·intro h1 v hv
  have hr := rt_le h v
  by_cases h0 : rt f v = 0
  ·exact h0
  ·have h2 : rootsTo f (rt f v) + 1 ≤ rootsTo f n := by
    have h3 := rootsTo_succ f (rt f v)
    rw [if_pos (rt_root h hr.2)] at h3
    have := rootsTo_mono (f := f) (a := rt f v + 1) (b := n) (by omega)
    omega
   have := rootsTo_pos (f := f) (k := rt f v) (by omega)
   omega
 ·intro hall
  have : ∀ k, k < n → rootsTo f (k + 1) = 1 := by
   intro k
   induction k with
   | zero => intro _; rw [rootsTo_succ]; rfl
   | succ k ih =>
     intro hk
     rw [rootsTo_succ, ih (by omega), if_neg (by rw [hall _ hk]; omega)]
  obtain ⟨m, rfl⟩ : ∃ m, n = m + 1 := ⟨n - 1, by omega⟩
  exact this m (by omega)
theorem joins_connected {n : Nat} {es : List (Int × Int × Int)} {f : List Nat} (h : Joins es f) (hG : RightG n es) : rootsTo f n = 1 ↔ AllConn n es := by
 have hlo := hG.lo
 have hhi := hG.hi
 rw [rootsTo_one h.forest (by omega)]
 constructor
 ·intro hall v hv
  have := h.sound v (by omega)
  rw [hall v hv] at this
  exact this.symm
 ·intro hall v hv
  have := (h.conn hG (by omega) (hall v hv)).2
  rw [← this]; rfl
def getB (o : List Bool) (i : Nat) : Bool := o.getD i false
theorem getB_set (o : List Bool) (i v : Nat) (x : Bool) (hi : i < o.length) : getB (o.set i x) v = if v = i then x else getB o v := by
 simp only [getB, List.getD_eq_getElem?_getD, List.getElem?_set]
 by_cases h : i = v
 ·subst h; simp [hi]
 ·simp [h, Ne.symm h]
def stepB (es : List (Int × Int × Int)) (a : Nat) (o : List Bool) (b : Nat) : List Bool := if getB o a = true ∧ 0 < btw es a b then o.set b true else o
def reachB (es : List (Int × Int × Int)) (a : Nat) (o : List Bool) (k : Nat) : List Bool := (List.range k).foldl (stepB es a) o
def reachA (es : List (Int × Int × Int)) (n : Nat) (o : List Bool) (k : Nat) : List Bool := (List.range k).foldl (fun o a => reachB es a o n) o
def reachR (es : List (Int × Int × Int)) (n : Nat) (o : List Bool) (k : Nat) : List Bool := (List.range k).foldl (fun o _ => reachA es n o n) o
def reached (es : List (Int × Int × Int)) (n v : Nat) : List Bool := reachR es n ((List.replicate n false).set v true) n
section
variable (es : List (Int × Int × Int)) (n a : Nat) (o : List Bool) (k : Nat)
theorem reachB_succ : reachB es a o (k + 1) = stepB es a (reachB es a o k) k := by simp [reachB, List.range_succ]
theorem reachA_succ : reachA es n o (k + 1) = reachB es k (reachA es n o k) n := by simp [reachA, List.range_succ]
theorem reachR_succ : reachR es n o (k + 1) = reachA es n (reachR es n o k) n := by simp [reachR, List.range_succ]
theorem stepB_length (b : Nat) : (stepB es a o b).length = o.length := by unfold stepB; split <;> simp
theorem reachB_length : (reachB es a o k).length = o.length := by
 induction k with
 | zero => rfl
 | succ k ih => rw [reachB_succ, stepB_length, ih]
theorem reachA_length : (reachA es n o k).length = o.length := by
 induction k with
 | zero => rfl
 | succ k ih => rw [reachA_succ, reachB_length, ih]
theorem reachR_length : (reachR es n o k).length = o.length := by
 induction k with
 | zero => rfl
 | succ k ih => rw [reachR_succ, reachA_length, ih]
theorem reached_length (v : Nat) : (reached es n v).length = n := by unfold reached; rw [reachR_length]; simp
end
def LeB (o o' : List Bool) : Prop := o'.length = o.length ∧ ∀ i, getB o i = true → getB o' i = true
theorem LeB.refl (o : List Bool) : LeB o o := ⟨rfl, fun _ h => h⟩
theorem LeB.trans {a b c : List Bool} (h : LeB a b) (h' : LeB b c) : LeB a c := ⟨h'.1.trans h.1, fun i hi => h'.2 i (h.2 i hi)⟩
theorem getB_lt {o : List Bool} {i : Nat} (h : getB o i = true) : i < o.length := by
 rcases Nat.lt_or_ge i o.length with hi | hi
 ·exact hi
 ·simp only [getB, List.getD_eq_getElem?_getD, List.getElem?_eq_none hi] at h; cases h
theorem set_le (o : List Bool) (b : Nat) : LeB o (o.set b true) := by
 refine ⟨by simp, fun i hi => ?_⟩
 have hlt := getB_lt hi
 by_cases hb : b < o.length
 ·rw [getB_set _ _ _ _ hb]; split
  ·rfl
  ·exact hi
 ·rw [List.set_eq_of_length_le (by omega)]; exact hi
theorem stepB_le (es : List (Int × Int × Int)) (a : Nat) (o : List Bool) (b : Nat) : LeB o (stepB es a o b) := by
 unfold stepB; split
 ·exact set_le o b
 ·exact .refl o
theorem reachB_le (es : List (Int × Int × Int)) (a : Nat) (o : List Bool) {j k : Nat} (h : j ≤ k) : LeB (reachB es a o j) (reachB es a o k) := by
 induction h with
 | refl => exact .refl _
 | step _ ih => rw [reachB_succ]; exact ih.trans (stepB_le _ _ _ _)
theorem reachA_le (es : List (Int × Int × Int)) (n : Nat) (o : List Bool) {j k : Nat} (h : j ≤ k) : LeB (reachA es n o j) (reachA es n o k) := by
 induction h with
 | refl => exact .refl _
 | step _ ih => rw [reachA_succ]; exact ih.trans (reachB_le es _ _ (Nat.zero_le n))
theorem reachR_le (es : List (Int × Int × Int)) (n : Nat) (o : List Bool) {j k : Nat} (h : j ≤ k) : LeB (reachR es n o j) (reachR es n o k) := by
 induction h with
 | refl => exact .refl _
 | step _ ih => rw [reachR_succ]; exact ih.trans (reachA_le es _ _ (Nat.zero_le n))
def SoundB (es : List (Int × Int × Int)) (v : Nat) (o : List Bool) : Prop := ∀ i, getB o i = true → Conn es v i
theorem adj_btw {n : Int} {es : List (Int × Int × Int)} (hG : RightG n es) (a b : Nat) : 0 < btw es a b ↔ adjE es a b := by
 constructor
 ·intro h
  obtain ⟨e, he, h1, h2, _⟩ := btw_pos (es := es) (a := a) (b := b) (by omega)
  refine ⟨e, he, ?_⟩
  omega
 ·rintro ⟨e, he, hc⟩
  have ho := hG.ok e he
  unfold okE at ho
  have hm := btw_mem hG.sorted he ho.2.1
  rcases hc with ⟨c1, c2⟩ | ⟨c1, c2⟩
  ·rw [← c1, ← c2, hm]; omega
  ·rw [← c1, ← c2, btw_comm, hm]; omega
theorem stepB_sound {n : Int} {es : List (Int × Int × Int)} (hG : RightG n es) {v a : Nat} {o : List Bool} (b : Nat) (h : SoundB es v o) : SoundB es v (stepB es a o b) := by
 unfold stepB
 split
 ·rename_i hc
  intro i hi
  have hlt := getB_lt hi
  rw [List.length_set] at hlt
  by_cases hb : b < o.length
  ·rw [getB_set _ _ _ _ hb] at hi
   split at hi
   ·rename_i e; subst e; exact (h a hc.1).step ((adj_btw hG a i).1 hc.2)
   ·exact h i hi
  ·rw [List.set_eq_of_length_le (by omega)] at hi; exact h i hi
 ·exact h
theorem reachB_sound {n : Int} {es : List (Int × Int × Int)} (hG : RightG n es) {v a : Nat} {o : List Bool} (h : SoundB es v o) (k : Nat) : SoundB es v (reachB es a o k) := by
 induction k with
 | zero => exact h
 | succ k ih => rw [reachB_succ]; exact stepB_sound hG k ih
theorem reachA_sound {n : Int} {es : List (Int × Int × Int)} (hG : RightG n es) {v m : Nat} {o : List Bool} (h : SoundB es v o) (k : Nat) : SoundB es v (reachA es m o k) := by
 induction k with
 | zero => exact h
 | succ k ih => rw [reachA_succ]; exact reachB_sound hG ih m
theorem reachR_sound {n : Int} {es : List (Int × Int × Int)} (hG : RightG n es) {v m : Nat} {o : List Bool} (h : SoundB es v o) (k : Nat) : SoundB es v (reachR es m o k) := by
 induction k with
 | zero => exact h
 | succ k ih => rw [reachR_succ]; exact reachA_sound hG ih m
theorem reachA_next {es : List (Int × Int × Int)} {n a b : Nat} {o : List Bool} (hl : o.length = n) (ha : a < n) (hb : b < n) (h : getB o a = true) (he : 0 < btw es a b) : getB (reachA es n o n) b = true := by
 have h1 : getB (reachA es n o a) a = true := (reachA_le es n o (Nat.zero_le a)).2 a h
 have h2 : getB (reachB es a (reachA es n o a) b) a = true := (reachB_le es a _ (Nat.zero_le b)).2 a h1
 have h3 : getB (reachB es a (reachA es n o a) (b + 1)) b = true := by
  rw [reachB_succ, stepB, if_pos ⟨h2, he⟩, getB_set _ _ _ _ (by rw [reachB_length, reachA_length]; omega), if_pos rfl]
 have h4 : getB (reachB es a (reachA es n o a) n) b = true := (reachB_le es a _ (show b + 1 ≤ n by omega)).2 b h3
 rw [← reachA_succ] at h4
 exact (reachA_le es n o (show a + 1 ≤ n by omega)).2 b h4
def countB (o : List Bool) : Nat := (o.filter id).length
theorem countB_le (o : List Bool) : countB o ≤ o.length := List.length_filter_le _ _
theorem LeB.count : ∀ {o o' : List Bool}, LeB o o' → countB o ≤ countB o' ∧ (countB o = countB o' → o = o')
 | [], o', h => by
   have := h.1
   simp at this
   subst this
   simp
 | x :: o, [], h => by have := h.1; simp at this
 | x :: o, y :: o', h => by
   have h0 := h.2 0
   have ht : LeB o o' := ⟨by have := h.1; simpa using this, fun i hi => by have := h.2 (i + 1); simp [getB] at this hi ⊢; exact this hi⟩
   obtain ⟨k1, k2⟩ := ht.count
   have h0 : x = true → y = true := by simpa [getB] using h0
   have c : ∀ (z : Bool) (l : List Bool), countB (z :: l) = (if z then 1 else 0) + countB l := by
    intro z l; cases z <;> simp [countB]; omega
   rw [c, c]
   cases x <;> cases y
   ·simp only [Bool.false_eq_true, if_false]; exact ⟨by omega, fun h => by rw [k2 (by omega)]⟩
   ·simp only [Bool.false_eq_true, if_false, if_true]; exact ⟨by omega, fun h => by omega⟩
   ·cases h0 rfl
   ·simp only [if_true]; exact ⟨by omega, fun h => by rw [k2 (by omega)]⟩
theorem reached_full {es : List (Int × Int × Int)} {n v : Nat} (hv : v < n) : ∀ a b, a < n → b < n → getB (reached es n v) a = true → 0 < btw es a b → getB (reached es n v) b = true := by
 obtain ⟨o0, ho0⟩ : ∃ o0, (List.replicate n false).set v true = o0 := ⟨_, rfl⟩
 have hl0 : o0.length = n := by rw [← ho0]; simp
 have hlen : ∀ k, (reachR es n o0 k).length = n := fun k => by rw [reachR_length, hl0]
 have h0 : 1 ≤ countB o0 := by
  have h1 : getB o0 v = true := by rw [← ho0, getB_set _ _ _ _ (by simpa using hv), if_pos rfl]
  have hlt := getB_lt h1
  have hm : true ∈ o0.filter id := by
   rw [List.mem_filter]
   refine ⟨?_, rfl⟩
   simp only [getB, List.getD_eq_getElem?_getD, List.getElem?_eq_getElem hlt, Option.getD_some] at h1
   rw [← h1]; exact List.getElem_mem hlt
  exact List.length_pos_of_mem hm
 have hstep : ∀ k, (∃ j, j ≤ k ∧ reachR es n o0 (j + 1) = reachR es n o0 j) ∨ k + 2 ≤ countB (reachR es n o0 (k + 1)) := by
  intro k
  induction k with
  | zero =>
    have hle := (reachR_le es n o0 (Nat.zero_le (0 + 1))).count
    rcases Nat.lt_or_ge (countB (reachR es n o0 0)) (countB (reachR es n o0 (0 + 1))) with h | h
    ·refine .inr ?_
     have : countB (reachR es n o0 0) = countB o0 := rfl
     omega
    ·exact .inl ⟨0, Nat.le_refl _, (hle.2 (by omega)).symm⟩
  | succ k ih =>
    rcases ih with ⟨j, hj, e⟩ | h
    ·exact .inl ⟨j, by omega, e⟩
    ·have hle := (reachR_le es n o0 (show k + 1 ≤ k + 1 + 1 by omega)).count
     rcases Nat.lt_or_ge (countB (reachR es n o0 (k + 1))) (countB (reachR es n o0 (k + 1 + 1))) with h2 | h2
     ·exact .inr (by omega)
     ·exact .inl ⟨k + 1, Nat.le_refl _, (hle.2 (by have := hle.1; omega)).symm⟩
 obtain ⟨j, hj, e⟩ : ∃ j, j + 1 ≤ n ∧ reachR es n o0 (j + 1) = reachR es n o0 j := by
  rcases hstep (n - 1) with ⟨j, hj, e⟩ | h
  ·exact ⟨j, by omega, e⟩
  ·have := countB_le (reachR es n o0 (n - 1 + 1))
   rw [hlen] at this
   omega
 have hstay : ∀ k, reachR es n o0 (j + k) = reachR es n o0 j := by
  intro k
  induction k with
  | zero => rfl
  | succ k ih => rw [← Nat.add_assoc, reachR_succ, ih, ← reachR_succ, e]
 have hfin : reached es n v = reachR es n o0 j := by
  unfold reached
  rw [ho0, show n = j + (n - j) from by omega]
  rw [← show n = j + (n - j) from by omega]
  exact hstay (n - j) ▸ (by rw [show j + (n - j) = n from by omega])
 intro a b ha hb h1 h2
 rw [hfin] at h1 ⊢
 rw [← e, reachR_succ]
 exact reachA_next (hlen j) ha hb h1 h2
theorem reached_iff {n v : Nat} {es : List (Int × Int × Int)} (hG : RightG n es) (hv : v < n) (u : Nat) : getB (reached es n v) u = true ↔ Conn es v u := by
 have h0 : getB ((List.replicate n false).set v true) v = true := by rw [getB_set _ _ _ _ (by simpa using hv), if_pos rfl]
 constructor
 ·refine reachR_sound hG ?_ n u
  intro i hi
  rw [getB_set _ _ _ _ (by simpa using hv)] at hi
  split at hi
  ·rename_i e; subst e; exact .refl
  ·simp [getB, List.getD_eq_getElem?_getD, List.getElem?_replicate] at hi
   split at hi <;> cases hi
 ·intro hc
  have : u < n ∧ getB (reached es n v) u = true := by
   induction hc with
   | refl => exact ⟨hv, (reachR_le es n _ (Nat.zero_le n)).2 v h0⟩
   | step _ hs ih =>
     rename_i b c _
     have hcn : c < n := by
      obtain ⟨e, he, hc⟩ := hs
      have := hG.ok e he
      unfold okE at this
      omega
     exact ⟨hcn, reached_full hv b c ih.1 hcn ih.2 ((adj_btw hG b c).2 hs)⟩
  exact this.2
def orTo (s r : List Bool) (k : Nat) : List Bool := (List.range k).foldl (fun s u => s.set u (getB s u || getB r u)) s
def partsTo (es : List (Int × Int × Int)) (n k : Nat) : Nat × List Bool := (List.range k).foldl (fun p v => if getB p.2 v then p else (p.1 + 1, orTo p.2 (reached es n v) n)) (0, List.replicate n false)
theorem orTo_succ (s r : List Bool) (k : Nat) : orTo s r (k + 1) = (orTo s r k).set k (getB (orTo s r k) k || getB r k) := by simp [orTo, List.range_succ]
theorem orTo_length (s r : List Bool) (k : Nat) : (orTo s r k).length = s.length := by
 induction k with
 | zero => rfl
 | succ k ih => rw [orTo_succ, List.length_set, ih]
theorem orTo_get (s r : List Bool) (k : Nat) (hk : k ≤ s.length) (u : Nat) : getB (orTo s r k) u = if u < k then (getB s u || getB r u) else getB s u := by
 induction k with
 | zero => rw [if_neg (by omega)]; rfl
 | succ k ih =>
   have ih := ih (by omega)
   rw [orTo_succ, getB_set _ _ _ _ (by rw [orTo_length]; omega)]
   by_cases h : u = k
   ·subst h
    rw [if_pos rfl, if_pos (by omega), ih, if_neg (by omega)]
   ·rw [if_neg h, ih]
    by_cases h2 : u < k
    ·rw [if_pos h2, if_pos (by omega)]
    ·rw [if_neg h2, if_neg (by omega)]
theorem partsTo_succ (es : List (Int × Int × Int)) (n k : Nat) : partsTo es n (k + 1) = if getB (partsTo es n k).2 k then partsTo es n k else ((partsTo es n k).1 + 1, orTo (partsTo es n k).2 (reached es n k) n) := by
 unfold partsTo
 rw [List.range_succ, List.foldl_append]
 rfl
theorem partsTo_length (es : List (Int × Int × Int)) (n k : Nat) : (partsTo es n k).2.length = n := by
 induction k with
 | zero => simp [partsTo]
 | succ k ih => rw [partsTo_succ]; split
                ·exact ih
                ·rw [orTo_length, ih]
theorem partsTo_connected {n : Nat} {es : List (Int × Int × Int)} (hG : RightG n es) : (partsTo es n n).1 = 1 ↔ AllConn n es := by
 have hlo := hG.lo
 have hn : 0 < n := by omega
 have h1 : partsTo es n 1 = (1, orTo (List.replicate n false) (reached es n 0) n) := by
  rw [partsTo_succ, if_neg]
  ·simp [partsTo]
  ·simp [partsTo, getB, List.getD_eq_getElem?_getD, List.getElem?_replicate]; split <;> simp
 have hget : ∀ u, u < n → (getB (partsTo es n 1).2 u = true ↔ Conn es 0 u) := fun u hu => by
  rw [h1]
  show getB (orTo _ _ _) u = true ↔ _
  rw [orTo_get _ _ _ (by simp), if_pos hu, ← reached_iff hG hn u]
  have : getB (List.replicate n false) u = false := by
   simp [getB, List.getD_eq_getElem?_getD, List.getElem?_replicate]; split <;> rfl
  rw [this, Bool.false_or]
 have hmono : ∀ k, (partsTo es n k).1 ≤ (partsTo es n (k + 1)).1 := fun k => by
  rw [partsTo_succ]
  split
  ·exact Nat.le_refl _
  ·exact Nat.le_succ _
 constructor
 ·intro h v hv
  -- no vertex behind the first one is new
  have hstay : ∀ k, 1 ≤ k → k ≤ n → partsTo es n k = partsTo es n 1 := by
   intro k hk
   induction hk with
   | refl => intro _; rfl
   | step hk ih =>
     rename_i m
     intro hmn
     have ih := ih (by omega)
     rw [partsTo_succ]
     split
     ·exact ih
     ·rename_i hc
      exfalso
      have h2 : (partsTo es n (m + 1)).1 = 2 := by rw [partsTo_succ, if_neg hc, ih, h1]
      have h3 : ∀ j, m + 1 ≤ j → 2 ≤ (partsTo es n j).1 := by
       intro j hj
       induction hj with
       | refl => omega
       | step _ ih => exact Nat.le_trans ih (hmono _)
      have := h3 n hmn
      omega
  refine (hget v hv).1 ?_
  rcases Nat.eq_zero_or_pos v with h0 | h0
  ·subst h0; exact (hget 0 hv).2 .refl
  ·have e1 := hstay v h0 (by omega)
   have e2 := hstay (v + 1) (by omega) (by omega)
   rw [partsTo_succ] at e2
   split at e2
   ·rename_i hc; rw [e1] at hc; exact hc
   ·have := congrArg Prod.fst e2
    rw [e1, h1] at this
    simp at this
 ·intro hall
  have hstay : ∀ k, 1 ≤ k → k ≤ n → partsTo es n k = partsTo es n 1 := by
   intro k hk
   induction hk with
   | refl => intro _; rfl
   | step hk ih =>
     rename_i m
     intro hmn
     have ih := ih (by omega)
     rw [partsTo_succ, if_pos (by rw [ih]; exact (hget m (by omega)).2 (hall m (by omega))), ih]
  rw [hstay n hn (Nat.le_refl _), h1]
end Go.Proofs.YtnbikkcalcpedaaGreatDoor
