/-
  Plain laws of graphs as lists of edges: the error of a graph, and how often two vertices are joined. No program is in sight.
-/
namespace Go.Proofs.Ytjeggocindcgaaa

/-- The error of an edge behind another one. -/
def edgeErr (n : Int) (p : Option (Int × Int × Int)) (e : Int × Int × Int) : Int :=
  if ¬ (0 ≤ e.1 ∧ e.1 < n ∧ 0 ≤ e.2.1 ∧ e.2.1 < n ∧ 1 ≤ e.2.2 ∧ e.2.2 ≤ 50) then 2
  else if e.2.1 < e.1 then 9
  else match p with
    | none => 0
    | some y => if e.1 < y.1 ∨ (e.1 = y.1 ∧ e.2.1 ≤ y.2.1) then 9 else 0
def edgesErr (n : Int) : Option (Int × Int × Int) → List (Int × Int × Int) → Int
  | _, [] => 0
  | p, e :: es => if edgeErr n p e = 0 then edgesErr n (some e) es else edgeErr n p e
/-- The error of a graph. -/
def checkG (n : Int) (es : List (Int × Int × Int)) : Int := if n < 1 ∨ 12 < n then 2 else edgesErr n none es

def okE (n : Int) (e : Int × Int × Int) : Prop := 0 ≤ e.1 ∧ e.1 ≤ e.2.1 ∧ e.2.1 < n ∧ 1 ≤ e.2.2 ∧ e.2.2 ≤ 50
def ltE (x y : Int × Int × Int) : Prop := x.1 < y.1 ∨ (x.1 = y.1 ∧ x.2.1 < y.2.1)
/-- A right graph. -/
structure RightG (n : Int) (es : List (Int × Int × Int)) : Prop where
  lo : 1 ≤ n
  hi : n ≤ 12
  ok : ∀ e ∈ es, okE n e
  sorted : es.Pairwise ltE

theorem edgeErr_zero {n : Int} {p : Option (Int × Int × Int)} {e : Int × Int × Int} (h : edgeErr n p e = 0) : okE n e ∧ ∀ y, p = some y → ltE y e := by
  unfold edgeErr at h
  split at h
  · omega
  · rename_i h1
    split at h
    · omega
    · rename_i h2
      refine ⟨⟨by omega, by omega, by omega, by omega, by omega⟩, ?_⟩
      rintro y rfl
      simp only at h
      split at h
      · omega
      · unfold ltE; omega
theorem edgesErr_zero {n : Int} : ∀ {es : List (Int × Int × Int)} {p : Option (Int × Int × Int)}, edgesErr n p es = 0 → (∀ e ∈ es, okE n e) ∧ es.Pairwise ltE ∧ ∀ y, p = some y → ∀ e ∈ es, ltE y e
  | [], p, _ => ⟨by simp, .nil, by simp⟩
  | e :: es, p, h => by
    unfold edgesErr at h
    split at h
    · rename_i h0
      obtain ⟨i1, i2, i3⟩ := edgesErr_zero h
      obtain ⟨k1, k2⟩ := edgeErr_zero h0
      refine ⟨?_, ?_, ?_⟩
      · intro x hx
        rcases List.mem_cons.1 hx with rfl | hx
        · exact k1
        · exact i1 x hx
      · exact List.pairwise_cons.2 ⟨i3 e rfl, i2⟩
      · intro y hy x hx
        have := k2 y hy
        rcases List.mem_cons.1 hx with rfl | hx
        · exact this
        · have h2 := i3 e rfl x hx
          unfold ltE at *; omega
    · omega
theorem right_of {n : Int} {es : List (Int × Int × Int)} (h : checkG n es = 0) : RightG n es := by
  unfold checkG at h
  split at h
  · omega
  · obtain ⟨h1, h2, _⟩ := edgesErr_zero h
    exact ⟨by omega, by omega, h1, h2⟩

/-- The edge before the one with the number k. -/
def prevOf (es : List (Int × Int × Int)) (k : Nat) : Option (Int × Int × Int) := if k = 0 then none else es[k - 1]?
theorem prevOf_succ (es : List (Int × Int × Int)) (k : Nat) : prevOf es (k + 1) = es[k]? := by simp [prevOf]
theorem edgesErr_drop {n : Int} {es : List (Int × Int × Int)} {k : Nat} {e : Int × Int × Int} (h : es[k]? = some e) :
    edgesErr n (prevOf es k) (es.drop k) = if edgeErr n (prevOf es k) e = 0 then edgesErr n (prevOf es (k + 1)) (es.drop (k + 1)) else edgeErr n (prevOf es k) e := by
  obtain ⟨l1, e1⟩ := List.getElem?_eq_some_iff.1 h
  rw [List.drop_eq_getElem_cons l1, e1, edgesErr, prevOf_succ, h]

/-- How often two vertices are joined. -/
def btw : List (Int × Int × Int) → Int → Int → Int
  | [], _, _ => 0
  | e :: es, a, b => if e.1 = min a b ∧ e.2.1 = max a b then e.2.2 else btw es a b
theorem btw_cons (e : Int × Int × Int) (es : List (Int × Int × Int)) (a b : Int) : btw (e :: es) a b = if e.1 = min a b ∧ e.2.1 = max a b then e.2.2 else btw es a b := rfl
theorem btw_nil (a b : Int) : btw [] a b = 0 := rfl
theorem btw_comm (es : List (Int × Int × Int)) (a b : Int) : btw es a b = btw es b a := by
  induction es with
  | nil => rfl
  | cons e es ih => unfold btw; rw [ih, Int.min_comm, Int.max_comm]
theorem btw_bd {n : Int} {es : List (Int × Int × Int)} (h : ∀ e ∈ es, okE n e) (a b : Int) : 0 ≤ btw es a b ∧ btw es a b ≤ 50 := by
  induction es with
  | nil => rw [btw_nil]; omega
  | cons e es ih =>
    unfold btw
    split
    · have := h e (by simp); unfold okE at this; omega
    · exact ih fun x hx => h x (by simp [hx])
theorem btw_drop {es : List (Int × Int × Int)} {k : Nat} {e : Int × Int × Int} (h : es[k]? = some e) (a b : Int) :
    btw (es.drop k) a b = if e.1 = min a b ∧ e.2.1 = max a b then e.2.2 else btw (es.drop (k + 1)) a b := by
  obtain ⟨l1, e1⟩ := List.getElem?_eq_some_iff.1 h
  rw [List.drop_eq_getElem_cons l1, e1, btw]
theorem btw_none {es : List (Int × Int × Int)} {a b : Int} (h : ∀ e ∈ es, ¬ (e.1 = min a b ∧ e.2.1 = max a b)) : btw es a b = 0 := by
  induction es with
  | nil => rfl
  | cons e es ih => unfold btw; rw [if_neg (h e (by simp)), ih fun x hx => h x (by simp [hx])]
theorem btw_append {es fs : List (Int × Int × Int)} (h : (es ++ fs).Pairwise ltE) (hm : ∀ e ∈ es, 0 < e.2.2) (a b : Int) : btw (es ++ fs) a b = btw es a b + btw fs a b := by
  induction es with
  | nil => simp [btw]
  | cons e es ih =>
    rw [List.cons_append] at h ⊢
    obtain ⟨h1, h2⟩ := List.pairwise_cons.1 h
    have ih := ih h2 fun x hx => hm x (by simp [hx])
    rw [btw_cons, btw_cons]
    split
    · rename_i he
      rw [btw_none (es := fs) fun x hx hc => ?_, Int.add_zero]
      have := h1 x (by simp [hx])
      unfold ltE at this; omega
    · exact ih
theorem btw_mem {es : List (Int × Int × Int)} (h : es.Pairwise ltE) {e : Int × Int × Int} (he : e ∈ es) (ho : e.1 ≤ e.2.1) : btw es e.1 e.2.1 = e.2.2 := by
  induction es with
  | nil => simp at he
  | cons x es ih =>
    obtain ⟨h1, h2⟩ := List.pairwise_cons.1 h
    unfold btw
    rcases List.mem_cons.1 he with rfl | he
    · rw [if_pos ⟨by omega, by omega⟩]
    · rw [if_neg, ih h2 he]
      have := h1 e he
      unfold ltE at this; omega
theorem btw_pos {es : List (Int × Int × Int)} {a b : Int} (h : btw es a b ≠ 0) : ∃ e ∈ es, e.1 = min a b ∧ e.2.1 = max a b ∧ e.2.2 = btw es a b := by
  induction es with
  | nil => exact absurd rfl h
  | cons e es ih =>
    unfold btw at h ⊢
    split
    · rename_i hc; exact ⟨e, by simp, hc.1, hc.2, rfl⟩
    · rename_i hc
      rw [if_neg hc] at h
      obtain ⟨x, hx, h1, h2, h3⟩ := ih h
      exact ⟨x, by simp [hx], h1, h2, h3⟩
/-- .. without the loops. -/
def tt (es : List (Int × Int × Int)) (a b : Nat) : Int := if a = b then 0 else btw es a b
theorem tt_comm (es : List (Int × Int × Int)) (a b : Nat) : tt es a b = tt es b a := by
  unfold tt; rw [btw_comm]; by_cases h : a = b
  · subst h; rfl
  · rw [if_neg h, if_neg (Ne.symm h)]
theorem tt_snoc {n : Int} {es : List (Int × Int × Int)} {e : Int × Int × Int} {a b : Nat} (h : (es ++ [e]).Pairwise ltE) (hok : ∀ x ∈ es ++ [e], okE n x) (h1 : e.1 = a) (h2 : e.2.1 = b) (u v : Nat) :
    tt (es ++ [e]) u v = if u ≠ v ∧ ((u = a ∧ v = b) ∨ (u = b ∧ v = a)) then e.2.2 else tt es u v := by
  have ho := hok e (by simp)
  unfold okE at ho
  have hm := btw_mem h (e := e) (by simp) ho.2.1
  have ha := btw_append h (fun x hx => by have := hok x (by simp [hx]); unfold okE at this; omega)
  unfold tt
  by_cases huv : u = v
  · rw [if_pos huv, if_pos huv, if_neg (fun hc => hc.1 huv)]
  · rw [if_neg huv, if_neg huv]
    by_cases hc : (u = a ∧ v = b) ∨ (u = b ∧ v = a)
    · rw [if_pos ⟨huv, hc⟩]
      rw [h1, h2] at hm
      rcases hc with ⟨rfl, rfl⟩ | ⟨rfl, rfl⟩
      · exact hm
      · rw [btw_comm]; exact hm
    · rw [if_neg (fun h => hc h.2), ha]
      have : btw [e] u v = 0 := by
        rw [btw_cons, if_neg (by omega)]; rfl
      omega
theorem tt_bd {n : Int} {es : List (Int × Int × Int)} (h : ∀ e ∈ es, okE n e) (a b : Nat) : 0 ≤ tt es a b ∧ tt es a b ≤ 50 := by
  unfold tt; split
  · omega
  · exact btw_bd h _ _
end Go.Proofs.Ytjeggocindcgaaa
