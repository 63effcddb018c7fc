/-
  Texts of this claim, put together: TreeR, Funcs, RLess, FireT, RBefore, LEqual.
-/
import Derived.Test.YtnbikkcalcpedaaGreatDoorK06
import Derived.Test.YtnbikkcalcpedaaGreatDoorK03
import Derived.Test.YtnbikkcalcpedaaGreatDoorK04
import Derived.WalkKit
import Derived.Deep.QuietTactic
import Derived.BigQuiet
/-! Plain laws of the list of all spanning trees: grown single edge by single edge they come in order, and are just those of all sets that span. No program is in sight. -/
namespace Go.Proofs.YtnbikkcalcpedaaGreatDoor

/-- A spanning tree. -/
structure IsTr (n : Nat) (E : List (Nat × Nat)) (t : List Nat) : Prop where
  set : SetN E.length t
  len : t.length + 1 = n
  fo : Fo (pk E t)
theorem nodup_map_of {α β : Type} {f : α → β} : ∀ {l : List α}, (∀ a ∈ l, ∀ b ∈ l, f a = f b → a = b) → l.Nodup → (l.map f).Nodup
  | [], _, _ => .nil
  | a :: l, h, hn => by
    rw [List.nodup_cons] at hn
    rw [List.map_cons, List.nodup_cons]
    refine ⟨fun hm => ?_, nodup_map_of (fun a ha b hb => h a (by simp [ha]) b (by simp [hb])) hn.2⟩
    obtain ⟨b, hb, he⟩ := List.mem_map.1 hm
    exact hn.1 (h b (by simp [hb]) a (by simp) he ▸ hb)
/-- Numbers as ints. -/
def nI (l : List Nat) : List Int := l.map fun u : Nat => (u : Int)
/-- Lists of numbers, lexicographically. -/
def bfN (a b : List Nat) : Bool := bfI (nI a) (nI b)
theorem nI_inj {a b : List Nat} (h : nI a = nI b) : a = b := by
  induction a generalizing b with
  | nil => cases b with
    | nil => rfl
    | cons y b => simp [nI] at h
  | cons x a ih => cases b with
    | nil => simp [nI] at h
    | cons y b =>
      simp only [nI, List.map_cons, List.cons.injEq] at h
      rw [ih h.2, show x = y by omega]
theorem bfN_as (a b : List Nat) (h : bfN a b = true) : bfN b a = false := bfI_as _ _ h
theorem bfN_tr (a b c : List Nat) (h1 : bfN b a = false) (h2 : bfN c b = false) : bfN c a = false := bfI_tr _ _ _ h1 h2
theorem bfN_an (a b : List Nat) (h1 : bfN a b = false) (h2 : bfN b a = false) : a = b := nI_inj (bfI_an _ _ h1 h2)
theorem bfN_pre (p a b : List Nat) : bfN (p ++ a) (p ++ b) = bfN a b := by
  unfold bfN nI; rw [List.map_append, List.map_append, bfI_pre]
theorem bfN_cons (x y : Nat) (a b : List Nat) (h : x < y) : bfN (x :: a) (y :: b) = true := by
  unfold bfN nI
  rw [List.map_cons, List.map_cons, bfI, if_neg (by omega)]
  simpa using h

section
variable {n : Nat} {E : List (Nat × Nat)} {t x : List Nat}
theorem IsTr.foe (h : IsTr n E t) (hb : BdP n E) : FoE n E t := ⟨hb, h.set.nodup, h.set.2, h.fo⟩
theorem IsTr.cn (h : IsTr n E t) (hb : BdP n E) {a b : Nat} (ha : a < n) (hb' : b < n) : Cn (pk E t) a b := by
  have h1 := (tree_of_fo (bd_pk hb h.set.2) h.fo).2 (by rw [pk_length]; exact h.len)
  rw [partsP_one (by omega)] at h1
  exact (h1 a ha).symm.trans (h1 b hb')
theorem isTr_iff (hb : BdP n E) (hs : SetN E.length t) (hl : t.length + 1 = n) : IsTr n E t ↔ partsP n (pk E t) = 1 := by
  rw [tree_of_len (bd_pk hb hs.2) (by rw [pk_length]; exact hl)]
  exact ⟨fun h => h.fo, fun h => ⟨hs, hl, h⟩⟩

/-- The trees that go on a list of single edges, with those from e on (k of them). -/
def treesG (n : Nat) (E : List (Nat × Nat)) : Nat → List Nat → Nat → List (List Nat)
  | 0, _, _ => []
  | k + 1, t, e => if partsP n (pk E t ++ E.drop e) = 1 then
      (if Cn (pk E t) (E.getD e (0, 0)).1 (E.getD e (0, 0)).2 then [] else if t.length + 2 = n then [t ++ [e]] else treesG n E k (t ++ [e]) (e + 1)) ++ treesG n E k t (e + 1)
    else []
/-- All spanning trees, as the program finds them. -/
def treesT (n : Nat) (E : List (Nat × Nat)) : List (List Nat) := if n = 1 then [[]] else treesG n E E.length [] 0

theorem fo_append_snoc {ps : List (Nat × Nat)} {p : Nat × Nat} (hb : BdP n (ps ++ [p])) : Fo (ps ++ [p]) ↔ Fo ps ∧ ¬ Cn ps p.1 p.2 := by
  have : (ps ++ [p]).Perm (p :: ps) := List.perm_append_comm
  rw [fo_perm hb this]; rfl
theorem treesG_spec (hb : BdP n E) : ∀ (k : Nat) (t : List Nat) (e : Nat), k + e = E.length → (∀ y ∈ t, y < e) → t.Pairwise (· < ·) → Fo (pk E t) → t.length + 2 ≤ n →
    (∀ x, x ∈ treesG n E k t e ↔ ∃ s, x = t ++ s ∧ IsTr n E x ∧ ∀ y ∈ s, e ≤ y) ∧ (treesG n E k t e).Pairwise fun a b => bfN a b = true
  | 0, t, e, hk, hlt, hp, hf, hl => by
    refine ⟨fun x => ⟨fun h => by simp [treesG] at h, ?_⟩, .nil⟩
    rintro ⟨s, rfl, h, hy⟩
    exfalso
    have := h.len
    rw [List.length_append] at this
    cases s with
    | nil => simp at this; omega
    | cons y s =>
      have h1 := hy y (by simp)
      have h2 := h.set.2 y (by simp); omega
  | k + 1, t, e, hk, hlt, hp, hf, hl => by
    have he : e < E.length := by omega
    have hlt' : ∀ y ∈ t, y < E.length := fun y hy => by have := hlt y hy; omega
    have hdrop : E.drop e = E.getD e (0, 0) :: E.drop (e + 1) := by
      rw [List.drop_eq_getElem_cons he, List.getD_eq_getElem?_getD, List.getElem?_eq_getElem he]; rfl
    rw [treesG]
    by_cases hc : partsP n (pk E t ++ E.drop e) = 1
    · rw [if_pos hc]
      obtain ⟨B1, B2⟩ := treesG_spec hb k t (e + 1) (by omega) (fun y hy => by have := hlt y hy; omega) hp hf hl
      -- the first part
      obtain ⟨L, hL⟩ : ∃ L, (if Cn (pk E t) (E.getD e (0, 0)).1 (E.getD e (0, 0)).2 then [] else if t.length + 2 = n then [t ++ [e]] else treesG n E k (t ++ [e]) (e + 1)) = L := ⟨_, rfl⟩
      rw [hL]
      have hbd : BdP n (pk E t ++ [E.getD e (0, 0)]) := by
        have := bd_pk (t := t ++ [e]) hb (fun y hy => by
          rcases List.mem_append.1 hy with hy | hy
          · exact hlt' y hy
          · rw [List.mem_singleton] at hy; omega)
        simpa [pk] using this
      have hpk : pk E (t ++ [e]) = pk E t ++ [E.getD e (0, 0)] := by simp [pk]
      have hA : (∀ x, x ∈ L ↔ ∃ s, x = t ++ e :: s ∧ IsTr n E x ∧ ∀ y ∈ s, e + 1 ≤ y) ∧ L.Pairwise fun a b => bfN a b = true := by
        by_cases hcn : Cn (pk E t) (E.getD e (0, 0)).1 (E.getD e (0, 0)).2
        · rw [if_pos hcn] at hL
          subst hL
          refine ⟨fun x => ⟨fun h => by simp at h, ?_⟩, .nil⟩
          rintro ⟨s, rfl, h, _⟩
          exfalso
          have h1 : Fo (pk E (t ++ [e])) := h.fo.sub (pk_sub (by simp))
          rw [hpk, fo_append_snoc hbd] at h1
          exact h1.2 hcn
        · rw [if_neg hcn] at hL
          have hfe : Fo (pk E (t ++ [e])) := by rw [hpk, fo_append_snoc hbd]; exact ⟨hf, hcn⟩
          have hpe : (t ++ [e]).Pairwise (· < ·) := by
            rw [List.pairwise_append]
            exact ⟨hp, List.pairwise_singleton _ _, fun a ha b hb => by rw [List.mem_singleton] at hb; rw [hb]; exact hlt a ha⟩
          have hle : ∀ y ∈ t ++ [e], y < e + 1 := fun y hy => by
            rcases List.mem_append.1 hy with hy | hy
            · have := hlt y hy; omega
            · rw [List.mem_singleton] at hy; omega
          by_cases h2 : t.length + 2 = n
          · rw [if_pos h2] at hL
            subst hL
            refine ⟨fun x => ⟨fun h => ?_, ?_⟩, List.pairwise_singleton _ _⟩
            · rw [List.mem_singleton] at h
              subst h
              exact ⟨[], rfl, ⟨⟨hpe, fun y hy => by have := hle y hy; omega⟩, by simp; omega, hfe⟩, by simp⟩
            · rintro ⟨s, rfl, h, _⟩
              have := h.len
              simp at this
              have : s = [] := List.eq_nil_of_length_eq_zero (by omega)
              subst this; simp
          · rw [if_neg h2] at hL
            obtain ⟨A1, A2⟩ := treesG_spec hb k (t ++ [e]) (e + 1) (by omega) hle hpe hfe (by simp; omega)
            rw [hL] at A1 A2
            refine ⟨fun x => ?_, A2⟩
            rw [A1]
            constructor
            · rintro ⟨s, rfl, h, hy⟩; exact ⟨s, by simp, h, hy⟩
            · rintro ⟨s, rfl, h, hy⟩; exact ⟨s, by simp, h, hy⟩
      obtain ⟨A1, A2⟩ := hA
      refine ⟨fun x => ?_, ?_⟩
      · rw [List.mem_append, A1, B1]
        constructor
        · rintro (⟨s, rfl, h, hy⟩ | ⟨s, rfl, h, hy⟩)
          · exact ⟨e :: s, rfl, h, fun y hy' => by rcases List.mem_cons.1 hy' with rfl | hy'; · exact Nat.le_refl _
                                                   · have := hy y hy'; omega⟩
          · exact ⟨s, rfl, h, fun y hy' => by have := hy y hy'; omega⟩
        · rintro ⟨s, rfl, h, hy⟩
          have hlen := h.len
          rw [List.length_append] at hlen
          cases s with
          | nil => simp at hlen; omega
          | cons y s =>
            have hy0 := hy y (by simp)
            have hps := (List.pairwise_append.1 h.set.1).2.1
            rw [List.pairwise_cons] at hps
            by_cases hye : y = e
            · subst hye
              exact .inl ⟨s, rfl, h, fun z hz => hps.1 z hz⟩
            · refine .inr ⟨y :: s, rfl, h, fun z hz => ?_⟩
              rcases List.mem_cons.1 hz with rfl | hz
              · omega
              · have := hps.1 z hz; omega
      · rw [List.pairwise_append]
        refine ⟨A2, B2, fun a ha b hb => ?_⟩
        obtain ⟨s1, rfl, _, _⟩ := (A1 a).1 ha
        obtain ⟨s2, rfl, h2, hy2⟩ := (B1 b).1 hb
        have hlen := h2.len
        rw [List.length_append] at hlen
        cases s2 with
        | nil => simp at hlen; omega
        | cons y s2 =>
          have := hy2 y (by simp)
          rw [bfN_pre]
          exact bfN_cons _ _ _ _ (by omega)
    · rw [if_neg hc]
      refine ⟨fun x => ⟨fun h => by simp at h, ?_⟩, .nil⟩
      rintro ⟨s, rfl, h, hy⟩
      exfalso
      apply hc
      have h1 := (tree_of_fo (bd_pk hb h.set.2) h.fo).2 (by rw [pk_length]; exact h.len)
      rw [partsP_one (by omega)] at h1 ⊢
      intro v hv
      refine (h1 v hv).mono fun p hp => ?_
      obtain ⟨y, hy', rfl⟩ := mem_pk.1 hp
      rcases List.mem_append.1 hy' with hy' | hy'
      · exact List.mem_append_left _ (mem_pk.2 ⟨y, hy', rfl⟩)
      · refine List.mem_append_right _ ?_
        have h3 := hy y hy'
        have h4 := h.set.2 y (by simp [hy'])
        rw [List.getD_eq_getElem?_getD, List.getElem?_eq_getElem h4]
        refine List.mem_iff_getElem?.2 ⟨y - e, ?_⟩
        rw [List.getElem?_drop, show e + (y - e) = y by omega, List.getElem?_eq_getElem h4]; rfl
theorem treesT_spec (hb : BdP n E) (hn : 0 < n) : (∀ x, x ∈ treesT n E ↔ IsTr n E x) ∧ (treesT n E).Pairwise fun a b => bfN a b = true := by
  unfold treesT
  by_cases h1 : n = 1
  · rw [if_pos h1]
    refine ⟨fun x => ⟨fun h => ?_, fun h => ?_⟩, List.pairwise_singleton _ _⟩
    · rw [List.mem_singleton] at h
      subst h
      exact ⟨⟨.nil, by simp⟩, by simp; omega, trivial⟩
    · have := h.len
      have : x = [] := List.eq_nil_of_length_eq_zero (by omega)
      subst this; simp
  · rw [if_neg h1]
    obtain ⟨s1, s2⟩ := treesG_spec hb E.length [] 0 (by omega) (by simp) .nil trivial (by simp; omega)
    refine ⟨fun x => ?_, s2⟩
    rw [s1]
    constructor
    · rintro ⟨s, rfl, h, _⟩; exact h
    · intro h; exact ⟨x, rfl, h, fun y _ => Nat.zero_le _⟩
/-- All spanning trees, found among all sets. -/
def refTs (n : Nat) (E : List (Nat × Nat)) : List (List Nat) := ((List.range (2 ^ E.length)).map (bitsL E.length)).filter fun t => decide (t.length + 1 = n) && decide (partsP n (pk E t) = 1)
theorem mem_refTs (hb : BdP n E) : x ∈ refTs n E ↔ IsTr n E x := by
  unfold refTs
  rw [List.mem_filter, List.mem_map, Bool.and_eq_true, decide_eq_true_eq, decide_eq_true_eq]
  constructor
  · rintro ⟨⟨D, _, rfl⟩, h1, h2⟩
    exact (isTr_iff hb ⟨bits_asc' _ _, bits_lt⟩ h1).2 h2
  · intro h
    obtain ⟨D, hD, hx⟩ := bits_of h.set.1 h.set.2
    exact ⟨⟨D, by rw [List.mem_range]; exact hD, hx⟩, h.len, (isTr_iff hb h.set h.len).1 h⟩
theorem refTs_nodup : (refTs n E).Nodup := by
  unfold refTs
  refine List.Nodup.sublist List.filter_sublist ?_
  refine nodup_map_of ?_ List.nodup_range
  intro D hD D' hD' h
  rw [List.mem_range] at hD hD'
  exact bits_inj hD hD' h
theorem lt_irrefl_bf (a : List Nat) : bfN a a = false := by
  cases h : bfN a a
  · rfl
  · rw [bfN_as a a h] at h; cases h
theorem treesT_nodup (hb : BdP n E) (hn : 0 < n) : (treesT n E).Nodup := (treesT_spec hb hn).2.imp fun h e => by
  subst e; rw [lt_irrefl_bf] at h; cases h
/-- The stage theorem: the program's list is the reference's. -/
theorem trees_sorted (hb : BdP n E) (hn : 0 < n) : sortG bfN (refTs n E) = treesT n E := by
  obtain ⟨s1, s2⟩ := treesT_spec hb hn
  refine sorted_eq bfN_an (sortG_sorted bfN_tr bfN_as _) (s2.imp fun h => bfN_as _ _ h) ?_
  refine (sortG_perm _).trans ?_
  exact (List.perm_ext_iff_of_nodup refTs_nodup (treesT_nodup hb hn)).2 fun x => by rw [mem_refTs hb, s1]
end
end Go.Proofs.YtnbikkcalcpedaaGreatDoor

/-! slices.IndexFunc and ContainsFunc on ints, with a function that has captured one variable. -/
namespace Go.Proofs.YtnbikkcalcpedaaGreatDoor
open Go.RowKit

end Go.Proofs.YtnbikkcalcpedaaGreatDoor

/-! ref10.Less: a list without a number. -/
namespace Go.Proofs.YtnbikkcalcpedaaGreatDoor
open Go.RowKit

set_option maxHeartbeats 1000000 in
theorem rless_any (A : Option Addr) (c : Nat) (xs : List Int) (hn : xs.length ≤ 1048000) (v : Int) (w : World) (h : Reads w w.heap.size 1 A xs.length (ints xs)) :
    Calls Tryz.prog 78 #[.slice A xs.length c, .int .i64 v] w fun en w' => ∃ A' c', en = .returned (.slice A' (xs.filter fun x => !decide (x = v)).length c') ∧ OwnI w' w.heap.size A' c' (xs.filter fun x => !decide (x = v)) ∧ Below w.heap.size w w' := by
  have hA0 : Hid (OwnI w w.heap.size none 0 ((xs.take 0).filter fun x => !decide (x = v))) := OwnI.nil_ _ _
  have HFL : Hid (∀ k, ((xs.take k).filter fun x => !decide (x = v)).length ≤ 1048000) := fun k => Nat.le_trans (List.length_filter_le _ _) (Nat.le_trans (by rw [List.length_take]; omega) hn)
  go_enter Tryz.func78, Tryz.ntmps78
  go_wp2_with fail
  go_loopw [5, 6] (fun o i wr => ∃ (k : Nat) (Ao : Option Addr) (co : Nat), k ≤ xs.length ∧ i = .int .i64 k ∧ o = .slice Ao ((xs.take k).filter fun x => !decide (x = v)).length co ∧ Hid (OwnI wr w.heap.size Ao co ((xs.take k).filter fun x => !decide (x = v))) ∧ Hid (Below w.heap.size w wr)) (fun _ i _ => xs.length - (intOf i).toNat)
  case atStart => exact ⟨0, none, 0, by omega, rfl, rfl, hA0, Below.refl _ _⟩
  case round =>
    obtain ⟨k, Ao, co, hk, rfl, rfl, HO, HW⟩ := hrel
    have hwz := HW.out.size
    by_cases hlt : k < xs.length
    · obtain ⟨x, hx⟩ := get_of_lt hlt
      obtain ⟨b, off, hA, hb, hcell⟩ := (h.below HW.out).at_ (ints_at hx)
      subst hA
      have hi : (k : Int) < (xs.length : Int) := by omega
      have ht := take_snoc hx
      have hf : (xs.take (k + 1)).filter (fun x => !decide (x = v)) = if x = v then (xs.take k).filter (fun x => !decide (x = v)) else (xs.take k).filter (fun x => !decide (x = v)) ++ [x] := by
        rw [ht, List.filter_append]
        by_cases hv : x = v
        · rw [if_pos hv, List.filter_cons]; simp [hv]
        · rw [if_neg hv, List.filter_cons]; simp [hv]
      have HFk := HFL.out k
      obtain ⟨L, hL⟩ : ∃ L, (xs.take k).filter (fun x => !decide (x = v)) = L := ⟨_, rfl⟩
      rw [hL] at HO hf HFk ⊢
      have HF := Lib.hid hf
      have HXL : Hid (xs.length ≤ 1048000) := hn
      clear hx ht hf hL
      by_cases hv : x = v
      · have hq : (x != v) = false := by simp [hv]
        have hF := Lib.hid (HF.out.trans (if_pos hv))
        clear hv
        go_wp2
        go_roundw
        case rel => exact ⟨k + 1, Ao, co, by omega, by have := HXL.out; go_num, by rw [hF.out], by rw [Hid, hF.out]; exact HO.out, HW.out⟩
        case measure => have := HXL.out; simp [intOf]; omega
      · have hq : (x != v) = true := by simpa using hv
        have hF := Lib.hid (HF.out.trans (if_neg hv))
        clear hv
        go_wp2_with (at_builtin; refine push_int rfl (.tmp 19) (.tmp 24) _ rfl Tryz.underlying25 w.heap.size Ao co L x rfl HO.out rfl rfl HFk hwz ?_; intro A5 c5 w5 hown5 _ hb5)
        go_roundw
        case rel => exact ⟨k + 1, A5, c5, by omega, by have := HXL.out; go_num, by rw [hF.out, List.length_append]; rfl, by rw [Hid, hF.out]; exact hown5, HW.out.trans hb5⟩
        case measure => have := HXL.out; simp [intOf]; omega
    · obtain rfl : k = xs.length := by omega
      rw [List.take_length] at HO ⊢
      go_wp2
      go_ret
      exact ⟨Ao, co, rfl, HO.out, HW.out⟩
end Go.Proofs.YtnbikkcalcpedaaGreatDoor

/-! Burning single edges in order: what has burnt, step by step, as the reference says it; the program's waiting list comes to the same. No program is in sight. -/
namespace Go.Proofs.YtnbikkcalcpedaaGreatDoor

/-- What has burnt. -/
structure FireS where
  steps : List Nat
  order : List Nat
  tree : List Nat
  times : List Int
/-- A single edge with just one end burnt, that has not burnt itself. -/
def candB (E : List (Nat × Nat)) (s : FireS) (e : Nat) : Bool := !decide (e ∈ s.steps) && !(decide ((E.getD e (0, 0)).1 ∈ s.order) == decide ((E.getD e (0, 0)).2 ∈ s.order))
def nextF (E : List (Nat × Nat)) (s : FireS) : Option Nat := (List.range E.length).find? (candB E s)
/-- The end that is not burnt. -/
def leadV (E : List (Nat × Nat)) (s : FireS) (e : Nat) : Nat := if (E.getD e (0, 0)).1 ∈ s.order then (E.getD e (0, 0)).2 else (E.getD e (0, 0)).1
def burnOne (lit : Nat → Nat → Int → Bool) (s : FireS) (e v : Nat) : FireS :=
  if lit v e (s.times.getD v 0) = true then { steps := s.steps ++ [e], order := s.order ++ [v], tree := s.tree ++ [e], times := s.times }
  else { steps := s.steps ++ [e], order := s.order, tree := s.tree, times := s.times.set v (s.times.getD v 0 + 1) }
def stepF (E : List (Nat × Nat)) (lit : Nat → Nat → Int → Bool) (s : FireS) : FireS :=
  match nextF E s with
  | none => s
  | some e => burnOne lit s e (leadV E s e)
def runF (E : List (Nat × Nat)) (lit : Nat → Nat → Int → Bool) : Nat → FireS → FireS
  | 0, s => s
  | k + 1, s => runF E lit k (stepF E lit s)
section
variable {E : List (Nat × Nat)} {lit : Nat → Nat → Int → Bool} {s : FireS} {e v : Nat}
theorem runF_succ : ∀ (k : Nat) (s : FireS), runF E lit (k + 1) s = stepF E lit (runF E lit k s)
  | 0, s => rfl
  | k + 1, s => by rw [runF, runF_succ k, runF]
theorem cand_iff : candB E s e = true ↔ e ∉ s.steps ∧ ¬ ((E.getD e (0, 0)).1 ∈ s.order ↔ (E.getD e (0, 0)).2 ∈ s.order) := by
  unfold candB
  rw [Bool.and_eq_true, Bool.not_eq_true', decide_eq_false_iff_not, Bool.not_eq_true', beq_eq_false_iff_ne]
  refine and_congr Iff.rfl ⟨fun h hc => h ?_, fun h hc => h ?_⟩
  · rw [Bool.eq_iff_iff, decide_eq_true_eq, decide_eq_true_eq]; exact hc
  · rw [Bool.eq_iff_iff, decide_eq_true_eq, decide_eq_true_eq] at hc; exact hc
theorem lead_new (h : candB E s e = true) : leadV E s e ∉ s.order := by
  obtain ⟨_, h2⟩ := cand_iff.1 h
  unfold leadV
  by_cases h3 : (E.getD e (0, 0)).1 ∈ s.order
  · rw [if_pos h3]; exact fun h4 => h2 ⟨fun _ => h4, fun _ => h3⟩
  · rw [if_neg h3]; exact h3
theorem next_some (h : nextF E s = some e) : e < E.length ∧ candB E s e = true ∧ ∀ f, f < e → candB E s f = false := by
  unfold nextF at h
  have h1 := List.find?_some h
  have h2 := List.mem_of_find?_eq_some h
  refine ⟨List.mem_range.1 h2, h1, fun f hf => ?_⟩
  obtain ⟨_, l1, l2, h3, h4⟩ := List.find?_eq_some_iff_append.1 h
  have hfm : f ∈ l1 := by
    have hlen : l1.length = e := by
      have := congrArg (fun l => l[l1.length]?) h3
      simp only [List.getElem?_append_right (Nat.le_refl _), Nat.sub_self] at this
      rw [List.getElem?_cons_zero] at this
      have hlt : l1.length < E.length := by
        have := congrArg List.length h3
        simp at this; omega
      rw [List.getElem?_range hlt] at this
      injection this
    have h5 : (List.range E.length)[f]? = some f := by rw [List.getElem?_range]; have := List.mem_range.1 h2; omega
    rw [h3, List.getElem?_append_left (by omega)] at h5
    exact List.mem_of_getElem? h5
  have := h4 f hfm
  simpa using this
theorem next_none (h : nextF E s = none) : ∀ e, e < E.length → candB E s e = false := by
  intro e he
  unfold nextF at h
  rw [List.find?_eq_none] at h
  have := h e (List.mem_range.2 he)
  simpa using this
theorem next_least (he : e < E.length) (hc : candB E s e = true) (hm : ∀ f, f < e → candB E s f = false) : nextF E s = some e := by
  rcases hn : nextF E s with _ | f
  · rw [next_none hn e he] at hc; cases hc
  · obtain ⟨h1, h2, h3⟩ := next_some hn
    rcases Nat.lt_trichotomy e f with h | h | h
    · rw [h3 e h] at hc; cases hc
    · rw [h]
    · rw [hm f h] at h2; cases h2
/-- What holds of all that has burnt so far. -/
structure FireOk (E : List (Nat × Nat)) (s : FireS) : Prop where
  nodup : s.steps.Nodup
  lt : ∀ e ∈ s.steps, e < E.length
  ends : ∀ e ∈ s.steps, (E.getD e (0, 0)).1 ∈ s.order ∨ (E.getD e (0, 0)).2 ∈ s.order
theorem cand_end (h : candB E s e = true) : (E.getD e (0, 0)).1 ∈ s.order ∨ (E.getD e (0, 0)).2 ∈ s.order := by
  obtain ⟨_, h2⟩ := cand_iff.1 h
  by_cases h3 : (E.getD e (0, 0)).1 ∈ s.order
  · exact .inl h3
  · by_cases h4 : (E.getD e (0, 0)).2 ∈ s.order
    · exact .inr h4
    · exact absurd ⟨fun h => absurd h h3, fun h => absurd h h4⟩ h2
theorem FireOk.one (h : FireOk E s) (he : e < E.length) (hc : candB E s e = true) : FireOk E (burnOne lit s e v) := by
  have hn := (cand_iff.1 hc).1
  have hnd : (s.steps ++ [e]).Nodup := by
    rw [List.nodup_append]
    exact ⟨h.nodup, by simp, fun a ha b hb => by rw [List.mem_singleton] at hb; subst hb; exact fun h => hn (h ▸ ha)⟩
  have hlt : ∀ f ∈ s.steps ++ [e], f < E.length := fun f hf => by
    rcases List.mem_append.1 hf with hf | hf
    · exact h.lt f hf
    · rw [List.mem_singleton] at hf; exact hf ▸ he
  have hen : ∀ f ∈ s.steps ++ [e], (E.getD f (0, 0)).1 ∈ s.order ∨ (E.getD f (0, 0)).2 ∈ s.order := fun f hf => by
    rcases List.mem_append.1 hf with hf | hf
    · exact h.ends f hf
    · rw [List.mem_singleton] at hf; rw [hf]; exact cand_end hc
  unfold burnOne
  split
  · exact ⟨hnd, hlt, fun f hf => (hen f hf).imp (fun h => List.mem_append_left _ h) (fun h => List.mem_append_left _ h)⟩
  · exact ⟨hnd, hlt, hen⟩
/-- The waiting list of the program beside what has burnt. -/
structure Wait (E : List (Nat × Nat)) (s : FireS) (H : List Nat) : Prop where
  ok : FireOk E s
  nodup : H.Nodup
  lt : ∀ e ∈ H, e < E.length
  new : ∀ e ∈ H, e ∉ s.steps
  ends : ∀ e ∈ H, (E.getD e (0, 0)).1 ∈ s.order ∨ (E.getD e (0, 0)).2 ∈ s.order
  all : ∀ e, e < E.length → candB E s e = true → e ∈ H
/-- The least one that waits: burnt on both ends, or it is next. -/
theorem Wait.least {H : List Nat} (h : Wait E s H) (he : e ∈ H) (hm : ∀ f ∈ H, e ≤ f) :
    ((E.getD e (0, 0)).1 ∈ s.order ∧ (E.getD e (0, 0)).2 ∈ s.order ∧ candB E s e = false) ∨ (nextF E s = some e) := by
  by_cases hc : candB E s e = true
  · refine .inr (next_least (h.lt e he) hc fun f hf => ?_)
    cases hcf : candB E s f
    · rfl
    · have := hm f (h.all f (Nat.lt_trans hf (h.lt e he)) hcf)
      omega
  · have hc' : candB E s e = false := by simpa using hc
    have h2 : (E.getD e (0, 0)).1 ∈ s.order ↔ (E.getD e (0, 0)).2 ∈ s.order := Classical.byContradiction fun hx => hc (cand_iff.2 ⟨h.new e he, hx⟩)
    rcases h.ends e he with h3 | h3
    · exact .inl ⟨h3, h2.1 h3, hc'⟩
    · exact .inl ⟨h2.2 h3, h3, hc'⟩
/-- A step that lights nothing. -/
theorem Wait.dark {H H' : List Nat} (h : Wait E s H) (hp : (e :: H').Perm H) (hc : candB E s e = true) (hl : lit v e (s.times.getD v 0) = false) : Wait E (burnOne lit s e v) H' := by
  have hn := hp.nodup_iff.2 h.nodup
  rw [List.nodup_cons] at hn
  have hel := h.lt e (hp.mem_iff.1 (by simp))
  have hb : burnOne lit s e v = { steps := s.steps ++ [e], order := s.order, tree := s.tree, times := s.times.set v (s.times.getD v 0 + 1) } := by unfold burnOne; rw [hl, if_neg (by decide)]
  have hok := h.ok.one (lit := lit) (v := v) hel hc
  rw [hb] at hok ⊢
  refine ⟨hok, hn.2, fun f hf => h.lt f (hp.mem_iff.1 (by simp [hf])), fun f hf => ?_, fun f hf => h.ends f (hp.mem_iff.1 (by simp [hf])), fun f hf hcf => ?_⟩
  · intro h1
    rcases List.mem_append.1 h1 with h1 | h1
    · exact h.new f (hp.mem_iff.1 (by simp [hf])) h1
    · rw [List.mem_singleton] at h1; subst h1; exact hn.1 hf
  · obtain ⟨c1, c2⟩ := cand_iff.1 hcf
    have hcf' : candB E s f = true := cand_iff.2 ⟨fun h => c1 (List.mem_append_left _ h), c2⟩
    rcases List.mem_cons.1 (hp.mem_iff.2 (h.all f hf hcf')) with rfl | h1
    · exact absurd (by simp) c1
    · exact h1
/-- The single edges from a vertex to vertices that are not burnt. -/
def newL (E : List (Nat × Nat)) (order : List Nat) (v : Nat) (k : Nat) : List Nat := (List.range k).filter fun e => decide ((E.getD e (0, 0)).1 ≠ (E.getD e (0, 0)).2) && (decide ((E.getD e (0, 0)).1 = v) || decide ((E.getD e (0, 0)).2 = v)) && !decide ((E.getD e (0, 0)).1 + (E.getD e (0, 0)).2 - v ∈ order)
theorem mem_new {order : List Nat} {k : Nat} : e ∈ newL E order v k ↔ e < k ∧ (E.getD e (0, 0)).1 ≠ (E.getD e (0, 0)).2 ∧ ((E.getD e (0, 0)).1 = v ∨ (E.getD e (0, 0)).2 = v) ∧ (E.getD e (0, 0)).1 + (E.getD e (0, 0)).2 - v ∉ order := by
  unfold newL
  rw [List.mem_filter, List.mem_range, Bool.and_eq_true, Bool.and_eq_true, Bool.or_eq_true, decide_eq_true_eq, decide_eq_true_eq, decide_eq_true_eq, Bool.not_eq_true', decide_eq_false_iff_not]
  constructor
  · rintro ⟨h1, ⟨h2, h3⟩, h4⟩; exact ⟨h1, h2, h3, h4⟩
  · rintro ⟨h1, h2, h3, h4⟩; exact ⟨h1, ⟨h2, h3⟩, h4⟩
/-- Taking a vertex that is not burnt: what waits behind it. -/
theorem Wait.take {s2 : FireS} {H H' : List Nat} (hs : s2.steps = s.steps) (ho : s2.order = s.order ++ [v]) (hok : FireOk E s2) (hv : v ∉ s.order) (hn : H.Nodup) (hlt : ∀ e ∈ H, e < E.length) (hnew : ∀ e ∈ H, e ∉ s.steps) (hends : ∀ e ∈ H, (E.getD e (0, 0)).1 ∈ s.order ∨ (E.getD e (0, 0)).2 ∈ s.order)
    (hall : ∀ e, e < E.length → candB E s e = true → e ∈ H) (hso : ∀ e ∈ s.steps, (E.getD e (0, 0)).1 ∈ s.order ∨ (E.getD e (0, 0)).2 ∈ s.order)
    (hp : H'.Perm (H ++ newL E (s.order ++ [v]) v E.length)) : Wait E s2 H' := by
  have hout : ∀ e, e ∈ newL E (s.order ++ [v]) v E.length → ¬ ((E.getD e (0, 0)).1 ∈ s.order ∨ (E.getD e (0, 0)).2 ∈ s.order) := by
    intro e he
    obtain ⟨_, h2, h3, h4⟩ := mem_new.1 he
    rw [List.mem_append, List.mem_singleton] at h4
    rintro (h5 | h5)
    · rcases h3 with h3 | h3
      · exact hv (h3 ▸ h5)
      · refine h4 (.inl ?_)
        rw [h3, Nat.add_sub_cancel]; exact h5
    · rcases h3 with h3 | h3
      · refine h4 (.inl ?_)
        rw [h3, Nat.add_sub_cancel_left]; exact h5
      · exact hv (h3 ▸ h5)
  have hmem : ∀ e, e ∈ H' ↔ e ∈ H ∨ e ∈ newL E (s.order ++ [v]) v E.length := fun e => by rw [hp.mem_iff, List.mem_append]
  refine ⟨hok, hp.nodup_iff.2 ?_, fun e he => ?_, fun e he => ?_, fun e he => ?_, fun e he hc => ?_⟩
  · rw [List.nodup_append]
    exact ⟨hn, List.nodup_range.sublist List.filter_sublist, fun a ha b hb hab => by subst hab; exact hout a hb (hends a ha)⟩
  · rcases (hmem e).1 he with h1 | h1
    · exact hlt e h1
    · exact (mem_new.1 h1).1
  · rw [hs]
    rcases (hmem e).1 he with h1 | h1
    · exact hnew e h1
    · exact fun h2 => hout e h1 (hso e h2)
  · rw [ho]
    rcases (hmem e).1 he with h1 | h1
    · exact (hends e h1).imp (fun h => List.mem_append_left _ h) (fun h => List.mem_append_left _ h)
    · rcases (mem_new.1 h1).2.2.1 with h2 | h2
      · exact .inl (by rw [h2]; simp)
      · exact .inr (by rw [h2]; simp)
  · rw [hmem]
    obtain ⟨c1, c2⟩ := cand_iff.1 hc
    rw [hs] at c1
    rw [ho] at c2
    by_cases hcs : candB E s e = true
    · exact .inl (hall e he hcs)
    · have h2 : (E.getD e (0, 0)).1 ∈ s.order ↔ (E.getD e (0, 0)).2 ∈ s.order := Classical.byContradiction fun hx => hcs (cand_iff.2 ⟨c1, hx⟩)
      simp only [List.mem_append, List.mem_singleton] at c2
      refine .inr (mem_new.2 ⟨he, ?_, ?_, ?_⟩)
      · intro h3; rw [h3] at c2; exact c2 Iff.rfl
      · refine Classical.byContradiction fun h3 => c2 ?_
        rw [not_or] at h3
        exact ⟨fun h => h.elim (fun h => .inl (h2.1 h)) (fun h => absurd h h3.1), fun h => h.elim (fun h => .inl (h2.2 h)) (fun h => absurd h h3.2)⟩
      · intro h4
        rw [List.mem_append, List.mem_singleton] at h4
        refine c2 ?_
        obtain ⟨⟨a, b⟩, hab⟩ : ∃ z, E.getD e (0, 0) = z := ⟨_, rfl⟩
        rw [hab] at h2 h4 ⊢
        dsimp only at h2 h4 ⊢
        by_cases ha : a = v
        · subst ha
          rw [Nat.add_sub_cancel_left] at h4
          exact ⟨fun _ => h4, fun _ => .inr rfl⟩
        · by_cases hb : b = v
          · subst hb
            rw [Nat.add_sub_cancel] at h4
            exact ⟨fun _ => .inr rfl, fun _ => h4⟩
          · exact ⟨fun h => h.elim (fun h => .inl (h2.1 h)) (fun h => absurd h ha), fun h => h.elim (fun h => .inl (h2.2 h)) (fun h => absurd h hb)⟩
theorem one_steps : (burnOne lit s e v).steps = s.steps ++ [e] := by unfold burnOne; split <;> rfl
theorem run_next (h : nextF E s = some e) : stepF E lit s = burnOne lit s e (leadV E s e) := by unfold stepF; rw [h]
end
end Go.Proofs.YtnbikkcalcpedaaGreatDoor

/-! ref10.Before: the order of lists of ints. -/
namespace Go.Proofs.YtnbikkcalcpedaaGreatDoor
open Go.RowKit

end Go.Proofs.YtnbikkcalcpedaaGreatDoor

/-! slices.Equal on lists and on scripts. -/
namespace Go.Proofs.YtnbikkcalcpedaaGreatDoor
open Go.RowKit

set_option maxHeartbeats 800000 in
theorem iequal_any (A : Option Addr) (c : Nat) (xs : List Int) (B : Option Addr) (d : Nat) (ys : List Int) (hn : xs.length ≤ 1048576) (w : World) (h : Reads w w.heap.size 1 A xs.length (ints xs)) (h' : Reads w w.heap.size 1 B ys.length (ints ys)) :
    Calls Tryz.prog 40 #[.slice A xs.length c, .slice B ys.length d] w fun e w' => e = .returned (.bool (decide (xs = ys))) ∧ Below w.heap.size w w' := by
  by_cases hl : xs.length = ys.length
  · have HL := Lib.hid hl
    have hb : ((xs.length : Int) != (ys.length : Int)) = false := by simp; omega
    clear hl
    go_enter Tryz.func40, Tryz.ntmps40
    go_wp2
    clear hb
    go_loopw [13] (fun i wr => ∃ k : Nat, k ≤ xs.length ∧ i = .int .i64 k ∧ Below w.heap.size w wr ∧ Hid (xs.take k = ys.take k)) (fun i _ => xs.length - (intOf i).toNat)
    case atStart => exact ⟨0, by omega, rfl, Below.refl _ _, by simp [Hid]⟩
    case round =>
      obtain ⟨k, hk, rfl, hbel, HS⟩ := hrel
      by_cases hlt : k < xs.length
      · obtain ⟨x, hx⟩ := get_of_lt hlt
        obtain ⟨y, hy⟩ := get_of_lt (xs := ys) (k := k) (by have := HL.out; omega)
        have HX := Lib.hid hx
        have HY := Lib.hid hy
        obtain ⟨b, off, rfl, hb, hcell⟩ := (h.below hbel).at_ (ints_at hx)
        obtain ⟨b', off', rfl, hb', hcell'⟩ := (h'.below hbel).at_ (ints_at hy)
        have hi : (k : Int) < (xs.length : Int) := by omega
        have hi' : (k : Int) < (ys.length : Int) := by have := HL.out; omega
        clear hx hy h h'
        by_cases hxy : x = y
        · subst hxy
          go_wp2
          go_quiet (fail)
          go_wp2
          go_roundw
          case rel => exact ⟨k + 1, by omega, by go_num, below_drewN hbel _, by rw [Hid, take_snoc HX.out, take_snoc HY.out, HS.out]⟩
          case measure => simp [intOf]; omega
        · have hbx : (x != y) = true := by simpa using hxy
          go_wp2
          go_quiet (fail)
          go_wp2
          go_ret
          refine ⟨ret_bool ?_, below_drewN hbel _⟩
          have : ¬ xs = ys := fun e => hxy (by have h1 := HX.out; rw [e, HY.out] at h1; injection h1 with h1; exact h1.symm)
          simp [this]
      · go_wp2
        go_ret
        refine ⟨ret_bool ?_, hbel⟩
        have e : xs = ys := by have h1 := HS.out; rw [show k = xs.length from by omega, List.take_length, HL.out, List.take_length] at h1; exact h1
        simp [e]
  · have hb : ((xs.length : Int) != (ys.length : Int)) = true := by simp; omega
    go_enter Tryz.func40, Tryz.ntmps40
    go_wp2
    go_ret
    have : ¬ xs = ys := fun e => hl (by rw [e])
    exact ⟨ret_bool (by simp [this]), Below.refl _ _⟩
end Go.Proofs.YtnbikkcalcpedaaGreatDoor

