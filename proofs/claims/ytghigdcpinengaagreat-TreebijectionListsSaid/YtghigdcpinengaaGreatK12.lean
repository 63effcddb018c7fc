/-
  Texts of this claim, put together: TreeR, Given.
-/
import Derived.Test.YtghigdcpinengaaGreatK05
import Derived.Test.YtghigdcpinengaaGreatK03
import Derived.Test.YtghigdcpinengaaGreatK11
import Derived.Test.YtghigdcpinengaaGreatK06
import Derived.Test.YtghigdcpinengaaGreatK09
/-! Plain laws of the list of all spanning trees: grown single edge by single edge they come in order, and are just those of all sets that span. No program is in sight. -/
namespace Go.Proofs.YtghigdcpinengaaGreat

/-- A spanning tree. -/
structure IsTr (n : Nat) (E : List (Nat × Nat)) (t : List Nat) : Prop where
  set : SetN E.length t
  len : t.length + 1 = n
  fo : Fo (pk E t)
theorem nodup_map_of {α β : Type} {f : α → β} : ∀ {l : List α}, (∀ a ∈ l, ∀ b ∈ l, f a = f b → a = b) → l.Nodup → (l.map f).Nodup
  | [], _, _ => .nil
  | a :: l, h, hn => by
    rw [List.nodup_cons] at hn
    rw [List.map_cons, List.nodup_cons]
    refine ⟨fun hm => ?_, nodup_map_of (fun a ha b hb => h a (by simp [ha]) b (by simp [hb])) hn.2⟩
    obtain ⟨b, hb, he⟩ := List.mem_map.1 hm
    exact hn.1 (h b (by simp [hb]) a (by simp) he ▸ hb)
/-- Numbers as ints. -/
def nI (l : List Nat) : List Int := l.map fun u : Nat => (u : Int)
/-- Lists of numbers, lexicographically. -/
def bfN (a b : List Nat) : Bool := bfI (nI a) (nI b)
theorem nI_inj {a b : List Nat} (h : nI a = nI b) : a = b := by
  induction a generalizing b with
  | nil => cases b with
    | nil => rfl
    | cons y b => simp [nI] at h
  | cons x a ih => cases b with
    | nil => simp [nI] at h
    | cons y b =>
      simp only [nI, List.map_cons, List.cons.injEq] at h
      rw [ih h.2, show x = y by omega]
theorem bfN_as (a b : List Nat) (h : bfN a b = true) : bfN b a = false := bfI_as _ _ h
theorem bfN_tr (a b c : List Nat) (h1 : bfN b a = false) (h2 : bfN c b = false) : bfN c a = false := bfI_tr _ _ _ h1 h2
theorem bfN_an (a b : List Nat) (h1 : bfN a b = false) (h2 : bfN b a = false) : a = b := nI_inj (bfI_an _ _ h1 h2)
theorem bfN_pre (p a b : List Nat) : bfN (p ++ a) (p ++ b) = bfN a b := by
  unfold bfN nI; rw [List.map_append, List.map_append, bfI_pre]
theorem bfN_cons (x y : Nat) (a b : List Nat) (h : x < y) : bfN (x :: a) (y :: b) = true := by
  unfold bfN nI
  rw [List.map_cons, List.map_cons, bfI, if_neg (by omega)]
  simpa using h

section
variable {n : Nat} {E : List (Nat × Nat)} {t x : List Nat}
theorem IsTr.foe (h : IsTr n E t) (hb : BdP n E) : FoE n E t := ⟨hb, h.set.nodup, h.set.2, h.fo⟩
theorem IsTr.cn (h : IsTr n E t) (hb : BdP n E) {a b : Nat} (ha : a < n) (hb' : b < n) : Cn (pk E t) a b := by
  have h1 := (tree_of_fo (bd_pk hb h.set.2) h.fo).2 (by rw [pk_length]; exact h.len)
  rw [partsP_one (by omega)] at h1
  exact (h1 a ha).symm.trans (h1 b hb')
theorem isTr_iff (hb : BdP n E) (hs : SetN E.length t) (hl : t.length + 1 = n) : IsTr n E t ↔ partsP n (pk E t) = 1 := by
  rw [tree_of_len (bd_pk hb hs.2) (by rw [pk_length]; exact hl)]
  exact ⟨fun h => h.fo, fun h => ⟨hs, hl, h⟩⟩

/-- The trees that go on a list of single edges, with those from e on (k of them). -/
def treesG (n : Nat) (E : List (Nat × Nat)) : Nat → List Nat → Nat → List (List Nat)
  | 0, _, _ => []
  | k + 1, t, e => if partsP n (pk E t ++ E.drop e) = 1 then
      (if Cn (pk E t) (E.getD e (0, 0)).1 (E.getD e (0, 0)).2 then [] else if t.length + 2 = n then [t ++ [e]] else treesG n E k (t ++ [e]) (e + 1)) ++ treesG n E k t (e + 1)
    else []
/-- All spanning trees, as the program finds them. -/
def treesT (n : Nat) (E : List (Nat × Nat)) : List (List Nat) := if n = 1 then [[]] else treesG n E E.length [] 0

theorem fo_append_snoc {ps : List (Nat × Nat)} {p : Nat × Nat} (hb : BdP n (ps ++ [p])) : Fo (ps ++ [p]) ↔ Fo ps ∧ ¬ Cn ps p.1 p.2 := by
  have : (ps ++ [p]).Perm (p :: ps) := List.perm_append_comm
  rw [fo_perm hb this]; rfl
theorem treesG_spec (hb : BdP n E) : ∀ (k : Nat) (t : List Nat) (e : Nat), k + e = E.length → (∀ y ∈ t, y < e) → t.Pairwise (· < ·) → Fo (pk E t) → t.length + 2 ≤ n →
    (∀ x, x ∈ treesG n E k t e ↔ ∃ s, x = t ++ s ∧ IsTr n E x ∧ ∀ y ∈ s, e ≤ y) ∧ (treesG n E k t e).Pairwise fun a b => bfN a b = true
  | 0, t, e, hk, hlt, hp, hf, hl => by
    refine ⟨fun x => ⟨fun h => by simp [treesG] at h, ?_⟩, .nil⟩
    rintro ⟨s, rfl, h, hy⟩
    exfalso
    have := h.len
    rw [List.length_append] at this
    cases s with
    | nil => simp at this; omega
    | cons y s =>
      have h1 := hy y (by simp)
      have h2 := h.set.2 y (by simp); omega
  | k + 1, t, e, hk, hlt, hp, hf, hl => by
    have he : e < E.length := by omega
    have hlt' : ∀ y ∈ t, y < E.length := fun y hy => by have := hlt y hy; omega
    have hdrop : E.drop e = E.getD e (0, 0) :: E.drop (e + 1) := by
      rw [List.drop_eq_getElem_cons he, List.getD_eq_getElem?_getD, List.getElem?_eq_getElem he]; rfl
    rw [treesG]
    by_cases hc : partsP n (pk E t ++ E.drop e) = 1
    · rw [if_pos hc]
      obtain ⟨B1, B2⟩ := treesG_spec hb k t (e + 1) (by omega) (fun y hy => by have := hlt y hy; omega) hp hf hl
      -- the first part
      obtain ⟨L, hL⟩ : ∃ L, (if Cn (pk E t) (E.getD e (0, 0)).1 (E.getD e (0, 0)).2 then [] else if t.length + 2 = n then [t ++ [e]] else treesG n E k (t ++ [e]) (e + 1)) = L := ⟨_, rfl⟩
      rw [hL]
      have hbd : BdP n (pk E t ++ [E.getD e (0, 0)]) := by
        have := bd_pk (t := t ++ [e]) hb (fun y hy => by
          rcases List.mem_append.1 hy with hy | hy
          · exact hlt' y hy
          · rw [List.mem_singleton] at hy; omega)
        simpa [pk] using this
      have hpk : pk E (t ++ [e]) = pk E t ++ [E.getD e (0, 0)] := by simp [pk]
      have hA : (∀ x, x ∈ L ↔ ∃ s, x = t ++ e :: s ∧ IsTr n E x ∧ ∀ y ∈ s, e + 1 ≤ y) ∧ L.Pairwise fun a b => bfN a b = true := by
        by_cases hcn : Cn (pk E t) (E.getD e (0, 0)).1 (E.getD e (0, 0)).2
        · rw [if_pos hcn] at hL
          subst hL
          refine ⟨fun x => ⟨fun h => by simp at h, ?_⟩, .nil⟩
          rintro ⟨s, rfl, h, _⟩
          exfalso
          have h1 : Fo (pk E (t ++ [e])) := h.fo.sub (pk_sub (by simp))
          rw [hpk, fo_append_snoc hbd] at h1
          exact h1.2 hcn
        · rw [if_neg hcn] at hL
          have hfe : Fo (pk E (t ++ [e])) := by rw [hpk, fo_append_snoc hbd]; exact ⟨hf, hcn⟩
          have hpe : (t ++ [e]).Pairwise (· < ·) := by
            rw [List.pairwise_append]
            exact ⟨hp, List.pairwise_singleton _ _, fun a ha b hb => by rw [List.mem_singleton] at hb; rw [hb]; exact hlt a ha⟩
          have hle : ∀ y ∈ t ++ [e], y < e + 1 := fun y hy => by
            rcases List.mem_append.1 hy with hy | hy
            · have := hlt y hy; omega
            · rw [List.mem_singleton] at hy; omega
          by_cases h2 : t.length + 2 = n
          · rw [if_pos h2] at hL
            subst hL
            refine ⟨fun x => ⟨fun h => ?_, ?_⟩, List.pairwise_singleton _ _⟩
            · rw [List.mem_singleton] at h
              subst h
              exact ⟨[], rfl, ⟨⟨hpe, fun y hy => by have := hle y hy; omega⟩, by simp; omega, hfe⟩, by simp⟩
            · rintro ⟨s, rfl, h, _⟩
              have := h.len
              simp at this
              have : s = [] := List.eq_nil_of_length_eq_zero (by omega)
              subst this; simp
          · rw [if_neg h2] at hL
            obtain ⟨A1, A2⟩ := treesG_spec hb k (t ++ [e]) (e + 1) (by omega) hle hpe hfe (by simp; omega)
            rw [hL] at A1 A2
            refine ⟨fun x => ?_, A2⟩
            rw [A1]
            constructor
            · rintro ⟨s, rfl, h, hy⟩; exact ⟨s, by simp, h, hy⟩
            · rintro ⟨s, rfl, h, hy⟩; exact ⟨s, by simp, h, hy⟩
      obtain ⟨A1, A2⟩ := hA
      refine ⟨fun x => ?_, ?_⟩
      · rw [List.mem_append, A1, B1]
        constructor
        · rintro (⟨s, rfl, h, hy⟩ | ⟨s, rfl, h, hy⟩)
          · exact ⟨e :: s, rfl, h, fun y hy' => by rcases List.mem_cons.1 hy' with rfl | hy'; · exact Nat.le_refl _
                                                   · have := hy y hy'; omega⟩
          · exact ⟨s, rfl, h, fun y hy' => by have := hy y hy'; omega⟩
        · rintro ⟨s, rfl, h, hy⟩
          have hlen := h.len
          rw [List.length_append] at hlen
          cases s with
          | nil => simp at hlen; omega
          | cons y s =>
            have hy0 := hy y (by simp)
            have hps := (List.pairwise_append.1 h.set.1).2.1
            rw [List.pairwise_cons] at hps
            by_cases hye : y = e
            · subst hye
              exact .inl ⟨s, rfl, h, fun z hz => hps.1 z hz⟩
            · refine .inr ⟨y :: s, rfl, h, fun z hz => ?_⟩
              rcases List.mem_cons.1 hz with rfl | hz
              · omega
              · have := hps.1 z hz; omega
      · rw [List.pairwise_append]
        refine ⟨A2, B2, fun a ha b hb => ?_⟩
        obtain ⟨s1, rfl, _, _⟩ := (A1 a).1 ha
        obtain ⟨s2, rfl, h2, hy2⟩ := (B1 b).1 hb
        have hlen := h2.len
        rw [List.length_append] at hlen
        cases s2 with
        | nil => simp at hlen; omega
        | cons y s2 =>
          have := hy2 y (by simp)
          rw [bfN_pre]
          exact bfN_cons _ _ _ _ (by omega)
    · rw [if_neg hc]
      refine ⟨fun x => ⟨fun h => by simp at h, ?_⟩, .nil⟩
      rintro ⟨s, rfl, h, hy⟩
      exfalso
      apply hc
      have h1 := (tree_of_fo (bd_pk hb h.set.2) h.fo).2 (by rw [pk_length]; exact h.len)
      rw [partsP_one (by omega)] at h1 ⊢
      intro v hv
      refine (h1 v hv).mono fun p hp => ?_
      obtain ⟨y, hy', rfl⟩ := mem_pk.1 hp
      rcases List.mem_append.1 hy' with hy' | hy'
      · exact List.mem_append_left _ (mem_pk.2 ⟨y, hy', rfl⟩)
      · refine List.mem_append_right _ ?_
        have h3 := hy y hy'
        have h4 := h.set.2 y (by simp [hy'])
        rw [List.getD_eq_getElem?_getD, List.getElem?_eq_getElem h4]
        refine List.mem_iff_getElem?.2 ⟨y - e, ?_⟩
        rw [List.getElem?_drop, show e + (y - e) = y by omega, List.getElem?_eq_getElem h4]; rfl
theorem treesT_spec (hb : BdP n E) (hn : 0 < n) : (∀ x, x ∈ treesT n E ↔ IsTr n E x) ∧ (treesT n E).Pairwise fun a b => bfN a b = true := by
  unfold treesT
  by_cases h1 : n = 1
  · rw [if_pos h1]
    refine ⟨fun x => ⟨fun h => ?_, fun h => ?_⟩, List.pairwise_singleton _ _⟩
    · rw [List.mem_singleton] at h
      subst h
      exact ⟨⟨.nil, by simp⟩, by simp; omega, trivial⟩
    · have := h.len
      have : x = [] := List.eq_nil_of_length_eq_zero (by omega)
      subst this; simp
  · rw [if_neg h1]
    obtain ⟨s1, s2⟩ := treesG_spec hb E.length [] 0 (by omega) (by simp) .nil trivial (by simp; omega)
    refine ⟨fun x => ?_, s2⟩
    rw [s1]
    constructor
    · rintro ⟨s, rfl, h, _⟩; exact h
    · intro h; exact ⟨x, rfl, h, fun y _ => Nat.zero_le _⟩
/-- All spanning trees, found among all sets. -/
def refTs (n : Nat) (E : List (Nat × Nat)) : List (List Nat) := ((List.range (2 ^ E.length)).map (bitsL E.length)).filter fun t => decide (t.length + 1 = n) && decide (partsP n (pk E t) = 1)
theorem mem_refTs (hb : BdP n E) : x ∈ refTs n E ↔ IsTr n E x := by
  unfold refTs
  rw [List.mem_filter, List.mem_map, Bool.and_eq_true, decide_eq_true_eq, decide_eq_true_eq]
  constructor
  · rintro ⟨⟨D, _, rfl⟩, h1, h2⟩
    exact (isTr_iff hb ⟨bits_asc' _ _, bits_lt⟩ h1).2 h2
  · intro h
    obtain ⟨D, hD, hx⟩ := bits_of h.set.1 h.set.2
    exact ⟨⟨D, by rw [List.mem_range]; exact hD, hx⟩, h.len, (isTr_iff hb h.set h.len).1 h⟩
theorem refTs_nodup : (refTs n E).Nodup := by
  unfold refTs
  refine List.Nodup.sublist List.filter_sublist ?_
  refine nodup_map_of ?_ List.nodup_range
  intro D hD D' hD' h
  rw [List.mem_range] at hD hD'
  exact bits_inj hD hD' h
theorem lt_irrefl_bf (a : List Nat) : bfN a a = false := by
  cases h : bfN a a
  · rfl
  · rw [bfN_as a a h] at h; cases h
theorem treesT_nodup (hb : BdP n E) (hn : 0 < n) : (treesT n E).Nodup := (treesT_spec hb hn).2.imp fun h e => by
  subst e; rw [lt_irrefl_bf] at h; cases h
/-- The stage theorem: the program's list is the reference's. -/
theorem trees_sorted (hb : BdP n E) (hn : 0 < n) : sortG bfN (refTs n E) = treesT n E := by
  obtain ⟨s1, s2⟩ := treesT_spec hb hn
  refine sorted_eq bfN_an (sortG_sorted bfN_tr bfN_as _) (s2.imp fun h => bfN_as _ _ h) ?_
  refine (sortG_perm _).trans ?_
  exact (List.perm_ext_iff_of_nodup refTs_nodup (treesT_nodup hb hn)).2 fun x => by rw [mem_refTs hb, s1]
theorem treesT_length (hb : BdP n E) (hn : 0 < n) : (treesT n E).length ≤ 2 ^ E.length := by
  rw [← trees_sorted hb hn, sortG_length]
  unfold refTs
  refine Nat.le_trans (List.length_filter_le _ _) ?_
  simp
end
end Go.Proofs.YtghigdcpinengaaGreat

/-! Package tree: given, spans, checked, Check; connect.Edges; graph.Size. -/
namespace Go.Proofs.YtghigdcpinengaaGreat
open Go.RowKit Go.Shelf
attribute [local go_sem] Oper.semAt_some

/-! What connects, by edges and by single edges. -/
theorem mem_endsL {n : Int} {es : List E3} (hok : ∀ e ∈ es, okE n e) {p : Nat × Nat} : p ∈ endsL es ↔ ∃ e ∈ es, e.1 = p.1 ∧ e.2.1 = p.2 := by
  unfold endsL
  rw [List.mem_flatMap]
  constructor
  · rintro ⟨e, he, hp⟩
    have ho := hok e he
    unfold okE at ho
    have := List.eq_of_mem_replicate hp
    subst this
    exact ⟨e, he, by simp; omega, by simp; omega⟩
  · rintro ⟨e, he, h1, h2⟩
    have ho := hok e he
    unfold okE at ho
    refine ⟨e, he, List.mem_replicate.2 ⟨by omega, ?_⟩⟩
    have e1 : e.1.toNat = p.1 := by omega
    have e2 : e.2.1.toNat = p.2 := by omega
    rw [e1, e2]
theorem bd_ends {n : Nat} {es : List E3} (hG : RightG n es) : BdP n (endsL es) := by
  intro p hp
  obtain ⟨e, he, h1, h2⟩ := (mem_endsL hG.ok).1 hp
  have ho := hG.ok e he
  unfold okE at ho
  omega
theorem conn_cn {n : Nat} {es : List E3} (hG : RightG n es) {a b : Nat} : Conn es a b ↔ Cn (endsL es) a b := by
  constructor
  · intro h
    induction h with
    | refl => exact .refl
    | step _ hs ih =>
      obtain ⟨e, he, hc⟩ := hs
      rcases hc with ⟨h1, h2⟩ | ⟨h1, h2⟩
      · exact ih.step (.inl ((mem_endsL hG.ok).2 ⟨e, he, h1, h2⟩))
      · exact ih.step (.inr ((mem_endsL hG.ok).2 ⟨e, he, h1, h2⟩))
  · intro h
    induction h with
    | refl => exact .refl
    | step _ hs ih =>
      rcases hs with hs | hs
      · obtain ⟨e, he, h1, h2⟩ := (mem_endsL hG.ok).1 hs
        exact ih.step ⟨e, he, .inl ⟨h1, h2⟩⟩
      · obtain ⟨e, he, h1, h2⟩ := (mem_endsL hG.ok).1 hs
        exact ih.step ⟨e, he, .inr ⟨h1, h2⟩⟩
theorem connB_parts {n : Nat} {es : List E3} (hG : RightG n es) : connB n es = decide (partsP n (endsL es) = 1) := by
  have := hG.lo
  rw [Bool.eq_iff_iff, connB_iff hG, decide_eq_true_eq, partsP_one (by omega)]
  unfold AllConn
  exact ⟨fun h v hv => (conn_cn hG).1 (h v hv), fun h v hv => (conn_cn hG).2 (h v hv)⟩
/-- The error of a graph that has to be connected. -/
def joinErr (n : Int) (es : List E3) : Int := if checkG n es ≠ 0 then checkG n es else if connB n.toNat es = false then 13 else 0
theorem join_zero {n : Int} {es : List E3} (h : joinErr n es = 0) : checkG n es = 0 ∧ RightG n es ∧ connB n.toNat es = true := by
  unfold joinErr at h
  by_cases hz : checkG n es = 0
  · rw [if_neg (fun hc => hc hz)] at h
    refine ⟨hz, right_of hz, ?_⟩
    cases hc : connB n.toNat es
    · rw [hc] at h; simp at h
    · rfl
  · rw [if_pos hz] at h; omega
set_option maxRecDepth 100000 in
set_option maxHeartbeats 2000000 in
theorem ends_bad (n : Int) (A : Option Addr) (c : Nat) (es : List E3) (hn : es.length ≤ 10000) (z : Int) (hz : checkG n es = z) (hz0 : z ≠ 0) (w : World) (h : Reads w w.heap.size 3 A es.length (edgeCells es)) :
    Calls Tryz.prog 103 #[.agg #[.int .i64 n, .slice A es.length c]] w fun e w' => e = .returned (.tuple #[.slice none 0 0, .int .i64 z]) ∧ Below w.heap.size w w' := by
  have GC := gcheck_any n A c es (by omega)
  rw [hz] at GC
  have GC := Lib.hid GC
  have hb : (z != 0) = true := by simpa using hz0
  clear hz hz0
  refine (callsIn_wide (n := 3)).1 ?_
  refine callsIn_of_wp_marks Tryz.func103 rfl trivial ?_
  simp only [Tryz.ntmps103, List.size_toArray, List.length_cons, List.length_nil, Nat.reduceAdd, Nat.reduceSub, Array.replicate_succ, Array.replicate_zero, List.push_toArray, List.append_toArray, List.nil_append, List.cons_append]
  gi_wp2_with fail
  refine ⟨trivial, ?_⟩
  refine (inW (GC.out _ ((h.alloc (Nat.le_refl _) _).more (by simp)))).mono ?_
  rintro e w1 ⟨rfl, hb1⟩
  have hB1 : Below w.heap.size w w1 := ((Below.refl _ _).alloc (Nat.le_refl _) _).trans (hb1.mono (by simp))
  gi_wp2
  refine end_marks [] _ trivial fun w' ho => ⟨.tuple #[.slice none 0 0, .int .i64 z], by simp [results, Tryz.results103, go_sem], rfl, ?_⟩
  exact hB1.trans (ho.below (fun k hk e => by cases e) hB1.size)

theorem Reads.pairAt {w : World} {B n : Nat} {A : Option Addr} {ps : List (Nat × Nat)} {k : Nat} {e : Nat × Nat} (h : Reads w B 2 A n (pair2 ps)) (he : ps[k]? = some e) :
    ∃ b off, A = some ⟨b, off, none⟩ ∧ b < B ∧ w.cell? ⟨b, off + k * 2, none⟩ = some (.int .i64 (e.1 : Int)) ∧ w.cell? ⟨b, off + k * 2 + 1, none⟩ = some (.int .i64 (e.2 : Int)) := by
  have at_ : ∀ (ps : List (Nat × Nat)) (k : Nat), ps[k]? = some e → (pair2 ps)[k * 2]? = some (.int .i64 (e.1 : Int)) ∧ (pair2 ps)[k * 2 + 1]? = some (.int .i64 (e.2 : Int)) := by
    intro ps
    induction ps with
    | nil => intro k hk; simp at hk
    | cons p ps ih =>
      intro k hk
      rcases k with _ | k
      · have e1 : p = e := by simpa using hk
        subst e1
        exact ⟨rfl, rfl⟩
      · obtain ⟨i1, i2⟩ := ih k (by simpa using hk)
        have e1 : pair2 (p :: ps) = .int .i64 p.1 :: .int .i64 p.2 :: pair2 ps := rfl
        rw [e1, show (k + 1) * 2 = k * 2 + 1 + 1 by omega]
        exact ⟨by simpa using i1, by simpa using i2⟩
  have hk : k < ps.length := (List.getElem?_eq_some_iff.1 he).1
  have hl := h.1
  rw [pair2_length] at hl
  obtain ⟨b, off, hA, hb, hc⟩ := h.2 (by omega)
  obtain ⟨h1, h2⟩ := at_ ps k he
  exact ⟨b, off, hA, hb, hc _ _ h1, by have := hc _ _ h2; rwa [show off + (k * 2 + 1) = off + k * 2 + 1 from by omega] at this⟩
theorem own_rebase2 {w : World} {base base' : Nat} {e : TypeId} {size : Nat} {v : Value} {n : Nat} {xs : List Value} (h : w.ownsRow base e size v n xs) (hb : base' ≤ base) : w.ownsRow base' e size v n xs := by
  obtain ⟨h1, h2⟩ := h
  refine ⟨h1, ?_⟩
  rcases h2 with h2 | ⟨g, cap, cur, hv, hg, r⟩
  · exact .inl h2
  · exact .inr ⟨g, cap, cur, hv, by omega, r⟩
theorem OwnQ.reads {w : World} {base : Nat} {A : Option Addr} {c : Nat} {ps : List (Nat × Nat)} (h : OwnQ w base A c ps) : Reads w w.heap.size 2 A ps.length (pair2 ps) := Reads.of_own h
abbrev obj12 : Obj := .cells #[.int .i64 0, .int .i64 1, .int .i64 2, .int .i64 3, .int .i64 4, .int .i64 5, .int .i64 6, .int .i64 7, .int .i64 8, .int .i64 9, .int .i64 10, .int .i64 11] 138

/-- What given and checked hand back: the ends, or the error z. -/
def GivenR (w : World) (z : Int) (E : List (Nat × Nat)) (e : Ending) (w' : World) : Prop :=
  ∃ Ar lr cr, e = .returned (.tuple #[.slice Ar lr cr, .int .i64 z]) ∧ (z = 0 → lr = E.length ∧ OwnQ w' w.heap.size Ar cr E) ∧ (z ≠ 0 → lr = 0 ∧ Ar = none) ∧ Below w.heap.size w w'
set_option maxRecDepth 100000 in
set_option maxHeartbeats 4000000 in
theorem tgiven_any (n : Int) (A : Option Addr) (c : Nat) (es : List E3) (hn : es.length ≤ 10000) (w : World) (h : Reads w w.heap.size 3 A es.length (edgeCells es)) :
    Calls Tryz.prog 76 #[.agg #[.int .i64 n, .slice A es.length c]] w fun e w' => GivenR w (joinErr n es) (endsL es) e w' := by
  have g0 := Blk.new w 24 #[.int .i64 n, .slice A es.length c]
  have hb0 : Below w.heap.size w (w.alloc (.cells #[.int .i64 n, .slice A es.length c] 24)) := (Below.refl _ _).alloc (Nat.le_refl _) _
  have c0 := g0.cell 0
  have c1 := g0.cell 1
  by_cases hz : checkG n es = 0
  · have hG := right_of hz
    have hlo := hG.lo
    have hhi := hG.hi
    obtain ⟨m, rfl⟩ := Int.eq_ofNat_of_zero_le (show 0 ≤ n by omega)
    have hm12 : m ≤ 12 := by omega
    have EC := Lib.hid (fun (W : World) (hB : Below w.heap.size w W) => ends_ok m A c es hn hz m hG.ok W ((h.below hB).more hB.size))
    have HBD := Lib.hid (bd_ends hG)
    have HJ : Hid (joinErr m es = if partsP m (endsL es) = 1 then 0 else 13) := by
      unfold Hid joinErr
      rw [if_neg (fun hc => hc hz), Int.toNat_natCast, connB_parts hG]
      by_cases hp : partsP m (endsL es) = 1
      · rw [if_pos hp, decide_eq_true hp]; simp
      · rw [if_neg hp, decide_eq_false hp]; simp
    have hel := endsL_length hG.ok
    have hpos : Hid (∀ ps, 1 ≤ partsP m ps) := fun ps => partsP_pos (by omega)
    have HP0 : Hid (partsP m [] = m) := partsP_nil m
    obtain ⟨E, hE⟩ : ∃ E, endsL es = E := ⟨_, rfl⟩
    rw [hE] at EC HBD HJ hel ⊢
    rw [HJ.out]
    obtain ⟨z, hzz⟩ : ∃ z : Int, (if partsP m E = 1 then (0 : Int) else 13) = z := ⟨_, rfl⟩
    rw [hzz]
    have HZ := Lib.hid hzz
    clear hz hG hE HJ hzz
    go_enter Tryz.func76, Tryz.ntmps76
    go_wp2_with fail
    refine (EC.out _ hb0).mono ?_
    rintro e w1 ⟨Ar, cr, rfl, HQ, hb1⟩
    have B1 := hb0.trans (hb1.mono hb0.size)
    have g1 := g0.next hb1
    have HQ : Hid (OwnQ w1 w.heap.size Ar cr E) := own_rebase2 HQ hb0.size
    clear g0 hb0 c0 c1 hb1
    go_wp2_with fail
    refine (loose_any w1).mono ?_
    rintro e w2 ⟨rfl, hb2⟩
    have g2 := (g1.next hb2).alloc obj12
    have F2 : Blk (w2.alloc obj12) w2.heap.size 138 (fcells (List.range 12)) := Blk.new w2 _ _
    have B2 : Below w1.heap.size w1 (w2.alloc obj12) := hb2.alloc hb2.size _
    have hs2 := hb2.size
    have c0 := g2.cell 0
    obtain ⟨gf, hgf⟩ : ∃ gf, w2.heap.size = gf := ⟨_, rfl⟩
    have HGF := Lib.hid hgf
    rw [hgf] at F2 hs2
    clear hb2 hgf
    go_wp2_with fail
    try rw [HGF.out]
    go_loopw [7, 9, 23] (fun p _ i wr => ∃ (k : Nat) (f : List Nat), k ≤ E.length ∧ i = .int .i64 k ∧ p = .int .i64 ((partsP m (E.take k) : Nat) : Int) ∧ Hid (FR (E.take k) f) ∧ Hid (Blk wr gf 138 (fcells f)) ∧ Hid (Below w1.heap.size w1 wr)) (fun _ _ i _ => E.length - (intOf i).toNat)
    case atStart => exact ⟨0, List.range 12, by omega, rfl, by rw [List.take_zero, HP0.out], fr_nil, F2, B2⟩
    case round =>
      obtain ⟨k, f, hk, rfl, rfl, HF, HB, HW⟩ := hrel
      clear F2 B2 g2 c0
      have hwz := HW.out.size
      by_cases hlt : k < E.length
      · obtain ⟨⟨a, b⟩, hx⟩ := get_of_lt hlt
        have hab := HBD.out _ (List.mem_of_getElem? hx)
        dsimp only at hab
        have hi : (k : Int) < (E.length : Int) := by omega
        obtain ⟨bA, oA, hA, hbA, q0, q1⟩ := ((HQ.out.reads.below HW.out)).pairAt hx
        subst hA
        have B0 := HB.out.alloc (.cells #[.int .i64 a, .int .i64 b] 63)
        have JC := Lib.hid (tjoin_any gf (E.take k) f HF.out a b (by omega) (by omega) _ B0)
        have ht := take_snoc hx
        have hpn : partsP m (E.take (k + 1)) + (if Cn (E.take k) a b then 0 else 1) = partsP m (E.take k) := by
          rw [ht]
          have hmm : ∀ p, p ∈ E.take k ++ [(a, b)] ↔ p ∈ (a, b) :: E.take k := fun p => by simp [or_comm]
          rw [partsP_congr fun _ _ => cn_same hmm]
          by_cases hc : Cn (E.take k) a b
          · rw [if_pos hc, partsP_in (p := (a, b)) hc]; rfl
          · rw [if_neg hc]; exact partsP_out (p := (a, b)) hab.1 hab.2 hc
        have hp1 := hpos.out (E.take (k + 1))
        have HBA : Hid (Below w1.heap.size w1 (wr.alloc (.cells #[.int .i64 a, .int .i64 b] 63))) := HW.out.alloc hwz _
        obtain ⟨P, hP⟩ : ∃ P, partsP m (E.take k) = P := ⟨_, rfl⟩
        obtain ⟨P', hP'⟩ : ∃ P', partsP m (E.take (k + 1)) = P' := ⟨_, rfl⟩
        rw [hP, hP'] at hpn
        rw [hP'] at hp1
        rw [hP]
        have hP12 : Hid (P ≤ 12) := by rw [← hP]; show (List.filter _ _).length ≤ 12; exact Nat.le_trans (List.length_filter_le _ _) (by simpa using hm12)
        have HT := Lib.hid ht
        have HP' := Lib.hid hP'
        have hgf1 : Hid (w1.heap.size ≤ gf) := hs2
        clear hx hP hP' ht
        by_cases hc : Cn (E.take k) a b
        · rw [decide_eq_true hc] at JC
          rw [if_pos hc] at hpn
          have HN := Lib.hid hpn
          clear hc hpn
          go_wp2_with (go_at_call 105; (with_reducible refine (JC.out).mono ?_); rintro e w5 ⟨rfl, f', HF', HB', ho⟩)
          have HW5 := Lib.hid (HBA.out.trans (ho.below (fun j hj e => by have := hgf1.out; omega) HBA.out.size))
          go_roundw
          case rel => exact ⟨k + 1, f', by omega, by go_num, by have := HN.out; rw [HP'.out]; congr 1; omega, by rw [Hid, HT.out]; exact HF'.out, HB', HW5⟩
          case measure => simp [intOf]; omega
        · rw [decide_eq_false hc] at JC
          rw [if_neg hc] at hpn
          have hwp : IntKind.i64.wrap ((P : Int) - 1) = (P : Int) - 1 := IntWalk.i64_in _ (by have := hP12.out; omega)
          have HN := Lib.hid hpn
          clear hc hpn
          go_wp2_with (go_at_call 105; (with_reducible refine (JC.out).mono ?_); rintro e w5 ⟨rfl, f', HF', HB', ho⟩)
          have HW5 := Lib.hid (HBA.out.trans (ho.below (fun j hj e => by have := hgf1.out; omega) HBA.out.size))
          go_roundw
          case rel => exact ⟨k + 1, f', by omega, by go_num, by have := HN.out; rw [HP'.out]; congr 1; omega, by rw [Hid, HT.out]; exact HF'.out, HB', HW5⟩
          case measure => simp [intOf]; omega
      · obtain rfl : k = E.length := by omega
        rw [List.take_length] at HF ⊢
        have hp1 := hpos.out E
        have BW := Lib.hid (B1.trans (HW.out.mono B1.size))
        have HQ2 : Hid (OwnQ wr w.heap.size Ar cr E) := own_kept2 HQ.out fun j hj => HW.out.block j (World.ownsRow.lt HQ.out j (blockOf_own.2 hj)).2
        obtain ⟨P, hP⟩ : ∃ P, partsP m E = P := ⟨_, rfl⟩
        rw [hP] at hp1 ⊢
        have HP := Lib.hid hP
        clear hP
        by_cases hone : P = 1
        · have HI : Hid (z = 0) := by rw [Hid, ← HZ.out]; exact if_pos (HP.out.trans hone)
          subst hone
          have hg : ¬ (1 : Int) < ((1 : Nat) : Int) := by omega
          go_wp2
          go_ret2
          exact ⟨Ar, _, cr, by rw [HI.out]; rfl, fun _ => ⟨rfl, HQ2.out⟩, fun h => absurd HI.out h, BW.out⟩
        · have hg : (1 : Int) < (P : Int) := by omega
          have hi1 : z = 13 := by rw [← HZ.out]; exact if_neg (fun hc => hone (HP.out.symm.trans hc))
          have hgn : 1 < P := by omega
          have hgd : decide ((1 : Int) < (P : Int)) = true := decide_eq_true hg
          have hge : decide (1 < P) = true := decide_eq_true hgn
          have HI := Lib.hid hi1
          clear hone HZ hi1
          go_wp2
          go_ret2
          refine ⟨none, 0, 0, ?_, ?_, fun _ => ⟨rfl, rfl⟩, BW.out⟩
          · rw [HI.out]; rfl
          · intro h; rw [HI.out] at h; omega
  · have hj : joinErr n es = checkG n es := by unfold joinErr; rw [if_pos hz]
    rw [hj]
    obtain ⟨z, hzz⟩ : ∃ z, checkG n es = z := ⟨_, rfl⟩
    have EC := Lib.hid (ends_bad n A c es hn z hzz (by rw [← hzz]; exact hz) _ ((h.below hb0).more hb0.size))
    rw [hzz] at hz ⊢
    have hb : (z != 0) = true := by simpa using hz
    have HZ := Lib.hid hz
    clear hz hzz hj
    go_enter Tryz.func76, Tryz.ntmps76
    go_wp2_with fail
    refine (EC.out).mono ?_
    rintro e w1 ⟨rfl, hb1⟩
    go_wp2
    go_ret2
    exact ⟨none, 0, 0, rfl, fun h => absurd h HZ.out, fun _ => ⟨rfl, rfl⟩, hb0.trans (hb1.mono hb0.size)⟩
end Go.Proofs.YtghigdcpinengaaGreat

