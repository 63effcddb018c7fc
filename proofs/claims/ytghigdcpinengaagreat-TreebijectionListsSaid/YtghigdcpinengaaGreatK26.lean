/-
  Texts of this claim, put together: ValP, Val, RJoins, RCatch.
-/
import Derived.Test.YtghigdcpinengaaGreatK21
import Derived.Test.YtghigdcpinengaaGreatK09
import Derived.Test.YtghigdcpinengaaGreatK10
import Derived.BigQuiet
import Derived.Deep.RegionHeld3
/-! Plain: how many single edges lead from a vertex to others, and to marked ones; by edges and by vertices. -/
namespace Go.Proofs.YtghigdcpinengaaGreat

/-- What an edge gives. -/
def valT (v : Int) (e : Int × Int × Int) : Int := if e.1 ≠ e.2.1 ∧ (e.1 = v ∨ e.2.1 = v) then e.2.2 else 0
def valE (es : List (Int × Int × Int)) (v : Int) : Int := (es.map (valT v)).sum
def jnT (l : List Nat) (v : Int) (e : Int × Int × Int) : Int := if e.1 ≠ e.2.1 ∧ ((e.1 = v ∧ e.2.1.toNat ∈ l) ∨ (e.2.1 = v ∧ e.1.toNat ∈ l)) then e.2.2 else 0
def jnE (es : List (Int × Int × Int)) (l : List Nat) (v : Int) : Int := (es.map (jnT l v)).sum
theorem valE_snoc {es : List (Int × Int × Int)} {k : Nat} {e : Int × Int × Int} (h : es[k]? = some e) (v : Int) : valE (es.take (k + 1)) v = valE (es.take k) v + valT v e := by
  rw [List.take_add_one, h]; simp [valE]
theorem jnE_snoc {es : List (Int × Int × Int)} {k : Nat} {e : Int × Int × Int} (h : es[k]? = some e) (l : List Nat) (v : Int) : jnE (es.take (k + 1)) l v = jnE (es.take k) l v + jnT l v e := by
  rw [List.take_add_one, h]; simp [jnE]
theorem valT_bd {n : Int} {e : Int × Int × Int} (h : okE n e) (v : Int) : 0 ≤ valT v e ∧ valT v e ≤ 50 := by
  unfold okE at h; unfold valT; split <;> omega
theorem jnT_bd {n : Int} {e : Int × Int × Int} (h : okE n e) (l : List Nat) (v : Int) : 0 ≤ jnT l v e ∧ jnT l v e ≤ 50 := by
  unfold okE at h; unfold jnT; split <;> omega
theorem valE_bd {n : Int} {es : List (Int × Int × Int)} (h : ∀ e ∈ es, okE n e) (v : Int) : 0 ≤ valE es v ∧ valE es v ≤ 50 * es.length := by
  induction es with
  | nil => simp [valE]
  | cons e es ih =>
    have h1 := ih fun x hx => h x (by simp [hx])
    have h2 := valT_bd (h e (by simp)) v
    simp only [valE, List.map_cons, List.sum_cons, List.length_cons] at *
    omega
theorem jnE_bd {n : Int} {es : List (Int × Int × Int)} (h : ∀ e ∈ es, okE n e) (l : List Nat) (v : Int) : 0 ≤ jnE es l v ∧ jnE es l v ≤ 50 * es.length := by
  induction es with
  | nil => simp [jnE]
  | cons e es ih =>
    have h1 := ih fun x hx => h x (by simp [hx])
    have h2 := jnT_bd (h e (by simp)) l v
    simp only [jnE, List.map_cons, List.sum_cons, List.length_cons] at *
    omega
/-- The sum over the vertices below k that are in the list. -/
theorem flmTo_append {n : Int} {es fs : List (Int × Int × Int)} (h : (es ++ fs).Pairwise ltE) (hok : ∀ e ∈ es, okE n e) (l : List Nat) (v k : Nat) : flmTo (es ++ fs) l v k = flmTo es l v k + flmTo fs l v k := by
  induction k with
  | zero => rfl
  | succ k ih =>
    simp only [flmTo]
    rw [ih, tt_append h hok]
    split <;> omega
theorem flmTo_one {n : Nat} {e : Int × Int × Int} (hok : okE n e) (l : List Nat) (v k : Nat) : flmTo [e] l v k = if e.1 ≠ e.2.1 ∧ ((e.1 = v ∧ e.2.1.toNat ∈ l ∧ e.2.1.toNat < k) ∨ (e.2.1 = v ∧ e.1.toNat ∈ l ∧ e.1.toNat < k)) then e.2.2 else 0 := by
  unfold okE at hok
  induction k with
  | zero => simp [flmTo]
  | succ k ih =>
    simp only [flmTo]
    rw [ih]
    have ht : tt [e] v k = if e.1 ≠ e.2.1 ∧ ((e.1 = v ∧ e.2.1.toNat = k) ∨ (e.2.1 = v ∧ e.1.toNat = k)) then e.2.2 else 0 := by
      unfold tt
      rw [btw_cons, btw_nil]
      by_cases hvk : v = k
      · subst hvk
        rw [if_pos rfl, if_neg (by omega)]
      · rw [if_neg hvk]
        by_cases h2 : e.1 = min (v : Int) (k : Int) ∧ e.2.1 = max (v : Int) (k : Int)
        · rw [if_pos h2, if_pos (by omega)]
        · rw [if_neg h2, if_neg (by omega)]
    rw [ht]
    by_cases hk : k ∈ l
    · rw [if_pos hk]
      by_cases h1 : e.1 ≠ e.2.1 ∧ ((e.1 = v ∧ e.2.1.toNat ∈ l ∧ e.2.1.toNat < k) ∨ (e.2.1 = v ∧ e.1.toNat ∈ l ∧ e.1.toNat < k))
      · rw [if_pos h1, if_neg (by omega), if_pos (match h1 with | ⟨h0, .inl ⟨h2, h3, h4⟩⟩ => ⟨h0, .inl ⟨h2, h3, by omega⟩⟩ | ⟨h0, .inr ⟨h2, h3, h4⟩⟩ => ⟨h0, .inr ⟨h2, h3, by omega⟩⟩)]
        omega
      · rw [if_neg h1]
        by_cases h5 : e.1 ≠ e.2.1 ∧ ((e.1 = v ∧ e.2.1.toNat = k) ∨ (e.2.1 = v ∧ e.1.toNat = k))
        · rw [if_pos h5, if_pos (match h5 with | ⟨h0, .inl ⟨h2, h3⟩⟩ => ⟨h0, .inl ⟨h2, by rw [h3]; exact hk, by omega⟩⟩ | ⟨h0, .inr ⟨h2, h3⟩⟩ => ⟨h0, .inr ⟨h2, by rw [h3]; exact hk, by omega⟩⟩)]
          omega
        · rw [if_neg h5, if_neg (fun ⟨h0, h6⟩ => by
            rcases h6 with ⟨h2, h3, h4⟩ | ⟨h2, h3, h4⟩
            · rcases Nat.lt_or_ge e.2.1.toNat k with h7 | h7
              · exact h1 ⟨h0, .inl ⟨h2, h3, h7⟩⟩
              · exact h5 ⟨h0, .inl ⟨h2, by omega⟩⟩
            · rcases Nat.lt_or_ge e.1.toNat k with h7 | h7
              · exact h1 ⟨h0, .inr ⟨h2, h3, h7⟩⟩
              · exact h5 ⟨h0, .inr ⟨h2, by omega⟩⟩)]
          omega
    · rw [if_neg hk]
      have : (e.1 ≠ e.2.1 ∧ ((e.1 = v ∧ e.2.1.toNat ∈ l ∧ e.2.1.toNat < k + 1) ∨ (e.2.1 = v ∧ e.1.toNat ∈ l ∧ e.1.toNat < k + 1))) ↔ (e.1 ≠ e.2.1 ∧ ((e.1 = v ∧ e.2.1.toNat ∈ l ∧ e.2.1.toNat < k) ∨ (e.2.1 = v ∧ e.1.toNat ∈ l ∧ e.1.toNat < k))) := by
        constructor
        · rintro ⟨h0, ⟨h2, h3, h4⟩ | ⟨h2, h3, h4⟩⟩
          · refine ⟨h0, .inl ⟨h2, h3, ?_⟩⟩
            rcases Nat.lt_or_ge e.2.1.toNat k with h7 | h7
            · exact h7
            · rw [show e.2.1.toNat = k by omega] at h3; exact absurd h3 hk
          · refine ⟨h0, .inr ⟨h2, h3, ?_⟩⟩
            rcases Nat.lt_or_ge e.1.toNat k with h7 | h7
            · exact h7
            · rw [show e.1.toNat = k by omega] at h3; exact absurd h3 hk
        · rintro ⟨h0, ⟨h2, h3, h4⟩ | ⟨h2, h3, h4⟩⟩
          · exact ⟨h0, .inl ⟨h2, h3, by omega⟩⟩
          · exact ⟨h0, .inr ⟨h2, h3, by omega⟩⟩
      simp only [this]
      omega
theorem jnE_flm {n : Nat} {es : List (Int × Int × Int)} (h : RightG n es) (l : List Nat) (v : Nat) : jnE es l v = flmTo es l v n := by
  have hs := h.sorted
  have hok := h.ok
  clear h
  induction es using snocRec with
  | h0 =>
    have : ∀ k, flmTo [] l v k = 0 := fun k => by
      induction k with
      | zero => rfl
      | succ k ih => simp only [flmTo]; rw [ih]; simp [tt, btw]
    rw [this]; rfl
  | h1 es e ih =>
    have hs1 : es.Pairwise ltE := (List.pairwise_append.1 hs).1
    have ho1 : ∀ x ∈ es, okE n x := fun x hx => hok x (by simp [hx])
    have hoe := hok e (by simp)
    rw [flmTo_append hs ho1, ← ih hs1 ho1, flmTo_one hoe]
    unfold jnE
    rw [List.map_append, List.sum_append]
    simp only [List.map_cons, List.map_nil, List.sum_cons, List.sum_nil, Int.add_zero]
    congr 1
    unfold jnT
    unfold okE at hoe
    have : (e.1 ≠ e.2.1 ∧ ((e.1 = (v : Int) ∧ e.2.1.toNat ∈ l) ∨ (e.2.1 = (v : Int) ∧ e.1.toNat ∈ l))) ↔ (e.1 ≠ e.2.1 ∧ ((e.1 = (v : Int) ∧ e.2.1.toNat ∈ l ∧ e.2.1.toNat < n) ∨ (e.2.1 = (v : Int) ∧ e.1.toNat ∈ l ∧ e.1.toNat < n))) := by
      constructor
      · rintro ⟨h0, ⟨h2, h3⟩ | ⟨h2, h3⟩⟩
        · exact ⟨h0, .inl ⟨h2, h3, by omega⟩⟩
        · exact ⟨h0, .inr ⟨h2, h3, by omega⟩⟩
      · rintro ⟨h0, ⟨h2, h3, _⟩ | ⟨h2, h3, _⟩⟩
        · exact ⟨h0, .inl ⟨h2, h3⟩⟩
        · exact ⟨h0, .inr ⟨h2, h3⟩⟩
    simp only [this]
theorem valE_jn {n : Nat} {es : List (Int × Int × Int)} (hok : ∀ e ∈ es, okE n e) (v : Int) : valE es v = jnE es (List.range n) v := by
  induction es with
  | nil => rfl
  | cons e es ih =>
    have h1 := ih fun x hx => hok x (by simp [hx])
    have h2 := hok e (by simp)
    unfold okE at h2
    unfold valE jnE at *
    simp only [List.map_cons, List.sum_cons]
    rw [h1]
    congr 1
    unfold valT jnT
    have : (e.1 ≠ e.2.1 ∧ (e.1 = v ∨ e.2.1 = v)) ↔ (e.1 ≠ e.2.1 ∧ ((e.1 = v ∧ e.2.1.toNat ∈ List.range n) ∨ (e.2.1 = v ∧ e.1.toNat ∈ List.range n))) := by
      simp only [List.mem_range]
      constructor
      · rintro ⟨h0, h | h⟩
        · exact ⟨h0, .inl ⟨h, by omega⟩⟩
        · exact ⟨h0, .inr ⟨h, by omega⟩⟩
      · rintro ⟨h0, ⟨h, _⟩ | ⟨h, _⟩⟩
        · exact ⟨h0, .inl h⟩
        · exact ⟨h0, .inr h⟩
    simp only [this]
end Go.Proofs.YtghigdcpinengaaGreat

/-! graph.Valence; package recurrent: joins, valence, stable, catches. -/
namespace Go.Proofs.YtghigdcpinengaaGreat
open Go.RowKit

set_option maxHeartbeats 2000000 in
theorem gat_ok (n : Int) (A : Option Addr) (c : Nat) (es : List E3) (hn : es.length ≤ 1048576) (hz : checkG n es = 0) (v : Int) (hv : vertB n v = true) (g : Nat) (w : World) (hg : Blk w g 3 #[.int .i64 v]) (h : Reads w w.heap.size 3 A es.length (edgeCells es)) :
    Calls Tryz.prog 187 #[.agg #[.int .i64 n, .slice A es.length c], .slice (some ⟨g, 0, none⟩) 1 1] w fun e w' => e = .returned (.int .i64 0) ∧ Below w.heap.size w w' := by
  have GC := gcheck_any n A c es hn
  rw [hz] at GC
  have GC := Lib.hid GC
  have HV := Lib.hid hv
  have g0 := Blk.new w 24 #[.int .i64 n, .slice A es.length c]
  have c0 := g0.cell 0
  have c1 := g0.cell 1
  clear hz hv
  go_enter Tryz.func187, Tryz.ntmps187
  go_wp2_with fail
  refine (GC.out _ ((h.alloc (Nat.le_refl _) _).more (by simp))).mono ?_
  rintro e w1 ⟨rfl, hb1⟩
  have hB1 : Below w.heap.size w w1 := ((Below.refl _ _).alloc (Nat.le_refl _) _).trans (hb1.mono (by simp))
  have g1 := g0.next hb1
  have d0 := g1.cell 0
  have hgc := (hg.below hB1 hg.lt).cell 0
  clear g0 c0 c1
  go_wp2_with fail
  go_loop [7, 15] (fun _ i => i = .int .i64 0 ∨ i = .int .i64 1) (fun _ i => 1 - (intOf i).toNat)
  case atStart => exact .inl rfl
  case round =>
    rcases hrel with rfl | rfl
    · have VC := Lib.hid (vertex_any n v)
      rw [HV.out] at VC
      go_wp2_with (go_at_call 148; refine (VC.out _).mono ?_; rintro e w2 ⟨rfl, rfl⟩)
      go_round
      case rel => exact .inr (by go_num)
      case measure => simp [intOf]
    · go_wp2
      go_ret
      exact ⟨rfl, hB1⟩

set_option maxRecDepth 100000 in
set_option maxHeartbeats 4000000 in
theorem gvalence_ok (n : Nat) (A : Option Addr) (c : Nat) (es : List E3) (hn : es.length ≤ 10000) (hz : checkG n es = 0) (v : Nat) (hv : v < n) (w : World) (h : Reads w w.heap.size 3 A es.length (edgeCells es)) :
    Calls Tryz.prog 166 #[.agg #[.int .i64 n, .slice A es.length c], .int .i64 v] w fun e w' => e = .returned (.tuple #[.int .i64 (valE es v), .int .i64 0]) ∧ Below w.heap.size w w' := by
  have hok := (right_of hz).ok
  have GA := Lib.hid (gat_ok n A c es (by omega) hz v (vertB_true.2 (by omega)))
  have HOK := Lib.hid hok
  have hvb := valE_bd hok
  have HVB := Lib.hid (fun k => valE_bd (es := es.take k) (fun e he => hok e (List.mem_of_mem_take he)) v)
  have g0 := Blk.new w 24 #[.int .i64 n, .slice A es.length c]
  have c0 := g0.cell 0
  have c1 := g0.cell 1
  have c0' := (g0.alloc (.cells #[.int .i64 v] 3)).cell 0
  have c1' := (g0.alloc (.cells #[.int .i64 v] 3)).cell 1
  clear hz hok hvb
  go_enter Tryz.func166, Tryz.ntmps166
  go_wp2_with fail
  refine (GA.out (w.heap.size + 1) _ ((by have := Blk.new (w.alloc (.cells #[.int .i64 n, .slice A es.length c] 24)) 3 #[.int .i64 v]; simpa using this)) ((((h.alloc (Nat.le_refl _) _).more (by simp)).alloc (Nat.le_refl _) _).more (by simp))).mono ?_
  rintro e w1 ⟨rfl, hb1⟩
  have hB1 : Below w.heap.size w w1 := (((Below.refl _ _).alloc (Nat.le_refl _) _).alloc (by simp) _).trans (hb1.mono (by simp; omega))
  have g1 := (g0.alloc (.cells #[.int .i64 v] 3)).next hb1
  have d1 := g1.cell 1
  clear g0 c0 c1 c0' c1' hb1
  go_wp2_with fail
  go_loopw [7, 20] (fun s i wl => ∃ (k : Nat), i = .int .i64 k ∧ s = .int .i64 (valE (es.take k) v) ∧ k ≤ es.length ∧ Below w.heap.size w wl) (fun _ i _ => es.length - (intOf i).toNat)
  case atStart => exact ⟨0, rfl, rfl, by omega, hB1⟩
  case round =>
    obtain ⟨k, rfl, rfl, hk, hbel⟩ := hrel
    clear hB1 g1 d1
    by_cases hlt : k < es.length
    · obtain ⟨⟨x, y, m⟩, hx⟩ := get_of_lt hlt
      have hok := HOK.out _ (List.mem_of_getElem? hx)
      unfold okE at hok
      dsimp only at hok
      have hi : (k : Int) < (es.length : Int) := by omega
      obtain ⟨b, off, hA, hbb, q1, q2, q3⟩ := (h.below hbel).edge hx
      subst hA
      dsimp only at q1 q2 q3
      have e3 := Blk.new wr 104 #[.int .i64 x, .int .i64 y, .int .i64 m]
      have p0 := e3.cell 0
      have p1 := e3.cell 1
      have p2 := e3.cell 2
      have hs := valE_snoc hx v
      unfold valT at hs
      dsimp only at hs
      have hb0 := HVB.out k
      have hb2 := hbel.alloc hbel.size (.cells #[.int .i64 x, .int .i64 y, .int .i64 m] 104)
      have htl : (es.take k).length ≤ 10000 := by rw [List.length_take]; omega
      obtain ⟨S, hS⟩ : ∃ S, valE (es.take k) v = S := ⟨_, rfl⟩
      rw [hS] at hb0 hs ⊢
      clear hS hx
      have hw : IntKind.i64.wrap (S + m) = S + m := IntWalk.i64_in _ (by omega)
      by_cases hxy : x = y
      · have n1 : (x != y) = false := by simp [hxy]
        rw [if_neg (fun h => h.1 hxy)] at hs
        have HS := Lib.hid hs
        clear hs hxy
        go_wp2
        go_roundw
        case rel => exact ⟨k + 1, by go_num, by rw [HS.out, Int.add_zero], by omega, hb2⟩
        case measure => simp [intOf]; omega
      · have n1 : (x != y) = true := by simpa using hxy
        by_cases hxv : x = (v : Int)
        · have n2 : (x == (v : Int)) = true := by simpa using hxv
          rw [if_pos ⟨hxy, .inl hxv⟩] at hs
          have HS := Lib.hid hs
          clear hs hxy hxv
          go_wp2
          go_roundw
          case rel => exact ⟨k + 1, by go_num, by rw [HS.out], by omega, hb2⟩
          case measure => simp [intOf]; omega
        · have n2 : (x == (v : Int)) = false := by simpa using hxv
          by_cases hyv : y = (v : Int)
          · have n3 : (y == (v : Int)) = true := by simpa using hyv
            rw [if_pos ⟨hxy, .inr hyv⟩] at hs
            have HS := Lib.hid hs
            clear hs hxy hxv hyv
            go_wp2
            go_roundw
            case rel => exact ⟨k + 1, by go_num, by rw [HS.out], by omega, hb2⟩
            case measure => simp [intOf]; omega
          · have n3 : (y == (v : Int)) = false := by simpa using hyv
            rw [if_neg (fun h => h.2.elim hxv hyv)] at hs
            have HS := Lib.hid hs
            clear hs hxy hxv hyv
            go_wp2
            go_roundw
            case rel => exact ⟨k + 1, by go_num, by rw [HS.out, Int.add_zero], by omega, hb2⟩
            case measure => simp [intOf]; omega
    · obtain rfl : k = es.length := by omega
      rw [List.take_length]
      go_wp2
      go_ret2
      exact ⟨rfl, hbel⟩
end Go.Proofs.YtghigdcpinengaaGreat

/-! Package recurrent: joins, valence, catches, stable. -/
namespace Go.Proofs.YtghigdcpinengaaGreat
open Go.RowKit

/-- The marks of a list of vertices. -/
def marks (n : Nat) (l : List Nat) : List Bool := (List.range n).map fun u => decide (u ∈ l)
theorem marks_length (n : Nat) (l : List Nat) : (marks n l).length = n := by simp [marks]
theorem marks_get {n u : Nat} (h : u < n) (l : List Nat) : (marks n l)[u]? = some (decide (u ∈ l)) := by simp [marks, h]
theorem marks_set {n u : Nat} (h : u < n) (l : List Nat) : (marks n l).set u true = marks n (l ++ [u]) := by
  apply List.ext_getElem?
  intro i
  by_cases hi : i < n
  · by_cases e : i = u
    · subst e
      rw [List.getElem?_set_self (by rw [marks_length]; exact hi), marks_get hi]; simp
    · rw [List.getElem?_set_ne (fun e' => e e'.symm), marks_get hi, marks_get hi]; simp [e]
  · rw [List.getElem?_eq_none (by simp [marks_length]; omega), List.getElem?_eq_none (by simp [marks_length]; omega)]
/-- The configuration as the program hands it on. -/
def pileV (n : Nat) (A : Option Addr) (m c : Nat) (q : Int) (B : Option Addr) (k d : Nat) : Value := .agg #[.int .i64 n, .slice A m c, .int .i64 q, .slice B k d]
def pileC (n : Nat) (A : Option Addr) (m c : Nat) (q : Int) (B : Option Addr) (k d : Nat) : Array Value := #[.int .i64 n, .slice A m c, .int .i64 q, .slice B k d]

set_option maxRecDepth 100000 in
set_option maxHeartbeats 8000000 in
theorem rjoins_any (n : Nat) (A : Option Addr) (c : Nat) (es : List E3) (hn : es.length ≤ 10000) (hok : ∀ e ∈ es, okE n e) (q : Int) (B : Option Addr) (kB dB : Nat) (v : Nat) (g : Nat) (l : List Nat) (w : World)
    (h : Reads w w.heap.size 3 A es.length (edgeCells es)) (hm : Blk w g 4 (bools (marks n l))) :
    Calls Tryz.prog 167 #[pileV n A es.length c q B kB dB, .int .i64 v, .slice (some ⟨g, 0, none⟩) n n] w fun e w' => e = .returned (.int .i64 (jnE es l v)) ∧ Below w.heap.size w w' := by
  have HOK := Lib.hid hok
  have HVB := Lib.hid (fun k => jnE_bd (es := es.take k) (fun e he => hok e (List.mem_of_mem_take he)) l v)
  have g0 := Blk.new w 117 (pileC n A es.length c q B kB dB)
  have c1 := g0.cell 1
  have hgl := hm.lt
  simp only [pileC] at c1 g0
  clear hok
  unfold pileV
  go_enter Tryz.func167, Tryz.ntmps167
  go_wp2_with fail
  go_loopw [7, 14] (fun s i wl => ∃ (k : Nat), i = .int .i64 k ∧ s = .int .i64 (jnE (es.take k) l v) ∧ k ≤ es.length ∧ Below w.heap.size w wl) (fun _ i _ => es.length - (intOf i).toNat)
  case atStart => exact ⟨0, rfl, rfl, by omega, (Below.refl _ _).alloc (Nat.le_refl _) _⟩
  case round =>
    obtain ⟨k, rfl, rfl, hk, hbel⟩ := hrel
    clear g0 c1
    by_cases hlt : k < es.length
    · obtain ⟨⟨x, y, m⟩, hx⟩ := get_of_lt hlt
      have hok := HOK.out _ (List.mem_of_getElem? hx)
      unfold okE at hok
      dsimp only at hok
      obtain ⟨a, rfl⟩ := Int.eq_ofNat_of_zero_le (show 0 ≤ x by omega)
      obtain ⟨b, rfl⟩ := Int.eq_ofNat_of_zero_le (show 0 ≤ y by omega)
      have hi : (k : Int) < (es.length : Int) := by omega
      obtain ⟨bE, off, hA, hbb, q1, q2, q3⟩ := (h.below hbel).edge hx
      subst hA
      dsimp only at q1 q2 q3
      have e3 := Blk.new wr 104 #[.int .i64 a, .int .i64 b, .int .i64 m]
      have p0 := e3.cell 0
      have p1 := e3.cell 1
      have p2 := e3.cell 2
      have hm2 := (hm.below hbel hgl).alloc (.cells #[.int .i64 a, .int .i64 b, .int .i64 m] 104)
      have ma := (hm2.cell a).trans (bools_get (marks_get (by omega) l))
      have mb := (hm2.cell b).trans (bools_get (marks_get (by omega) l))
      have ia : (a : Int) < (n : Int) := by omega
      have ib : (b : Int) < (n : Int) := by omega
      have hs := jnE_snoc hx l v
      unfold jnT at hs
      simp only [Int.toNat_natCast] at hs
      have hb0 := HVB.out k
      have hb2 := hbel.alloc hbel.size (.cells #[.int .i64 a, .int .i64 b, .int .i64 m] 104)
      have htl : (es.take k).length ≤ 10000 := by rw [List.length_take]; omega
      obtain ⟨S, hS⟩ : ∃ S, jnE (es.take k) l v = S := ⟨_, rfl⟩
      rw [hS] at hb0 hs ⊢
      clear hS hx
      have hw : IntKind.i64.wrap (S + m) = S + m := IntWalk.i64_in _ (by omega)
      by_cases hxy : (a : Int) = (b : Int)
      · have n1 : ((a : Int) != (b : Int)) = false := by simp [hxy]
        rw [if_neg (fun h => h.1 hxy)] at hs
        have HS := Lib.hid hs
        clear hs hxy ma mb
        go_wp2
        go_roundw
        case rel => exact ⟨k + 1, by go_num, by rw [HS.out, Int.add_zero], by omega, hb2⟩
        case measure => simp [intOf]; omega
      · have n1 : ((a : Int) != (b : Int)) = true := by simp at hxy ⊢; omega
        by_cases hxv : (a : Int) = (v : Int)
        · have n2 : ((a : Int) == (v : Int)) = true := by simpa using hxv
          have n3 : ((b : Int) == (v : Int)) = false := by simp; omega
          by_cases hbl : b ∈ l
          · rw [if_pos ⟨hxy, .inl ⟨hxv, hbl⟩⟩] at hs
            rw [decide_eq_true hbl] at mb
            have HS := Lib.hid hs
            clear hs hxy hxv hbl ma
            go_wp2
            go_roundw
            case rel => exact ⟨k + 1, by go_num, by rw [HS.out], by omega, hb2⟩
            case measure => simp [intOf]; omega
          · rw [if_neg (fun h => h.2.elim (fun h => hbl h.2) (fun h => by omega))] at hs
            rw [decide_eq_false hbl] at mb
            have HS := Lib.hid hs
            clear hs hxy hxv hbl ma
            go_wp2
            go_roundw
            case rel => exact ⟨k + 1, by go_num, by rw [HS.out, Int.add_zero], by omega, hb2⟩
            case measure => simp [intOf]; omega
        · have n2 : ((a : Int) == (v : Int)) = false := by simpa using hxv
          by_cases hyv : (b : Int) = (v : Int)
          · have n3 : ((b : Int) == (v : Int)) = true := by simpa using hyv
            by_cases hal : a ∈ l
            · rw [if_pos ⟨hxy, .inr ⟨hyv, hal⟩⟩] at hs
              rw [decide_eq_true hal] at ma
              have HS := Lib.hid hs
              clear hs hxy hxv hyv hal mb
              go_wp2
              go_roundw
              case rel => exact ⟨k + 1, by go_num, by rw [HS.out], by omega, hb2⟩
              case measure => simp [intOf]; omega
            · rw [if_neg (fun h => h.2.elim (fun h => hxv h.1) (fun h => hal h.2))] at hs
              rw [decide_eq_false hal] at ma
              have HS := Lib.hid hs
              clear hs hxy hxv hyv hal mb
              go_wp2
              go_roundw
              case rel => exact ⟨k + 1, by go_num, by rw [HS.out, Int.add_zero], by omega, hb2⟩
              case measure => simp [intOf]; omega
          · have n3 : ((b : Int) == (v : Int)) = false := by simpa using hyv
            rw [if_neg (fun h => h.2.elim (fun h => hxv h.1) (fun h => hyv h.1))] at hs
            have HS := Lib.hid hs
            clear hs hxy hxv hyv ma mb
            go_wp2
            go_roundw
            case rel => exact ⟨k + 1, by go_num, by rw [HS.out, Int.add_zero], by omega, hb2⟩
            case measure => simp [intOf]; omega
    · obtain rfl : k = es.length := by omega
      rw [List.take_length]
      go_wp2
      go_ret
      exact ⟨rfl, hbel⟩
set_option maxRecDepth 100000 in
set_option maxHeartbeats 2000000 in
theorem rvalence_any (n : Nat) (A : Option Addr) (c : Nat) (es : List E3) (hn : es.length ≤ 10000) (hz : checkG n es = 0) (q : Int) (B : Option Addr) (kB dB : Nat) (v : Nat) (hv : v < n) (w : World) (h : Reads w w.heap.size 3 A es.length (edgeCells es)) :
    Calls Tryz.prog 153 #[pileV n A es.length c q B kB dB, .int .i64 v] w fun e w' => e = .returned (.int .i64 (valE es v)) ∧ Below w.heap.size w w' := by
  have GV := Lib.hid (gvalence_ok n A c es hn hz v hv)
  have g0 := Blk.new w 117 (pileC n A es.length c q B kB dB)
  have c0 := g0.cell 0
  have c1 := g0.cell 1
  simp only [pileC] at c0 c1
  have hB : Below w.heap.size w (w.alloc (.cells (pileC n A es.length c q B kB dB) 117)) := (Below.refl _ _).alloc (Nat.le_refl _) _
  clear hz g0
  unfold pileV
  simp only [pileC] at hB
  go_enter Tryz.func153, Tryz.ntmps153
  go_wp2_with fail
  refine (GV.out _ ((h.alloc (Nat.le_refl _) _).more (by simp))).mono ?_
  rintro e w1 ⟨rfl, hb1⟩
  go_wp2
  go_ret
  exact ⟨rfl, hB.trans (hb1.mono (by simp))⟩
end Go.Proofs.YtghigdcpinengaaGreat

/-! Package recurrent: catches, stable. -/
namespace Go.Proofs.YtghigdcpinengaaGreat
open Go.RowKit

def catchB (es : List E3) (cs : List Int) (l : List Nat) (v : Nat) : Bool := decide (valE es v ≤ cs.getD v 0 + jnE es l v)
/-- Is no vertex below k but the sink unstable? -/
def stabTo (es : List E3) (cs : List Int) (q : Nat) (k : Nat) : Bool := (List.range k).all fun v => decide (v = q) || decide (cs.getD v 0 < valE es v)
theorem stabTo_succ (es : List E3) (cs : List Int) (q k : Nat) : stabTo es cs q (k + 1) = (stabTo es cs q k && (decide (k = q) || decide (cs.getD k 0 < valE es k))) := by simp [stabTo, List.range_succ]
theorem stabTo_false {es : List E3} {cs : List Int} {q k n : Nat} (hk : k < n) (hq : k ≠ q) (h : valE es k ≤ cs.getD k 0) : stabTo es cs q n = false := by
  unfold stabTo
  rw [List.all_eq_false]
  refine ⟨k, by simpa using hk, ?_⟩
  rw [decide_eq_false hq, decide_eq_false (by omega)]
  simp

set_option maxRecDepth 100000 in
set_option maxHeartbeats 8000000 in
theorem rcatches_any (n : Nat) (A : Option Addr) (c : Nat) (es : List E3) (hn : es.length ≤ 10000) (hz : checkG n es = 0) (q : Int) (B : Option Addr) (d : Nat) (cs : List Int) (hcl : cs.length = n) (hcb : ∀ x ∈ cs, -1048576 ≤ x ∧ x ≤ 1048577) (v : Nat) (hv : v < n) (g : Nat) (l : List Nat) (w : World)
    (h : Reads w w.heap.size 3 A es.length (edgeCells es)) (h' : Reads w w.heap.size 1 B n (ints cs)) (hm : Blk w g 4 (bools (marks n l))) :
    Calls Tryz.prog 154 #[pileV n A es.length c q B n d, .int .i64 v, .slice (some ⟨g, 0, none⟩) n n] w fun e w' => e = .returned (.bool (catchB es cs l v)) ∧ Below w.heap.size w w' := by
  have hok := (right_of hz).ok
  obtain ⟨x, hx⟩ := get_of_lt (xs := cs) (k := v) (by omega)
  have hxb := hcb x (List.mem_of_getElem? hx)
  obtain ⟨bB, oB, rfl, hbB, hcell⟩ := h'.at_ (ints_at hx)
  have JB := jnE_bd hok l v
  have HJ := Lib.hid (fun (W : World) (hB : Below w.heap.size w W) => rjoins_any n A c es hn hok q (some ⟨bB, oB, none⟩) n d v g l W ((h.below hB).more hB.size) (hm.below hB hm.lt))
  have HV := Lib.hid (fun (W : World) (hB : Below w.heap.size w W) => rvalence_any n A c es hn hz q (some ⟨bB, oB, none⟩) n d v hv W ((h.below hB).more hB.size))
  unfold catchB
  rw [getD_at hx]
  have g0 := Blk.new w 117 (pileC n A es.length c q (some ⟨bB, oB, none⟩) n d)
  have hB0 : Below w.heap.size w (w.alloc (.cells (pileC n A es.length c q (some ⟨bB, oB, none⟩) n d) 117)) := (Below.refl _ _).alloc (Nat.le_refl _) _
  have hce := (hB0.cell (p := ⟨bB, oB + v, none⟩) hbB).trans hcell
  have hi : (v : Int) < (n : Int) := by omega
  obtain ⟨J, hJ⟩ : ∃ J, jnE es l v = J := ⟨_, rfl⟩
  obtain ⟨V, hV⟩ : ∃ V, valE es v = V := ⟨_, rfl⟩
  rw [hJ] at HJ JB ⊢
  rw [hV] at HV ⊢
  have hw : IntKind.i64.wrap (x + J) = x + J := IntWalk.i64_in _ (by omega)
  clear hJ hV hz hok hx hcell
  simp only [pileV, pileC] at g0 hB0 hce HJ HV ⊢
  have c0 := g0.cell 0
  have c1 := g0.cell 1
  have c2 := g0.cell 2
  have c3 := g0.cell 3
  have hgw : w.heap.size < (w.alloc (.cells #[.int .i64 n, .slice A es.length c, .int .i64 q, .slice (some ⟨bB, oB, none⟩) n d] 117)).heap.size := by simp
  obtain ⟨W0, hW0⟩ : ∃ W0, w.alloc (.cells #[.int .i64 n, .slice A es.length c, .int .i64 q, .slice (some ⟨bB, oB, none⟩) n d] 117) = W0 := ⟨_, rfl⟩
  have HW0 := Lib.hid hW0
  rw [hW0] at g0 hB0 hce c0 c1 c2 c3 hgw
  clear hW0
  have HJ2 := Lib.hid (fun (W : World) (hB : Below W0.heap.size W0 W) => HJ.out W (hB0.trans (hB.mono hB0.size)))
  have HV2 := Lib.hid (fun (W : World) (hB : Below W0.heap.size W0 W) => HV.out W (hB0.trans (hB.mono hB0.size)))
  have hb5 : bB < W0.heap.size := by have := hB0.size; omega
  have KC := Lib.hid (fun (W : World) (hB : Below W0.heap.size W0 W) => (⟨(hB.cell (p := ⟨w.heap.size, 0, none⟩) hgw).trans c0, (hB.cell (p := ⟨w.heap.size, 1, none⟩) hgw).trans c1, (hB.cell (p := ⟨w.heap.size, 2, none⟩) hgw).trans c2, (hB.cell (p := ⟨w.heap.size, 3, none⟩) hgw).trans c3, (hB.cell (p := ⟨bB, oB + v, none⟩) hb5).trans hce⟩ :
    W.cell? ⟨w.heap.size, 0, none⟩ = some (.int .i64 n) ∧ W.cell? ⟨w.heap.size, 1, none⟩ = some (.slice A es.length c) ∧ W.cell? ⟨w.heap.size, 2, none⟩ = some (.int .i64 q) ∧ W.cell? ⟨w.heap.size, 3, none⟩ = some (.slice (some ⟨bB, oB, none⟩) n d) ∧ W.cell? ⟨bB, oB + v, none⟩ = some (.int .i64 x)))
  have B0 : Below W0.heap.size W0 W0.drew := (Below.refl _ _).drew
  clear g0 HJ HV
  go_enter Tryz.func154, Tryz.ntmps154
  go_wp2_with fail
  rw [HW0.out]
  go_region_held3 (fun W => W.cell? ⟨w.heap.size, 0, none⟩ = some (.int .i64 n) ∧ W.cell? ⟨w.heap.size, 1, none⟩ = some (.slice A es.length c) ∧ W.cell? ⟨w.heap.size, 2, none⟩ = some (.int .i64 q) ∧ W.cell? ⟨w.heap.size, 3, none⟩ = some (.slice (some ⟨bB, oB, none⟩) n d) ∧ W.cell? ⟨bB, oB + v, none⟩ = some (.int .i64 x)) (go_keep)
    (first
      | (go_at_call 167; refine (HJ2.out _ B0).mono ?_; rintro e wJ ⟨rfl, bJ⟩; have BJ := B0.trans (bJ.mono (Nat.le_refl _)); obtain ⟨j0, j1, j2, j3, j4⟩ := KC.out wJ BJ)
      | (go_at_call 167; refine (HJ2.out _ BV).mono ?_; rintro e wJ ⟨rfl, bJ⟩; have BJ := BV.trans (bJ.mono BV.size); obtain ⟨j0, j1, j2, j3, j4⟩ := KC.out wJ BJ)
      | (go_at_call 153; refine (HV2.out _ B0).mono ?_; rintro e wV ⟨rfl, bV⟩; have BV := B0.trans (bV.mono (Nat.le_refl _)); obtain ⟨l0, l1, l2, l3, l4⟩ := KC.out wV BV)
      | (go_at_call 153; refine (HV2.out _ BJ).mono ?_; rintro e wV ⟨rfl, bV⟩; have BV := BJ.trans (bV.mono BJ.size); obtain ⟨l0, l1, l2, l3, l4⟩ := KC.out wV BV))
  all_goals
    go_wp2
    go_ret
    first
      | exact ⟨rfl, hB0.trans (BV.mono hB0.size)⟩
      | exact ⟨rfl, hB0.trans (BJ.mono hB0.size)⟩

set_option maxRecDepth 100000 in
set_option maxHeartbeats 8000000 in
theorem stable_any (n : Nat) (hn12 : n ≤ 12) (A : Option Addr) (c : Nat) (es : List E3) (hn : es.length ≤ 10000) (hz : checkG n es = 0) (q : Nat) (B : Option Addr) (d : Nat) (cs : List Int) (hcl : cs.length = n) (w : World)
    (h : Reads w w.heap.size 3 A es.length (edgeCells es)) (h' : Reads w w.heap.size 1 B n (ints cs)) :
    Calls Tryz.prog 133 #[pileV n A es.length c q B n d] w fun e w' => e = .returned (.bool (stabTo es cs q n)) ∧ Below w.heap.size w w' := by
  have HV := Lib.hid (fun (v : Nat) (hv : v < n) (W : World) (hB : Below w.heap.size w W) => rvalence_any n A c es hn hz q B n d v hv W ((h.below hB).more hB.size))
  have g0 := Blk.new w 117 (pileC n A es.length c q B n d)
  have hB0 : Below w.heap.size w (w.alloc (.cells (pileC n A es.length c q B n d) 117)) := (Below.refl _ _).alloc (Nat.le_refl _) _
  have HCL := Lib.hid hcl
  clear hz hcl
  simp only [pileV, pileC] at g0 hB0 HV ⊢
  have c3 := g0.cell 3
  go_enter Tryz.func133, Tryz.ntmps133
  go_wp2_with fail
  go_loopw [3, 4, 8] (fun _ _ i wl => ∃ k : Nat, k ≤ n ∧ i = .int .i64 k ∧ Hid (stabTo es cs q k = true) ∧ Below w.heap.size w wl ∧ Blk wl w.heap.size 117 #[.int .i64 n, .slice A es.length c, .int .i64 q, .slice B n d]) (fun _ _ i _ => n - (intOf i).toNat)
  case atStart => exact ⟨0, by omega, rfl, by simp [Hid, stabTo], hB0, g0⟩
  case round =>
    obtain ⟨k, hk, rfl, HT, hbel, g1⟩ := hrel
    clear g0 c3 hB0
    by_cases hlt : k < n
    · obtain ⟨x, hx⟩ := get_of_lt (xs := cs) (k := k) (by rw [HCL.out]; exact hlt)
      have hi : (k : Int) < (n : Int) := by omega
      obtain ⟨bB, oB, hA, hbB, hcell⟩ := (h'.below hbel).at_ (ints_at hx)
      subst hA
      have c0 := g1.cell 0
      have c1 := g1.cell 1
      have c2 := g1.cell 2
      have c3 := g1.cell 3
      have hst := stabTo_succ es cs q k
      rw [HT.out, Bool.true_and, getD_at hx] at hst
      have hge := fun hq hv => stabTo_false (es := es) (cs := cs) (q := q) (k := k) (n := n) hlt hq hv
      rw [getD_at hx] at hge
      have HG := Lib.hid hge
      clear hge
      by_cases hkq : k = q
      · have n1 : ((k : Int) != (q : Int)) = false := by simp [hkq]
        rw [decide_eq_true hkq, Bool.true_or] at hst
        have HS := Lib.hid hst
        clear hst hx hkq
        go_wp2
        go_roundw
        case rel => exact ⟨k + 1, by omega, by go_num, HS.out, hbel, g1⟩
        case measure => simp [intOf]; omega
      · have n1 : ((k : Int) != (q : Int)) = true := by rw [bne_iff_ne]; omega
        rw [decide_eq_false hkq, Bool.false_or] at hst
        have VC := Lib.hid (HV.out k hlt wr hbel)
        have HK := Lib.hid hkq
        by_cases hge : valE es k ≤ x
        · have hsf := HG.out hkq hge
          have HS := Lib.hid hsf
          obtain ⟨V, hV⟩ : ∃ V, valE es k = V := ⟨_, rfl⟩
          rw [hV] at VC hge
          clear hst hsf hx hkq hV
          go_wp2_with (go_at_call 153; refine (VC.out).mono ?_; rintro e wV ⟨rfl, bV⟩)
          go_ret
          exact ⟨by rw [HS.out]; rfl, hbel.trans (bV.mono hbel.size)⟩
        · rw [decide_eq_true (by omega)] at hst
          have HS := Lib.hid hst
          obtain ⟨V, hV⟩ : ∃ V, valE es k = V := ⟨_, rfl⟩
          rw [hV] at VC hge
          clear hst hx hkq hV
          go_wp2_with (go_at_call 153; refine (VC.out).mono ?_; rintro e wV ⟨rfl, bV⟩)
          go_roundw
          case rel => exact ⟨k + 1, by omega, by go_num, HS.out, hbel.trans (bV.mono hbel.size), g1.next bV⟩
          case measure => simp [intOf]; omega
    · obtain rfl : k = n := by omega
      go_wp2
      go_ret
      exact ⟨by rw [HT.out]; rfl, hbel⟩
end Go.Proofs.YtghigdcpinengaaGreat

