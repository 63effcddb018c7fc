/-
  Texts of this claim, put together: RJoins.
-/
import Derived.Test.YtplgbapbgcipdaaGreatK11
/-! Package recurrent: joins, valence, catches, stable. -/
namespace Go.Proofs.YtplgbapbgcipdaaGreat
open Go.RowKit

/-- The marks of a list of vertices. -/
def marks (n : Nat) (l : List Nat) : List Bool := (List.range n).map fun u => decide (u ∈ l)
theorem marks_length (n : Nat) (l : List Nat) : (marks n l).length = n := by simp [marks]
theorem marks_get {n u : Nat} (h : u < n) (l : List Nat) : (marks n l)[u]? = some (decide (u ∈ l)) := by simp [marks, h]
theorem marks_set {n u : Nat} (h : u < n) (l : List Nat) : (marks n l).set u true = marks n (l ++ [u]) := by
  apply List.ext_getElem?
  intro i
  by_cases hi : i < n
  · by_cases e : i = u
    · subst e
      rw [List.getElem?_set_self (by rw [marks_length]; exact hi), marks_get hi]; simp
    · rw [List.getElem?_set_ne (fun e' => e e'.symm), marks_get hi, marks_get hi]; simp [e]
  · rw [List.getElem?_eq_none (by simp [marks_length]; omega), List.getElem?_eq_none (by simp [marks_length]; omega)]
/-- The configuration as the program hands it on. -/
def pileV (n : Nat) (A : Option Addr) (m c : Nat) (q : Int) (B : Option Addr) (k d : Nat) : Value := .agg #[.int .i64 n, .slice A m c, .int .i64 q, .slice B k d]
def pileC (n : Nat) (A : Option Addr) (m c : Nat) (q : Int) (B : Option Addr) (k d : Nat) : Array Value := #[.int .i64 n, .slice A m c, .int .i64 q, .slice B k d]

set_option maxRecDepth 100000 in
set_option maxHeartbeats 8000000 in
theorem rjoins_any (n : Nat) (A : Option Addr) (c : Nat) (es : List E3) (hn : es.length ≤ 10000) (hok : ∀ e ∈ es, okE n e) (q : Int) (B : Option Addr) (kB dB : Nat) (v : Nat) (g : Nat) (l : List Nat) (w : World)
    (h : Reads w w.heap.size 3 A es.length (edgeCells es)) (hm : Blk w g 4 (bools (marks n l))) :
    Calls Tryz.prog 67 #[pileV n A es.length c q B kB dB, .int .i64 v, .slice (some ⟨g, 0, none⟩) n n] w fun e w' => e = .returned (.int .i64 (jnE es l v)) ∧ Below w.heap.size w w' := by
  have HOK := Lib.hid hok
  have HVB := Lib.hid (fun k => jnE_bd (es := es.take k) (fun e he => hok e (List.mem_of_mem_take he)) l v)
  have g0 := Blk.new w 80 (pileC n A es.length c q B kB dB)
  have c1 := g0.cell 1
  have hgl := hm.lt
  simp only [pileC] at c1 g0
  clear hok
  unfold pileV
  go_enter Tryz.func67, Tryz.ntmps67
  go_wp2_with fail
  go_loopw [7, 14] (fun s i wl => ∃ (k : Nat), i = .int .i64 k ∧ s = .int .i64 (jnE (es.take k) l v) ∧ k ≤ es.length ∧ Below w.heap.size w wl) (fun _ i _ => es.length - (intOf i).toNat)
  case atStart => exact ⟨0, rfl, rfl, by omega, (Below.refl _ _).alloc (Nat.le_refl _) _⟩
  case round =>
    obtain ⟨k, rfl, rfl, hk, hbel⟩ := hrel
    clear g0 c1
    by_cases hlt : k < es.length
    · obtain ⟨⟨x, y, m⟩, hx⟩ := get_of_lt hlt
      have hok := HOK.out _ (List.mem_of_getElem? hx)
      unfold okE at hok
      dsimp only at hok
      obtain ⟨a, rfl⟩ := Int.eq_ofNat_of_zero_le (show 0 ≤ x by omega)
      obtain ⟨b, rfl⟩ := Int.eq_ofNat_of_zero_le (show 0 ≤ y by omega)
      have hi : (k : Int) < (es.length : Int) := by omega
      obtain ⟨bE, off, hA, hbb, q1, q2, q3⟩ := (h.below hbel).edge hx
      subst hA
      dsimp only at q1 q2 q3
      have e3 := Blk.new wr 73 #[.int .i64 a, .int .i64 b, .int .i64 m]
      have p0 := e3.cell 0
      have p1 := e3.cell 1
      have p2 := e3.cell 2
      have hm2 := (hm.below hbel hgl).alloc (.cells #[.int .i64 a, .int .i64 b, .int .i64 m] 73)
      have ma := (hm2.cell a).trans (bools_get (marks_get (by omega) l))
      have mb := (hm2.cell b).trans (bools_get (marks_get (by omega) l))
      have ia : (a : Int) < (n : Int) := by omega
      have ib : (b : Int) < (n : Int) := by omega
      have hs := jnE_snoc hx l v
      unfold jnT at hs
      simp only [Int.toNat_natCast] at hs
      have hb0 := HVB.out k
      have hb2 := hbel.alloc hbel.size (.cells #[.int .i64 a, .int .i64 b, .int .i64 m] 73)
      have htl : (es.take k).length ≤ 10000 := by rw [List.length_take]; omega
      obtain ⟨S, hS⟩ : ∃ S, jnE (es.take k) l v = S := ⟨_, rfl⟩
      rw [hS] at hb0 hs ⊢
      clear hS hx
      have hw : IntKind.i64.wrap (S + m) = S + m := IntWalk.i64_in _ (by omega)
      by_cases hxy : (a : Int) = (b : Int)
      · have n1 : ((a : Int) != (b : Int)) = false := by simp [hxy]
        rw [if_neg (fun h => h.1 hxy)] at hs
        have HS := Lib.hid hs
        clear hs hxy ma mb
        go_wp2
        go_roundw
        case rel => exact ⟨k + 1, by go_num, by rw [HS.out, Int.add_zero], by omega, hb2⟩
        case measure => simp [intOf]; omega
      · have n1 : ((a : Int) != (b : Int)) = true := by simp at hxy ⊢; omega
        by_cases hxv : (a : Int) = (v : Int)
        · have n2 : ((a : Int) == (v : Int)) = true := by simpa using hxv
          have n3 : ((b : Int) == (v : Int)) = false := by simp; omega
          by_cases hbl : b ∈ l
          · rw [if_pos ⟨hxy, .inl ⟨hxv, hbl⟩⟩] at hs
            rw [decide_eq_true hbl] at mb
            have HS := Lib.hid hs
            clear hs hxy hxv hbl ma
            go_wp2
            go_roundw
            case rel => exact ⟨k + 1, by go_num, by rw [HS.out], by omega, hb2⟩
            case measure => simp [intOf]; omega
          · rw [if_neg (fun h => h.2.elim (fun h => hbl h.2) (fun h => by omega))] at hs
            rw [decide_eq_false hbl] at mb
            have HS := Lib.hid hs
            clear hs hxy hxv hbl ma
            go_wp2
            go_roundw
            case rel => exact ⟨k + 1, by go_num, by rw [HS.out, Int.add_zero], by omega, hb2⟩
            case measure => simp [intOf]; omega
        · have n2 : ((a : Int) == (v : Int)) = false := by simpa using hxv
          by_cases hyv : (b : Int) = (v : Int)
          · have n3 : ((b : Int) == (v : Int)) = true := by simpa using hyv
            by_cases hal : a ∈ l
            · rw [if_pos ⟨hxy, .inr ⟨hyv, hal⟩⟩] at hs
              rw [decide_eq_true hal] at ma
              have HS := Lib.hid hs
              clear hs hxy hxv hyv hal mb
              go_wp2
              go_roundw
              case rel => exact ⟨k + 1, by go_num, by rw [HS.out], by omega, hb2⟩
              case measure => simp [intOf]; omega
            · rw [if_neg (fun h => h.2.elim (fun h => hxv h.1) (fun h => hal h.2))] at hs
              rw [decide_eq_false hal] at ma
              have HS := Lib.hid hs
              clear hs hxy hxv hyv hal mb
              go_wp2
              go_roundw
              case rel => exact ⟨k + 1, by go_num, by rw [HS.out, Int.add_zero], by omega, hb2⟩
              case measure => simp [intOf]; omega
          · have n3 : ((b : Int) == (v : Int)) = false := by simpa using hyv
            rw [if_neg (fun h => h.2.elim (fun h => hxv h.1) (fun h => hyv h.1))] at hs
            have HS := Lib.hid hs
            clear hs hxy hxv hyv ma mb
            go_wp2
            go_roundw
            case rel => exact ⟨k + 1, by go_num, by rw [HS.out, Int.add_zero], by omega, hb2⟩
            case measure => simp [intOf]; omega
    · obtain rfl : k = es.length := by omega
      rw [List.take_length]
      go_wp2
      go_ret
      exact ⟨rfl, hbel⟩
set_option maxRecDepth 100000 in
set_option maxHeartbeats 2000000 in
theorem rvalence_any (n : Nat) (A : Option Addr) (c : Nat) (es : List E3) (hn : es.length ≤ 10000) (hz : checkG n es = 0) (q : Int) (B : Option Addr) (kB dB : Nat) (v : Nat) (hv : v < n) (w : World) (h : Reads w w.heap.size 3 A es.length (edgeCells es)) :
    Calls Tryz.prog 122 #[pileV n A es.length c q B kB dB, .int .i64 v] w fun e w' => e = .returned (.int .i64 (valE es v)) ∧ Below w.heap.size w w' := by
  have GV := Lib.hid (gvalence_ok n A c es hn hz v hv)
  have g0 := Blk.new w 80 (pileC n A es.length c q B kB dB)
  have c0 := g0.cell 0
  have c1 := g0.cell 1
  simp only [pileC] at c0 c1
  have hB : Below w.heap.size w (w.alloc (.cells (pileC n A es.length c q B kB dB) 80)) := (Below.refl _ _).alloc (Nat.le_refl _) _
  clear hz g0
  unfold pileV
  simp only [pileC] at hB
  go_enter Tryz.func122, Tryz.ntmps122
  go_wp2_with fail
  refine (GV.out _ ((h.alloc (Nat.le_refl _) _).more (by simp))).mono ?_
  rintro e w1 ⟨rfl, hb1⟩
  go_wp2
  go_ret
  exact ⟨rfl, hB.trans (hb1.mono (by simp))⟩
end Go.Proofs.YtplgbapbgcipdaaGreat

