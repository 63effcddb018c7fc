/-
  Package burning: the wood, its flames, and what is not burnt.
-/
import Derived.Test.YtjeggocindcgaaaConf
import Derived.Test.YtjeggocindcgaaaBurnP
import Derived.Test.YtjeggocindcgaaaIterF
namespace Go.Proofs.Ytjeggocindcgaaa
open Go.RowKit

/-- The cells of a wood: n vertices, how often they are joined, the chips (a slice), what is burnt. -/
def wtail (ch : Value) (l : List Nat) : List Value := ch :: (List.range 12).map fun u => Value.bool (decide (u ∈ l))
def wtab (t : Nat → Nat → Int) : List Value := (List.range 144).map fun i => Value.int .i64 (t (i / 12) (i % 12))
def wcells (n : Nat) (t : Nat → Nat → Int) (ch : Value) (l : List Nat) : Array Value := (.int .i64 n :: (wtab t ++ wtail ch l)).toArray
section
variable {n : Nat} {t : Nat → Nat → Int} {ch : Value} {l : List Nat}
theorem wtab_length : (wtab t).length = 144 := by simp [wtab]
theorem wcells_n : (wcells n t ch l)[0]? = some (.int .i64 n) := by simp [wcells]
theorem wcells_tab {u v : Nat} (hu : u < 12) (hv : v < 12) : (wcells n t ch l)[1 + u * 12 + v]? = some (.int .i64 (t u v)) := by
  unfold wcells
  rw [List.getElem?_toArray, show 1 + u * 12 + v = (u * 12 + v) + 1 from by omega, List.getElem?_cons_succ, List.getElem?_append_left (by rw [wtab_length]; omega)]
  unfold wtab
  rw [List.getElem?_map, List.getElem?_range (by omega)]
  simp only [Option.map_some]
  rw [show (u * 12 + v) / 12 = u from by omega, show (u * 12 + v) % 12 = v from by omega]
theorem wcells_ch : (wcells n t ch l)[145]? = some ch := by
  unfold wcells
  rw [List.getElem?_toArray, List.getElem?_cons_succ, List.getElem?_append_right (by rw [wtab_length]; omega), wtab_length]
  rfl
theorem wcells_burnt {u : Nat} (hu : u < 12) : (wcells n t ch l)[146 + u]? = some (.bool (decide (u ∈ l))) := by
  unfold wcells
  rw [List.getElem?_toArray, show 146 + u = (145 + u) + 1 from by omega, List.getElem?_cons_succ, List.getElem?_append_right (by rw [wtab_length]; omega), wtab_length, show 145 + u - 144 = u + 1 from by omega, wtail, List.getElem?_cons_succ, List.getElem?_map, List.getElem?_range hu]
  rfl
theorem wcells_set_burnt {u : Nat} (hu : u < 12) : (wcells n t ch l).setIfInBounds (146 + u) (.bool true) = wcells n t ch (l ++ [u]) := by
  unfold wcells
  rw [List.setIfInBounds_toArray, show 146 + u = (145 + u) + 1 from by omega, List.set_cons_succ, List.set_append_right _ _ (by rw [wtab_length]; omega), wtab_length, show 145 + u - 144 = u + 1 from by omega]
  congr 3
  unfold wtail
  rw [List.set_cons_succ]
  congr 1
  apply List.ext_getElem?
  intro i
  rw [List.getElem?_set]
  by_cases hi : i < 12
  · by_cases he : u = i
    · subst he; simp [hu]
    · rw [if_neg he, List.getElem?_map, List.getElem?_map, List.getElem?_range hi]
      have : (i ∈ l ++ [u]) ↔ i ∈ l := by simp [Ne.symm he]
      simp only [Option.map_some, this]
  · rw [if_neg (by omega)]
    rw [List.getElem?_eq_none (by simp; omega), List.getElem?_eq_none (by simp; omega)]
theorem wcells_set_tab {u v : Nat} (hu : u < 12) (hv : v < 12) (x : Int) : (wcells n t ch l).setIfInBounds (1 + u * 12 + v) (.int .i64 x) = wcells n (fun a b => if a = u ∧ b = v then x else t a b) ch l := by
  unfold wcells
  rw [List.setIfInBounds_toArray, show 1 + u * 12 + v = (u * 12 + v) + 1 from by omega, List.set_cons_succ, List.set_append_left _ _ (by rw [wtab_length]; omega)]
  congr 3
  unfold wtab
  apply List.ext_getElem?
  intro i
  rw [List.getElem?_set]
  by_cases hi : i < 144
  · by_cases he : u * 12 + v = i
    · subst he
      simp only [if_true]
      rw [if_pos (by simp; omega), List.getElem?_map, List.getElem?_range hi]
      have h1 : (u * 12 + v) / 12 = u := by omega
      have h2 : (u * 12 + v) % 12 = v := by omega
      simp [h1, h2]
    · rw [if_neg he, List.getElem?_map, List.getElem?_map, List.getElem?_range hi]
      have hne : ¬ (i / 12 = u ∧ i % 12 = v) := by omega
      simp only [Option.map_some, if_neg hne]
  · rw [if_neg (by omega)]
    rw [List.getElem?_eq_none (by simp; omega), List.getElem?_eq_none (by simp; omega)]
theorem wcells_ext {t' : Nat → Nat → Int} (h : ∀ u v, u < 12 → v < 12 → t u v = t' u v) : wcells n t ch l = wcells n t' ch l := by
  unfold wcells
  congr 3
  unfold wtab
  apply List.map_congr_left
  intro i hi
  rw [List.mem_range] at hi
  rw [h _ _ (by omega) (by omega)]
theorem wcells_same {l' : List Nat} (h : ∀ u, u < 12 → (u ∈ l ↔ u ∈ l')) : wcells n t ch l = wcells n t ch l' := by
  unfold wcells wtail
  congr 4
  apply List.map_congr_left
  intro i hi
  rw [List.mem_range] at hi
  simp only [h i hi]
end
/-- Block g is a wood. -/
def Wood (w : World) (g n : Nat) (es : List E3) (ch : Value) (l : List Nat) : Prop := Blk w g 131 (wcells n (tt es) ch l)

section
variable {w w' : World} {g n : Nat} {es : List E3} {ch : Value} {l : List Nat}
theorem Wood.n_ (h : Wood w g n es ch l) : w.cell? ⟨g, 0, none⟩ = some (.int .i64 n) := (Blk.cell h 0).trans wcells_n
theorem Wood.tab_ (h : Wood w g n es ch l) {u v : Nat} (hu : u < 12) (hv : v < 12) : w.cell? ⟨g, 1 + u * 12 + v, none⟩ = some (.int .i64 (tt es u v)) := (Blk.cell h _).trans (wcells_tab hu hv)
theorem Wood.ch_ (h : Wood w g n es ch l) : w.cell? ⟨g, 145, none⟩ = some ch := (Blk.cell h _).trans wcells_ch
theorem Wood.burnt_ (h : Wood w g n es ch l) {u : Nat} (hu : u < 12) : w.cell? ⟨g, 146 + u, none⟩ = some (.bool (decide (u ∈ l))) := (Blk.cell h _).trans (wcells_burnt hu)
theorem Wood.burn (h : Wood w g n es ch l) {u : Nat} (hu : u < 12) : Wood (w.setCell ⟨g, 146 + u, none⟩ (.bool true)) g n es ch (l ++ [u]) := by
  have := Blk.set_ h (146 + u) (.bool true)
  rwa [wcells_set_burnt hu] at this
end

set_option maxHeartbeats 2000000 in
theorem flames_any (g n : Nat) (hn : n ≤ 12) (es : List E3) (N : Int) (hok : ∀ e ∈ es, okE N e) (ch : Value) (l : List Nat) (v : Nat) (hv : v < 12) (w : World) (h : Wood w g n es ch l) :
    Calls Try.prog 112 #[.pointer (some ⟨g, 0, none⟩), .int .i64 v] w fun e w' => e = .returned (.int .i64 (flmTo es l v n)) ∧ w = w' := by
  have c0 := h.n_
  have HO := Lib.hid hok
  have hvi : (v : Int) < 12 := by omega
  clear hok
  go_enter Try.func112, Try.ntmps112
  go_wp2
  go_loop [5, 11] (fun s i => ∃ k : Nat, k ≤ n ∧ i = .int .i64 k ∧ s = .int .i64 (flmTo es l v k)) (fun _ i => n - (intOf i).toNat)
  case atStart => exact ⟨0, by omega, rfl, rfl⟩
  case round =>
    obtain ⟨k, hk, rfl, rfl⟩ := hrel
    by_cases hlt : k < n
    · have hi : (k : Int) < (n : Int) := by omega
      have hi2 : (k : Int) < 12 := by omega
      have cb := h.burnt_ (u := k) (by omega)
      have ct := h.tab_ (u := v) (v := k) hv (by omega)
      have hf := flmTo_bd HO.out l v k
      have ht := tt_bd HO.out v k
      have hs : flmTo es l v (k + 1) = flmTo es l v k + if k ∈ l then tt es v k else 0 := rfl
      by_cases hm : k ∈ l
      · rw [if_pos hm] at hs
        rw [decide_eq_true hm] at cb
        have HS := Lib.hid hs
        obtain ⟨x, hx⟩ : ∃ x, flmTo es l v k = x := ⟨_, rfl⟩
        obtain ⟨y, hy⟩ : ∃ y, tt es v k = y := ⟨_, rfl⟩
        rw [hx] at hf HS ⊢
        rw [hy] at ht ct HS
        clear hs hm hx hy
        go_wp2
        go_round
        case rel => exact ⟨k + 1, by omega, by go_num, by rw [HS.out]⟩
        case measure => simp [intOf]; omega
      · rw [if_neg hm] at hs
        rw [decide_eq_false hm] at cb
        have HS := Lib.hid hs
        clear hs hm
        go_wp2
        go_round
        case rel => exact ⟨k + 1, by omega, by go_num, by rw [HS.out]; simp⟩
        case measure => simp [intOf]; omega
    · obtain rfl : k = n := by omega
      go_wp2
      go_ret
      exact ⟨rfl, rfl⟩
set_option maxHeartbeats 2000000 in
theorem catches_any (g n : Nat) (hn : n ≤ 12) (es : List E3) (N : Int) (hok : ∀ e ∈ es, okE N e) (A : Option Addr) (c : Nat) (cs : List Int) (hcl : cs.length = n) (l : List Nat) (hl : LOk n l) (v : Nat) (hv : v < n) (w : World) (h : Wood w g n es (.slice A cs.length c) l) (hr : Reads w w.heap.size 1 A cs.length (ints cs)) :
    Calls Try.prog 102 #[.pointer (some ⟨g, 0, none⟩), .int .i64 v] w fun e w' => e = .returned (.bool (catL es cs l v)) ∧ ∃ m, w' = w.drewN m := by
  have cb := h.burnt_ (u := v) (by omega)
  have hvi : (v : Int) < 12 := by omega
  have hcat : catL es cs l v = (!decide (v ∈ l) && decide (cs.getD v 0 < joinsN es v l)) := rfl
  by_cases hm : v ∈ l
  · rw [decide_eq_true hm] at cb hcat
    have HC := Lib.hid hcat
    clear hcat hm
    go_enter Try.func102, Try.ntmps102
    go_wp2
    go_quiet (fail)
    go_wp2
    go_ret
    exact ⟨ret_bool (by rw [HC.out]; rfl), ⟨_, rfl⟩⟩
  · have hf := flm_joins l hl hm (es := es)
    have FC := Lib.hid (fun w h => flames_any g n hn es N hok (.slice A cs.length c) l v (by omega) w h)
    rw [decide_eq_false hm] at cb hcat
    rw [hf] at FC
    obtain ⟨x, hx⟩ := get_of_lt (xs := cs) (k := v) (by omega)
    rw [getD_at hx] at hcat
    obtain ⟨b, off, rfl, hb', hcell⟩ := hr.at_ (ints_at hx)
    obtain ⟨q, hq⟩ : ∃ q, joinsN es v l = q := ⟨_, rfl⟩
    rw [hq] at hcat FC
    have HC := Lib.hid hcat
    have cc := h.ch_
    have hvl : (v : Int) < (cs.length : Int) := by omega
    have H := Lib.hid h
    clear hcat hm hf hq hx hl hok hcl h
    go_enter Try.func102, Try.ntmps102
    go_wp2
    go_quiet ((go_at_call 112; exact Calls.quiet_of_same ((FC.out _ (by exact H.out)).mono fun _ _ h => ⟨h.1, h.2.symm⟩)))
    go_wp2
    go_ret
    exact ⟨ret_bool (by rw [HC.out]; simp), ⟨_, rfl⟩⟩
end Go.Proofs.Ytjeggocindcgaaa
