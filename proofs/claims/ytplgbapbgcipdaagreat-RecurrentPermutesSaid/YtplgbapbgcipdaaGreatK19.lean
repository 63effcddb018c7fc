/-
  Texts of this claim, put together: SortL.
-/
import Derived.Test.YtplgbapbgcipdaaGreatK13
import Derived.Test.YtplgbapbgcipdaaGreatK08
import Derived.Test.YtplgbapbgcipdaaGreatK15
import Derived.Shelf.SlSortCmp.Whole1
import Derived.Shelf.SlSortCmp.NoneTotal
import Derived.Test.YtplgbapbgcipdaaGreatK04
/-! slices.Compare of divisors, and slices.SortFunc by it at every length: the rows in ascending order. -/
namespace Go.Proofs.YtplgbapbgcipdaaGreat
open Go.RowKit

theorem cmpL_cmpI {xs ys : List Int} {k : Nat} {x y : Int} (ht : xs.take k = ys.take k) (hx : xs[k]? = some x) (hy : ys[k]? = some y) (hne : x ≠ y) : cmpL xs ys = cmpI x y := cmpL_at ht hx hy hne
set_option maxHeartbeats 1600000 in
theorem compareL_any (A : Option Addr) (c : Nat) (xs : List Int) (B : Option Addr) (d : Nat) (ys : List Int) (hn : xs.length ≤ 1048576) (hm : ys.length ≤ 1048576) (w : World) (h : Reads w w.heap.size 1 A xs.length (ints xs)) (h' : Reads w w.heap.size 1 B ys.length (ints ys)) :
    Calls Tryz.prog 24 #[.slice A xs.length c, .slice B ys.length d] w fun e w' => e = .returned (.int .i64 (cmpL xs ys)) ∧ ∃ q, w' = w.drewN q := by
  obtain ⟨n, hN⟩ : ∃ n, xs.length = n := ⟨_, rfl⟩
  obtain ⟨m, hM⟩ : ∃ m, ys.length = m := ⟨_, rfl⟩
  rw [hN] at h hn ⊢
  rw [hM] at h' hm ⊢
  have HN := Lib.hid hN
  have HM := Lib.hid hM
  clear hN hM
  go_enter Tryz.func24, Tryz.ntmps24
  go_wp2
  go_loopw [11] (fun i wr => ∃ k : Nat, k ≤ n ∧ k ≤ m ∧ i = .int .i64 k ∧ (∃ q, wr = w.drewN q) ∧ Hid (xs.take k = ys.take k)) (fun i _ => n - (intOf i).toNat)
  case atStart => exact ⟨0, by omega, by omega, rfl, ⟨0, rfl⟩, by simp [Hid]⟩
  case round =>
    obtain ⟨k, hk, hk2, rfl, ⟨q, rfl⟩, HS⟩ := hrel
    have hbel : Below w.heap.size w (w.drewN q) := below_drewN (Below.refl _ _) q
    by_cases hlt : k < n
    · obtain ⟨x, hx⟩ := get_of_lt (xs := xs) (k := k) (by rw [HN.out]; exact hlt)
      have HX := Lib.hid hx
      obtain ⟨b, off, rfl, hb, hcell⟩ := (h.below hbel).at_ (ints_at hx)
      have hi : (k : Int) < (n : Int) := by omega
      clear hx
      by_cases hlm : k < m
      · obtain ⟨y, hy⟩ := get_of_lt (xs := ys) (k := k) (by rw [HM.out]; exact hlm)
        have HY := Lib.hid hy
        obtain ⟨b', off', rfl, hb', hcell'⟩ := (h'.below hbel).at_ (ints_at hy)
        have hi' : (k : Int) < (m : Int) := by omega
        have hge : ¬ (m : Int) ≤ (k : Int) := by omega
        clear hy h h'
        have CC := Lib.hid (fun w => compare_any x y w)
        by_cases hxy : x = y
        · subst hxy
          have hz : cmpI x x = 0 := by unfold cmpI; simp
          rw [hz] at CC
          go_wp2_with (first
            | (go_at_call 52; refine (CC.out _).mono ?_; rintro e w5 ⟨rfl, rfl⟩)
            | fail)
          go_roundw
          case rel => exact ⟨k + 1, by omega, by omega, by go_num, ⟨_, rfl⟩, by rw [Hid, take_snoc HX.out, take_snoc HY.out, HS.out]⟩
          case measure => simp [intOf]; omega
        · have hne : (cmpI x y != 0) = true := by simpa [cmpI_zero] using hxy
          have HC := Lib.hid (cmpL_cmpI HS.out HX.out HY.out hxy)
          obtain ⟨z, hz⟩ : ∃ z, cmpI x y = z := ⟨_, rfl⟩
          rw [hz] at CC hne HC
          clear hz
          go_wp2_with (first
            | (go_at_call 52; refine (CC.out _).mono ?_; rintro e w5 ⟨rfl, rfl⟩)
            | fail)
          go_ret
          exact ⟨by rw [HC.out]; rfl, _, rfl⟩
      · obtain rfl : k = m := by omega
        have HC := Lib.hid (cmpL_more HS.out HX.out (by rw [HM.out]; exact Nat.le_refl _))
        clear h h'
        go_wp2
        go_ret
        exact ⟨by rw [HC.out]; rfl, _, rfl⟩
    · obtain rfl : k = n := by omega
      have HT : Hid (xs.take xs.length = ys.take xs.length) := by rw [Hid, HN.out]; exact HS.out
      have hf : ¬ (k : Int) < (k : Int) := by omega
      by_cases hlm : k < m
      · have hlt2 : (k : Int) < (m : Int) := by omega
        have HC := Lib.hid (cmpL_less HT.out (by rw [HN.out, HM.out]; exact hlm))
        clear h h'
        go_wp2
        go_ret
        exact ⟨by rw [HC.out]; rfl, _, rfl⟩
      · have hlt2 : ¬ (k : Int) < (m : Int) := by omega
        have HC := Lib.hid (cmpL_same HT.out (by rw [HN.out, HM.out]; omega))
        clear h h'
        go_wp2
        go_ret
        exact ⟨by rw [HC.out]; rfl, _, rfl⟩
set_option maxHeartbeats 800000 in
theorem compareF_any (A : Option Addr) (c : Nat) (xs : List Int) (B : Option Addr) (d : Nat) (ys : List Int) (hn : xs.length ≤ 1048576) (hm : ys.length ≤ 1048576) (w : World) (h : Reads w w.heap.size 1 A xs.length (ints xs)) (h' : Reads w w.heap.size 1 B ys.length (ints ys)) :
    Calls Tryz.prog 23 #[.slice A xs.length c, .slice B ys.length d] w fun e w' => e = .returned (.int .i64 (cmpL xs ys)) ∧ ∃ q, w' = w.drewN q := by
  have CC := Lib.hid (compareL_any A c xs B d ys hn hm w h h')
  obtain ⟨z, hz⟩ : ∃ z, cmpL xs ys = z := ⟨_, rfl⟩
  rw [hz] at CC ⊢
  go_enter Tryz.func23, Tryz.ntmps23
  go_wp2_with fail
  refine (CC.out).mono ?_
  rintro e w5 ⟨rfl, q, rfl⟩
  go_wp2
  go_ret
  exact ⟨rfl, q, rfl⟩

section
variable {α : Type} [Inhabited α] {enc : α → Value} {w : World} {g n : Nat} {os : Array Obj} {cur : Array Value}
/-- What a sort leaves of its row, and of all else. -/
theorem grown_places (d : Array α) : w.grownBy (Go.Proofs.sortWorld enc w g 0 n d os) (some g) := by
  refine ⟨rfl, rfl, rfl, by simp [Go.Proofs.sortWorld], fun k hk hne => ?_⟩
  unfold Go.Proofs.sortWorld
  rw [Go.Sort.heap_grow_old _ _ (by simpa using hk)]
  have : g ≠ k := fun e => hne (by rw [e])
  simp [Go.Sort.putRow, Go.Sort.mapBlock, Go.Sort.ahead, Array.getElem?_modify, this]
theorem heap_places {e : TypeId} {fr : Nat × Nat} (d : Array α) (hb : w.heap[g]? = some (.cells cur e fr)) : (Go.Proofs.sortWorld enc w g 0 n d os).heap[g]? = some (.cells (Go.Sort.putCells enc 0 d cur) e fr) := by
  have hg : g < w.heap.size := (Array.getElem?_eq_some_iff.1 hb).1
  unfold Go.Proofs.sortWorld
  rw [Go.Sort.heap_grow_old _ _ (by simpa using hg)]
  simp [Go.Sort.putRow, Go.Sort.mapBlock, Go.Sort.ahead, Array.getElem?_modify, hb, Go.Sort.onCells]
theorem take_places (d : Array α) (h : d.size ≤ cur.size) : (Go.Sort.putCells enc 0 d cur).toList.take d.size = d.toList.map enc := by
  apply List.ext_getElem?
  intro j
  by_cases hj : j < d.size
  · rw [List.getElem?_take_of_lt hj, Array.getElem?_toList]
    simp [Go.Sort.putCells, hj, show j < cur.size by omega]
  · rw [List.getElem?_take_eq_none (by omega), List.getElem?_eq_none (by simp; omega)]
end
/-- The row at a place. -/
def encV (vs : List Value) (i : Nat) : Value := vs.getD i (.slice none 0 0)
theorem OwnDivs.place {w : World} {base : Nat} {A : Option Addr} {c : Nat} {vs : List Value} {xss : List (List Int)} (h : OwnDivs w base A c vs xss) (i : Nat) : ∃ A' c', encV vs i = .slice A' (xss.getD i []).length c' ∧ OwnI w base A' c' (xss.getD i []) := by
  by_cases hi : i < xss.length
  · obtain ⟨xs, hxs⟩ := get_of_lt hi
    obtain ⟨A', c', hv, ho⟩ := h.2.2 i xs hxs
    refine ⟨A', c', ?_, ?_⟩
    · rw [encV, List.getD_eq_getElem?_getD, List.getD_eq_getElem?_getD, hv, hxs]; rfl
    · rw [List.getD_eq_getElem?_getD, hxs]; exact ho
  · have h1 : xss.getD i [] = [] := by rw [List.getD_eq_getElem?_getD, List.getElem?_eq_none (by omega)]; rfl
    refine ⟨none, 0, ?_, ?_⟩
    · rw [h1, encV, List.getD_eq_getElem?_getD, List.getElem?_eq_none (by rw [h.len]; omega)]; rfl
    · rw [h1]; exact OwnI.nil_ _ _
set_option maxHeartbeats 800000 in
theorem sortRows_any (base : Nat) (A : Option Addr) (c : Nat) (vs : List Value) (xss : List (List Int)) (hn : xss.length ≤ 1048576) (hl : ∀ xs ∈ xss, xs.length ≤ 1048576) (w : World) (h : OwnDivs w base A c vs xss) :
    Calls Tryz.prog 22 #[.slice A xss.length c, .func (.func 23) #[] #[]] w fun e w' => e = .returned (.tuple #[]) ∧ ∃ vs', OwnDivs w' base A c vs' (sortG bfI xss) ∧ Below base w w' := by
  by_cases h0 : xss.length = 0
  · obtain rfl : xss = [] := List.eq_nil_of_length_eq_zero h0
    have hv : vs = [] := List.eq_nil_of_length_eq_zero h.len
    subst hv
    have hc := AnyF.slices_SortFunc_none (P := Tryz.prog) { laySortDiv with } A c (.func (.func 23) #[] #[]) w
    refine hc.mono ?_
    rintro e w' ⟨rfl, rfl⟩
    exact ⟨rfl, [], h, Below.refl _ _⟩
  · rcases h.1.2 with ⟨hnil, hz⟩ | ⟨g, cp, cur, hv, hbase, hb, h1, h2, h3, h4⟩
    · injection hnil with _ hnil _
      exact absurd hnil h0
    · injection hv with hA _ hcap
      subst hA
      subst hcap
      have hlen := h.len
      have hgl : g < w.heap.size := (Array.getElem?_eq_some_iff.1 hb).1
      have hH : Go.Sort.Holds (encV vs) w g 0 (Array.range xss.length) := by
        intro j hj
        have hj' : j < xss.length := by simpa using hj
        have hvj : vs[j]? = some (encV vs j) := by
          rw [encV, List.getD_eq_getElem?_getD, List.getElem?_eq_getElem (by omega)]; rfl
        refine ⟨?_, by simp [World.frozen?, hb]⟩
        have h5 : (cur.toList.take (xss.length * 1))[j]? = vs[j]? := by rw [h4]
        rw [List.getElem?_take_of_lt (by omega), hvj] at h5
        simp only [World.cell?, hb, Nat.zero_add]
        simp only [Option.isSome_none, Bool.false_eq_true, if_false]
        rw [← Array.getElem?_toList, h5, getElem!_pos _ j hj]
        simp
      have hcmp : Go.Proofs.CmpReads Tryz.prog 23 #[] (encV vs) (cmpAt xss) g 0 (Array.range xss.length).size w := by
        intro m os dk hdk i j
        obtain ⟨A1, c1, e1, o1⟩ := h.place i
        obtain ⟨A2, c2, e2, o2⟩ := h.place j
        have hg : w.grownBy (Go.Proofs.sortWorld (encV vs) w g 0 m dk os) (some g) := grown_places dk
        have keep : ∀ {A3 : Option Addr} {c3 : Nat} {y : List Int}, OwnI w base A3 c3 y → OwnI (Go.Proofs.sortWorld (encV vs) w g 0 m dk os) base A3 c3 y := fun {A3 c3 y} ho => own_kept ho fun k hk => hg.block k (own_lt ho hk).2 fun e => by
          injection e with e
          exact own_ne ho h.1 (by decide) hk (k' := g) ⟨_, rfl, rfl⟩ e
        have hl1 : (xss.getD i []).length ≤ 1048576 := by
          by_cases hi : i < xss.length
          · exact hl _ (by rw [List.getD_eq_getElem?_getD, List.getElem?_eq_getElem hi]; exact List.getElem_mem hi)
          · rw [List.getD_eq_getElem?_getD, List.getElem?_eq_none (by omega)]; simp
        have hl2 : (xss.getD j []).length ≤ 1048576 := by
          by_cases hi : j < xss.length
          · exact hl _ (by rw [List.getD_eq_getElem?_getD, List.getElem?_eq_getElem hi]; exact List.getElem_mem hi)
          · rw [List.getD_eq_getElem?_getD, List.getElem?_eq_none (by omega)]; simp
        have hc := compareF_any A1 c1 (xss.getD i []) A2 c2 (xss.getD j []) hl1 hl2 _ (keep o1).reads (keep o2).reads
        rw [← e1, ← e2] at hc
        exact hc
      have eg : ∀ args w, (callFunc 23 args).run Tryz.prog w = .ok (.enter 23 args) w := enters_of Tryz.func23 (by kernel_rfl) rfl
      have hone : OneCell (encV vs) := by
        intro i
        obtain ⟨A1, c1, e1, o1⟩ := h.place i
        rw [e1]; rfl
      have hc := Any.slices_SortFunc laySortDiv (encV vs) hone (cmpAt xss) (swo_at xss) 23 #[] g 0 c (Array.range xss.length) w eg hcmp.lays hH hgl (by rw [Array.size_range]; omega)
      rw [Array.size_range] at hc
      refine hc.mono ?_
      rintro e w' ⟨rfl, d', n, os, hp, hs, rfl⟩
      have hsz : d'.size = xss.length := by have := hp.1; rwa [Array.size_range] at this
      have hsort := sorted_places hp hs
      have hg : w.grownBy (Go.Proofs.sortWorld (encV vs) w g 0 n d' os) (some g) := grown_places d'
      have hsl : (sortG bfI xss).length = xss.length := sortG_length _
      refine ⟨rfl, d'.toList.map (encV vs), ⟨?_, ?_, ?_⟩, ?_⟩
      · rw [hsl]
        exact ⟨by simp [hsz], .inr ⟨g, c, _, rfl, hbase, heap_places d' hb, h1, h2, by simp [Go.Sort.putCells, h3], by rw [Nat.mul_one, ← hsz]; exact take_places d' (by omega)⟩⟩
      · intro u hu
        obtain ⟨i, _, rfl⟩ := List.mem_map.1 hu
        exact hone i
      · intro i xs hi
        rw [← hsort, List.getElem?_map] at hi
        cases hd : d'.toList[i]? with
        | none => rw [hd] at hi; cases hi
        | some j =>
          rw [hd] at hi
          injection hi with hi
          replace hi : xss.getD j [] = xs := hi
          obtain ⟨A1, c1, e1, o1⟩ := h.place j
          rw [hi] at e1 o1
          refine ⟨A1, c1, by rw [List.getElem?_map, hd]; show some (encV vs j) = _; rw [e1], own_kept o1 fun k hk => hg.block k (own_lt o1 hk).2 fun e => ?_⟩
          injection e with e
          exact own_ne o1 h.1 (by decide) hk (k' := g) ⟨_, rfl, rfl⟩ e
      · exact (Below.refl _ _).grown hg (Nat.le_of_lt (Nat.lt_of_le_of_lt hbase hgl)) (fun j hj => by cases hj; exact hbase)
end Go.Proofs.YtplgbapbgcipdaaGreat

