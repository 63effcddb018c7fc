/-
  Texts of this claim, put together: Wood, Kindle.
-/
import Derived.Test.YtghigdcpinengaaGreatK21
import Derived.Test.YtghigdcpinengaaGreatK10
import Derived.Deep.RegionWith
import Derived.BigRegion
/-! Package burning: the wood, its flames, and what is not burnt. -/
namespace Go.Proofs.YtghigdcpinengaaGreat
open Go.RowKit

/-- The cells of a wood: n vertices, how often they are joined, the chips (a slice), what is burnt. -/
def wtail (ch : Value) (l : List Nat) : List Value := ch :: (List.range 12).map fun u => Value.bool (decide (u ∈ l))
def wtab (t : Nat → Nat → Int) : List Value := (List.range 144).map fun i => Value.int .i64 (t (i / 12) (i % 12))
def wcells (n : Nat) (t : Nat → Nat → Int) (ch : Value) (l : List Nat) : Array Value := (.int .i64 n :: (wtab t ++ wtail ch l)).toArray
section
variable {n : Nat} {t : Nat → Nat → Int} {ch : Value} {l : List Nat}
theorem wtab_length : (wtab t).length = 144 := by simp [wtab]
theorem wcells_n : (wcells n t ch l)[0]? = some (.int .i64 n) := by simp [wcells]
theorem wcells_tab {u v : Nat} (hu : u < 12) (hv : v < 12) : (wcells n t ch l)[1 + u * 12 + v]? = some (.int .i64 (t u v)) := by
  unfold wcells
  rw [List.getElem?_toArray, show 1 + u * 12 + v = (u * 12 + v) + 1 from by omega, List.getElem?_cons_succ, List.getElem?_append_left (by rw [wtab_length]; omega)]
  unfold wtab
  rw [List.getElem?_map, List.getElem?_range (by omega)]
  simp only [Option.map_some]
  rw [show (u * 12 + v) / 12 = u from by omega, show (u * 12 + v) % 12 = v from by omega]
theorem wcells_ch : (wcells n t ch l)[145]? = some ch := by
  unfold wcells
  rw [List.getElem?_toArray, List.getElem?_cons_succ, List.getElem?_append_right (by rw [wtab_length]; omega), wtab_length]
  rfl
theorem wcells_burnt {u : Nat} (hu : u < 12) : (wcells n t ch l)[146 + u]? = some (.bool (decide (u ∈ l))) := by
  unfold wcells
  rw [List.getElem?_toArray, show 146 + u = (145 + u) + 1 from by omega, List.getElem?_cons_succ, List.getElem?_append_right (by rw [wtab_length]; omega), wtab_length, show 145 + u - 144 = u + 1 from by omega, wtail, List.getElem?_cons_succ, List.getElem?_map, List.getElem?_range hu]
  rfl
theorem wcells_set_burnt {u : Nat} (hu : u < 12) : (wcells n t ch l).setIfInBounds (146 + u) (.bool true) = wcells n t ch (l ++ [u]) := by
  unfold wcells
  rw [List.setIfInBounds_toArray, show 146 + u = (145 + u) + 1 from by omega, List.set_cons_succ, List.set_append_right _ _ (by rw [wtab_length]; omega), wtab_length, show 145 + u - 144 = u + 1 from by omega]
  congr 3
  unfold wtail
  rw [List.set_cons_succ]
  congr 1
  apply List.ext_getElem?
  intro i
  rw [List.getElem?_set]
  by_cases hi : i < 12
  · by_cases he : u = i
    · subst he; simp [hu]
    · rw [if_neg he, List.getElem?_map, List.getElem?_map, List.getElem?_range hi]
      have : (i ∈ l ++ [u]) ↔ i ∈ l := by simp [Ne.symm he]
      simp only [Option.map_some, this]
  · rw [if_neg (by omega)]
    rw [List.getElem?_eq_none (by simp; omega), List.getElem?_eq_none (by simp; omega)]
theorem wcells_set_tab {u v : Nat} (hu : u < 12) (hv : v < 12) (x : Int) : (wcells n t ch l).setIfInBounds (1 + u * 12 + v) (.int .i64 x) = wcells n (fun a b => if a = u ∧ b = v then x else t a b) ch l := by
  unfold wcells
  rw [List.setIfInBounds_toArray, show 1 + u * 12 + v = (u * 12 + v) + 1 from by omega, List.set_cons_succ, List.set_append_left _ _ (by rw [wtab_length]; omega)]
  congr 3
  unfold wtab
  apply List.ext_getElem?
  intro i
  rw [List.getElem?_set]
  by_cases hi : i < 144
  · by_cases he : u * 12 + v = i
    · subst he
      simp only [if_true]
      rw [if_pos (by simp; omega), List.getElem?_map, List.getElem?_range hi]
      have h1 : (u * 12 + v) / 12 = u := by omega
      have h2 : (u * 12 + v) % 12 = v := by omega
      simp [h1, h2]
    · rw [if_neg he, List.getElem?_map, List.getElem?_map, List.getElem?_range hi]
      have hne : ¬ (i / 12 = u ∧ i % 12 = v) := by omega
      simp only [Option.map_some, if_neg hne]
  · rw [if_neg (by omega)]
    rw [List.getElem?_eq_none (by simp; omega), List.getElem?_eq_none (by simp; omega)]
theorem wcells_ext {t' : Nat → Nat → Int} (h : ∀ u v, u < 12 → v < 12 → t u v = t' u v) : wcells n t ch l = wcells n t' ch l := by
  unfold wcells
  congr 3
  unfold wtab
  apply List.map_congr_left
  intro i hi
  rw [List.mem_range] at hi
  rw [h _ _ (by omega) (by omega)]
end
/-- Block g is a wood. -/
def Wood (w : World) (g n : Nat) (es : List E3) (ch : Value) (l : List Nat) : Prop := Blk w g 191 (wcells n (tt es) ch l)

section
variable {w w' : World} {g n : Nat} {es : List E3} {ch : Value} {l : List Nat}
theorem Wood.n_ (h : Wood w g n es ch l) : w.cell? ⟨g, 0, none⟩ = some (.int .i64 n) := (Blk.cell h 0).trans wcells_n
theorem Wood.tab_ (h : Wood w g n es ch l) {u v : Nat} (hu : u < 12) (hv : v < 12) : w.cell? ⟨g, 1 + u * 12 + v, none⟩ = some (.int .i64 (tt es u v)) := (Blk.cell h _).trans (wcells_tab hu hv)
theorem Wood.ch_ (h : Wood w g n es ch l) : w.cell? ⟨g, 145, none⟩ = some ch := (Blk.cell h _).trans wcells_ch
theorem Wood.burnt_ (h : Wood w g n es ch l) {u : Nat} (hu : u < 12) : w.cell? ⟨g, 146 + u, none⟩ = some (.bool (decide (u ∈ l))) := (Blk.cell h _).trans (wcells_burnt hu)
theorem Wood.burn (h : Wood w g n es ch l) {u : Nat} (hu : u < 12) : Wood (w.setCell ⟨g, 146 + u, none⟩ (.bool true)) g n es ch (l ++ [u]) := by
  have := Blk.set_ h (146 + u) (.bool true)
  rwa [wcells_set_burnt hu] at this
end

set_option maxHeartbeats 2000000 in
theorem flames_any (g n : Nat) (hn : n ≤ 12) (es : List E3) (N : Int) (hok : ∀ e ∈ es, okE N e) (ch : Value) (l : List Nat) (v : Nat) (hv : v < 12) (w : World) (h : Wood w g n es ch l) :
    Calls Tryz.prog 168 #[.pointer (some ⟨g, 0, none⟩), .int .i64 v] w fun e w' => e = .returned (.int .i64 (flmTo es l v n)) ∧ w = w' := by
  have c0 := h.n_
  have HO := Lib.hid hok
  have hvi : (v : Int) < 12 := by omega
  clear hok
  go_enter Tryz.func168, Tryz.ntmps168
  go_wp2
  go_loop [5, 11] (fun s i => ∃ k : Nat, k ≤ n ∧ i = .int .i64 k ∧ s = .int .i64 (flmTo es l v k)) (fun _ i => n - (intOf i).toNat)
  case atStart => exact ⟨0, by omega, rfl, rfl⟩
  case round =>
    obtain ⟨k, hk, rfl, rfl⟩ := hrel
    by_cases hlt : k < n
    · have hi : (k : Int) < (n : Int) := by omega
      have hi2 : (k : Int) < 12 := by omega
      have cb := h.burnt_ (u := k) (by omega)
      have ct := h.tab_ (u := v) (v := k) hv (by omega)
      have hf := flmTo_bd HO.out l v k
      have ht := tt_bd HO.out v k
      have hs : flmTo es l v (k + 1) = flmTo es l v k + if k ∈ l then tt es v k else 0 := rfl
      by_cases hm : k ∈ l
      · rw [if_pos hm] at hs
        rw [decide_eq_true hm] at cb
        have HS := Lib.hid hs
        obtain ⟨x, hx⟩ : ∃ x, flmTo es l v k = x := ⟨_, rfl⟩
        obtain ⟨y, hy⟩ : ∃ y, tt es v k = y := ⟨_, rfl⟩
        rw [hx] at hf HS ⊢
        rw [hy] at ht ct HS
        clear hs hm hx hy
        go_wp2
        go_round
        case rel => exact ⟨k + 1, by omega, by go_num, by rw [HS.out]⟩
        case measure => simp [intOf]; omega
      · rw [if_neg hm] at hs
        rw [decide_eq_false hm] at cb
        have HS := Lib.hid hs
        clear hs hm
        go_wp2
        go_round
        case rel => exact ⟨k + 1, by omega, by go_num, by rw [HS.out]; simp⟩
        case measure => simp [intOf]; omega
    · obtain rfl : k = n := by omega
      go_wp2
      go_ret
      exact ⟨rfl, rfl⟩
set_option maxHeartbeats 2000000 in
theorem catches_any (g n : Nat) (hn : n ≤ 12) (es : List E3) (N : Int) (hok : ∀ e ∈ es, okE N e) (A : Option Addr) (c : Nat) (cs : List Int) (hcl : cs.length = n) (l : List Nat) (hl : LOk n l) (v : Nat) (hv : v < n) (w : World) (h : Wood w g n es (.slice A cs.length c) l) (hr : Reads w w.heap.size 1 A cs.length (ints cs)) :
    Calls Tryz.prog 156 #[.pointer (some ⟨g, 0, none⟩), .int .i64 v] w fun e w' => e = .returned (.bool (catL es cs l v)) ∧ ∃ m, w' = w.drewN m := by
  have cb := h.burnt_ (u := v) (by omega)
  have hvi : (v : Int) < 12 := by omega
  have hcat : catL es cs l v = (!decide (v ∈ l) && decide (cs.getD v 0 < joinsN es v l)) := rfl
  by_cases hm : v ∈ l
  · rw [decide_eq_true hm] at cb hcat
    have HC := Lib.hid hcat
    clear hcat hm
    go_enter Tryz.func156, Tryz.ntmps156
    go_wp2
    go_quiet (fail)
    go_wp2
    go_ret
    exact ⟨ret_bool (by rw [HC.out]; rfl), ⟨_, rfl⟩⟩
  · have hf := flm_joins l hl hm (es := es)
    have FC := Lib.hid (fun w h => flames_any g n hn es N hok (.slice A cs.length c) l v (by omega) w h)
    rw [decide_eq_false hm] at cb hcat
    rw [hf] at FC
    obtain ⟨x, hx⟩ := get_of_lt (xs := cs) (k := v) (by omega)
    rw [getD_at hx] at hcat
    obtain ⟨b, off, rfl, hb', hcell⟩ := hr.at_ (ints_at hx)
    obtain ⟨q, hq⟩ : ∃ q, joinsN es v l = q := ⟨_, rfl⟩
    rw [hq] at hcat FC
    have HC := Lib.hid hcat
    have cc := h.ch_
    have hvl : (v : Int) < (cs.length : Int) := by omega
    have H := Lib.hid h
    clear hcat hm hf hq hx hl hok hcl h
    go_enter Tryz.func156, Tryz.ntmps156
    go_wp2
    go_quiet ((go_at_call 168; exact Calls.quiet_of_same ((FC.out _ (by exact H.out)).mono fun _ _ h => ⟨h.1, h.2.symm⟩)))
    go_wp2
    go_ret
    exact ⟨ret_bool (by rw [HC.out]; simp), ⟨_, rfl⟩⟩
end Go.Proofs.YtghigdcpinengaaGreat

/-! Package burning: the wood of a configuration; the vertices that are not burnt. -/
namespace Go.Proofs.YtghigdcpinengaaGreat
open Go.RowKit

def natI (l : List Nat) : List Int := l.map fun u : Nat => (u : Int)
theorem natI_length (l : List Nat) : (natI l).length = l.length := by simp [natI]
theorem natI_snoc (l : List Nat) (x : Nat) : natI (l ++ [x]) = natI l ++ [(x : Int)] := by simp [natI]
theorem restL_succ (n : Nat) (l : List Nat) : restL (n + 1) l = if n ∈ l then restL n l else restL n l ++ [n] := by
  unfold restL
  rw [List.range_succ, List.filter_append]
  by_cases h : n ∈ l <;> simp [h]
set_option maxRecDepth 100000 in
set_option maxHeartbeats 2000000 in
theorem unburnt_any (g n : Nat) (hn : n ≤ 12) (es : List E3) (ch : Value) (l : List Nat) (w : World) (h : Wood w g n es ch l) :
    Calls Tryz.prog 138 #[.pointer (some ⟨g, 0, none⟩)] w fun e w' => ∃ A c, e = .returned (.slice A (restL n l).length c) ∧ OwnI w' w.heap.size A c (natI (restL n l)) ∧ Below w.heap.size w w' := by
  have c0 := h.n_
  have hgl : g < w.heap.size := Blk.lt h
  go_enter Tryz.func138, Tryz.ntmps138
  go_wp2
  go_loopw [3, 9] (fun s i wr => ∃ (k : Nat) (A : Option Addr) (c : Nat) (r : List Nat), k ≤ n ∧ i = .int .i64 k ∧ s = .slice A (natI r).length c ∧ Hid (restL k l = r) ∧ (natI r).length ≤ k ∧ OwnI wr w.heap.size A c (natI r) ∧ Below w.heap.size w wr) (fun _ i _ => n - (intOf i).toNat)
  case atStart => exact ⟨0, none, 0, [], by omega, rfl, rfl, rfl, by simp [natI], OwnI.nil_ _ _, Below.refl _ _⟩
  case round =>
    obtain ⟨k, A, c, r, hk, rfl, rfl, HR, hrl, hown, hbel⟩ := hrel
    have hw : Wood wr g n es ch l := Blk.below h hbel hgl
    have hsz := hbel.size
    clear c0
    by_cases hlt : k < n
    · have hi : (k : Int) < (n : Int) := by omega
      have hi2 : (k : Int) < 12 := by omega
      have cb := hw.burnt_ (u := k) (by omega)
      have hrs := restL_succ k l
      rw [HR.out] at hrs
      by_cases hm : k ∈ l
      · rw [decide_eq_true hm] at cb
        rw [if_pos hm] at hrs
        have HS := Lib.hid hrs
        clear hrs hm
        go_wp2
        go_roundw
        case rel => exact ⟨k + 1, A, c, r, by omega, by go_num, rfl, HS.out, by omega, hown, hbel⟩
        case measure => simp [intOf]; omega
      · rw [decide_eq_false hm] at cb
        rw [if_neg hm] at hrs
        have HS := Lib.hid hrs
        clear hrs hm
        go_wp2_with (at_builtin; refine push_int rfl (.tmp 19) (.tmp 21) _ rfl Tryz.underlying25 w.heap.size A c (natI r) (k : Int) rfl hown rfl rfl (by omega) hsz ?_; intro A2 c2 w2 hown2 hg2 hb2)
        go_roundw
        case rel => exact ⟨k + 1, A2, c2, r ++ [k], by omega, by go_num, by rw [natI_snoc]; simp, HS.out, by rw [natI_snoc]; simp; omega, by rw [natI_snoc]; exact hown2, hbel.trans (hb2.mono (Nat.le_refl _))⟩
        case measure => simp [intOf]; omega
    · obtain rfl : k = n := by omega
      go_wp2
      go_ret
      refine ⟨A, c, ?_, ?_, hbel⟩
      · rw [HR.out, natI_length]; rfl
      · rw [HR.out]; exact hown

set_option maxHeartbeats 1000000 in
/-- slices.Clone on divisors. -/
theorem dclone_any (A : Option Addr) (c : Nat) (xs : List Int) (hn : xs.length ≤ 1048000) (w : World) (h : Reads w w.heap.size 1 A xs.length (ints xs)) :
    Calls Tryz.prog 82 #[.slice A xs.length c] w fun e w' =>
      ∃ A' c', e = .returned (.slice A' xs.length c') ∧ OwnI w' w.heap.size A' c' xs ∧ Below w.heap.size w w' := by
  have q22 : ∀ (w : World) (a : Option Addr) (n c n' c' : Nat), (binOp .eql 26 (.slice a n c) (.slice none n' c')).run Tryz.prog w = .ok (.bool a.isNone) w := fun w a n c n' c' => Lib.run_eql_slice_nil w _ _ a n c n' c' Tryz.underlying26
  rcases A with _ | ad
  · have hx : xs = [] := by
      rcases xs with _ | ⟨x, xs⟩
      · rfl
      · obtain ⟨_, _, h, _⟩ := h.2 (by simp)
        cases h
    subst hx
    go_enter Tryz.func82, Tryz.ntmps82
    go_wp2
    go_ret
    exact ⟨none, 0, rfl, OwnI.nil_ _ _, Below.refl _ _⟩
  · go_enter Tryz.func82, Tryz.ntmps82
    have hown0 : (w.alloc (.cells #[] 3)).ownsRow w.heap.size 3 1 (.slice (some ⟨w.heap.size, 0, none⟩) 0 0) 0 [] := World.ownsRow_made w #[] 0 (Nat.le_refl _) (by simp [maxLen]) (by simp)
    have hr := h.alloc (Nat.le_refl _) (.cells #[] 3)
    go_wp2_with (at_builtin; refine append_go rfl (.tmp 5) (.tmp 6) _ rfl w.heap.size 3 Tryz.underlying26 info_int rfl (by omega) (some ⟨w.heap.size, 0, none⟩) 0 0 [] rfl hown0 w.heap.size (ints xs) rfl hr (by simp [ints, Value.oneCell']) (by omega) (by simp) ?_; intro A' c' w' hown' _ hb' _)
    go_ret
    refine ⟨A', c', rfl, ?_, ((Below.refl _ _).alloc (Nat.le_refl _) _).trans hb'⟩
    rw [Nat.zero_add, List.nil_append] at hown'
    exact hown'

set_option maxRecDepth 100000 in
set_option maxHeartbeats 4000000 in
theorem kindled_any (n : Nat) (A : Option Addr) (c : Nat) (es : List E3) (hn : es.length ≤ 1048576) (hG : RightG n es) (q : Nat) (hq : q < n) (B : Option Addr) (d : Nat) (cs : List Int) (hm : cs.length ≤ 1048000) (w : World) (h : Reads w w.heap.size 3 A es.length (edgeCells es)) (h' : Reads w w.heap.size 1 B cs.length (ints cs)) :
    Calls Tryz.prog 136 #[.agg #[.int .i64 n, .slice A es.length c], .int .i64 q, .slice B cs.length d] w fun e w' => ∃ g A' c', e = .returned (.pointer (some ⟨g, 0, none⟩)) ∧ Wood w' g n es (.slice A' cs.length c') [q] ∧ OwnI w' w.heap.size A' c' cs ∧ w.heap.size ≤ g ∧ Below w.heap.size w w' := by
  have HG := Lib.hid hG
  have g0 := Blk.new w 24 #[.int .i64 n, .slice A es.length c]
  have CC := Lib.hid (dclone_any B d cs hm (w.alloc (.cells #[.int .i64 n, .slice A es.length c] 24)).drew ((h'.alloc (Nat.le_refl _) (.cells #[.int .i64 n, .slice A es.length c] 24)).more (by simp [World.drew])))
  clear hG
  go_enter Tryz.func136, Tryz.ntmps136
  go_wp2
  go_region_with (go_at_call 82; refine (CC.out).mono ?_; rintro e w1 ⟨A1, cA, rfl, o1, hb1⟩; have g1 := g0.drew.next hb1; have c0 := g1.cell 0)
  all_goals (
    have hc1 : ∀ o, (w1.alloc o).cell? ⟨w.heap.size, 1, none⟩ = some (.slice A es.length c) := fun o => (g1.alloc o).cell 1
    have gW : ∀ (L : Array Value), L = wcells n (tt []) (.slice A1 cs.length cA) [] → ∀ W, W = w1.alloc (.cells L 191) → Wood W w1.heap.size n [] (.slice A1 cs.length cA) [] := by
      rintro _ rfl _ rfl
      exact Blk.new w1 191 _
    have o3 : ∀ o, OwnI (w1.alloc o) w.heap.size A1 cA cs := fun o => (o1.alloc o).mono (by simp [World.drew])
    have hbel1 : Below w.heap.size w w1 := ((Below.refl _ _).alloc (Nat.le_refl _) _).drew.trans (hb1.mono (by simp [World.drew]))
    have hbel2 : ∀ o, Below w.heap.size w (w1.alloc o) := fun o => hbel1.alloc hbel1.size o
    have hs1 := g1.lt
    have GW := Lib.hid gW
    have O3 := Lib.hid o3
    have HB2 := Lib.hid hbel2
    clear g1 c0 o1 hb1 CC hbel1 g0 gW o3 hbel2
    go_wp2
    go_loopw [19] (fun i wr => ∃ k : Nat, k ≤ es.length ∧ i = .int .i64 k ∧ Below w.heap.size w wr ∧ Wood wr w1.heap.size n (es.take k) (.slice A1 cs.length cA) [] ∧ OwnI wr w.heap.size A1 cA cs) (fun i _ => es.length - (intOf i).toNat)
    case atStart => exact ⟨0, by omega, rfl, HB2.out _, GW.out _ rfl _ rfl, O3.out _⟩
    clear HB2 GW O3 hc1
    case round =>
      obtain ⟨k, hk, rfl, hbel, gw, ow⟩ := hrel
      have hsz := hbel.size
      by_cases hlt : k < es.length
      · obtain ⟨⟨x, y, m⟩, hx⟩ := get_of_lt hlt
        have hok := HG.out.ok _ (List.mem_of_getElem? hx)
        have hhi := HG.out.hi
        unfold okE at hok
        dsimp only at hok
        obtain ⟨a, rfl⟩ := Int.eq_ofNat_of_zero_le (show 0 ≤ x by omega)
        obtain ⟨b, rfl⟩ := Int.eq_ofNat_of_zero_le (show 0 ≤ y by omega)
        have ha : a < 12 := by omega
        have hb : b < 12 := by omega
        have ha2 : (a : Int) < 12 := by omega
        have hb2 : (b : Int) < 12 := by omega
        have htk := take_snoc hx
        have hst : ∀ u v, tt (es.take (k + 1)) u v = if u ≠ v ∧ ((u = a ∧ v = b) ∨ (u = b ∧ v = a)) then m else tt (es.take k) u v := by
          intro u v
          have hp : (es.take (k + 1)).Pairwise ltE := HG.out.sorted.sublist (List.take_sublist _ _)
          rw [htk] at hp ⊢
          exact tt_snoc hp (fun z hz => HG.out.ok z (by rw [← htk] at hz; exact List.mem_of_mem_take hz)) rfl rfl u v
        have HST := Lib.hid hst
        obtain ⟨bb, off, rfl, hbb, q1, q2, q3⟩ := (h.below hbel).edge hx
        have hi : (k : Int) < (es.length : Int) := by omega
        dsimp only at q1 q2 q3
        have gw' : Wood (wr.alloc (.cells #[.int .i64 a, .int .i64 b, .int .i64 m] 104)) w1.heap.size n (es.take k) (.slice A1 cs.length cA) [] := Blk.alloc gw _
        have ow' := ow.alloc (.cells #[.int .i64 a, .int .i64 b, .int .i64 m] 104)
        have hbl' := hbel.alloc hsz (.cells #[.int .i64 a, .int .i64 b, .int .i64 m] 104)
        have hgl0 := Blk.lt gw
        have gw0 := gw
        have ow0 := ow
        have hbel0 := hbel
        clear hx h hbel hok htk hst gw ow
        by_cases hab : a = b
        · have hq : ((a : Int) != (b : Int)) = false := by simp; omega
          have hw2 : Wood (wr.alloc (.cells #[.int .i64 a, .int .i64 b, .int .i64 m] 104)) w1.heap.size n (es.take (k + 1)) (.slice A1 cs.length cA) [] := by
            unfold Wood at gw' ⊢
            rwa [wcells_ext (t := tt (es.take (k + 1))) (t' := tt (es.take k)) fun u v _ _ => by rw [HST.out, if_neg (by omega)]]
          clear hab gw0 ow0 hbel0
          go_wp2
          go_roundw
          case rel => exact ⟨k + 1, by omega, by go_num, hbl', hw2, ow'⟩
          case measure => simp [intOf]; omega
        · have hq : ((a : Int) != (b : Int)) = true := by simp; omega
          have t1 := gw0.tab_ ha hb
          have t2 := gw0.tab_ hb ha
          have f1 := Blk.frozen gw0 (1 + a * 12 + b)
          have f2 := Blk.frozen gw0 (1 + b * 12 + a)
          obtain ⟨z3, t3⟩ : ∃ z : Value, (wr.setCell ⟨w1.heap.size, 1 + a * 12 + b, none⟩ (.int .i64 m)).cell? ⟨w1.heap.size, 1 + b * 12 + a, none⟩ = some z := by
            have := Blk.cell (Blk.set_ gw0 (1 + a * 12 + b) (.int .i64 m)) (1 + b * 12 + a)
            rw [wcells_set_tab ha hb, wcells_tab hb ha] at this
            exact ⟨_, this⟩
          have hgl : w1.heap.size < wr.heap.size := hgl0
          have hne : ¬ wr.heap.size = w1.heap.size := by omega
          have ox : OwnI ((wr.setCell ⟨w1.heap.size, 1 + a * 12 + b, none⟩ (.int .i64 m)).setCell ⟨w1.heap.size, 1 + b * 12 + a, none⟩ (.int .i64 m)) w.heap.size A1 cA cs := (ow0.set_blk gw0 (by decide) _ _).set_blk (Blk.set_ gw0 _ _) (by decide) _ _
          have gx : Wood ((wr.setCell ⟨w1.heap.size, 1 + a * 12 + b, none⟩ (.int .i64 m)).setCell ⟨w1.heap.size, 1 + b * 12 + a, none⟩ (.int .i64 m)) w1.heap.size n (es.take (k + 1)) (.slice A1 cs.length cA) [] := by
            have := Blk.set_ (Blk.set_ gw0 (1 + a * 12 + b) (.int .i64 m)) (1 + b * 12 + a) (.int .i64 m)
            rw [wcells_set_tab ha hb, wcells_set_tab hb ha] at this
            unfold Wood
            rwa [wcells_ext (t := tt (es.take (k + 1))) (t' := fun x y => if x = b ∧ y = a then m else if x = a ∧ y = b then m else tt (es.take k) x y) fun u v _ _ => ?_]
            rw [HST.out]
            by_cases h1 : u = b ∧ v = a
            · rw [if_pos h1, if_pos (by omega)]
            · rw [if_neg h1]
              by_cases h2 : u = a ∧ v = b
              · rw [if_pos h2, if_pos (by omega)]
              · rw [if_neg h2, if_neg (by omega)]
          have bx : Below w.heap.size w ((wr.setCell ⟨w1.heap.size, 1 + a * 12 + b, none⟩ (.int .i64 m)).setCell ⟨w1.heap.size, 1 + b * 12 + a, none⟩ (.int .i64 m)) := (hbel0.setCell (by simp; omega) _).setCell (by simp; omega) _
          have ox1 := ox.alloc (.cells #[.int .i64 a, .int .i64 b, .int .i64 m] 104)
          have gx1 : Wood _ w1.heap.size n (es.take (k + 1)) (.slice A1 cs.length cA) [] := Blk.alloc gx (.cells #[.int .i64 a, .int .i64 b, .int .i64 m] 104)
          have bx1 := bx.alloc (by simp [World.setCell]; exact hsz) (.cells #[.int .i64 a, .int .i64 b, .int .i64 m] 104)
          clear gw' ow' hbl' hab ox gx bx gw0 ow0 hbel0
          go_wp2
          go_region
          all_goals go_wp2
          all_goals (
            go_roundw
            case rel => exact ⟨k + 1, by omega, by go_num, bx1.drew, gx1, ox1⟩
            case measure => simp [intOf]; omega)
      · obtain rfl : k = es.length := by omega
        rw [List.take_length] at gw
        have hgl0 := Blk.lt gw
        have f1 := Blk.frozen gw (146 + q)
        have c1 := gw.burnt_ (u := q) (by have := HG.out.hi; omega)
        have hq12 : (q : Int) < 12 := by have := HG.out.hi; omega
        go_wp2
        go_ret
        exact ⟨w1.heap.size, A1, cA, rfl, gw.burn (by omega), ow.set_blk gw (by decide) _ _, by omega, hbel.setCell (by simp; omega) _⟩)
end Go.Proofs.YtghigdcpinengaaGreat

