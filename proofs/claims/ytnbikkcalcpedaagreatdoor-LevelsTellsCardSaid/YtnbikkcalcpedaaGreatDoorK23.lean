/-
  Texts of this claim, put together: FireW, Wood.
-/
import Derived.Test.YtnbikkcalcpedaaGreatDoorK15
import Derived.Test.YtnbikkcalcpedaaGreatDoorK08
import Derived.Test.YtnbikkcalcpedaaGreatDoorK21
import Derived.Test.YtnbikkcalcpedaaGreatDoorK06
import Derived.Test.YtnbikkcalcpedaaGreatDoorK07
namespace Go.Proofs.YtnbikkcalcpedaaGreatDoor
open Go.RowKit
structure FireA where
  AE : Option Addr
  cE : Nat
  gB : Nat
  gT : Nat
  AS : Option Addr
  cS : Nat
  AO : Option Addr
  cO : Nat
  AD : Option Addr
  cD : Nat
  AH : Option Addr
  cH : Nat
def fireC (E : List (Nat × Nat)) (n : Nat) (lv : Value) (a : FireA) (s : FireS) (H : List Int) : Array Value :=
  #[.slice a.AE E.length a.cE, lv, .slice (some ⟨a.gB, 0, none⟩) n n, .slice (some ⟨a.gT, 0, none⟩) n n, .slice a.AS s.steps.length a.cS, .slice a.AO s.order.length a.cO, .slice a.AD s.tree.length a.cD, .slice a.AH H.length a.cH]
def Dj (A B : Option Addr) : Prop := ∀ k, blockOf A k → ¬ blockOf B k
theorem Dj.symm {A B : Option Addr} (h : Dj A B) : Dj B A := fun k h1 h2 => h k h2 h1
theorem Dj.upd {A A' B : Option Addr} {N : Nat} (h : Dj A B) (h1 : ∀ k, blockOf A' k → blockOf A k ∨ N ≤ k) (h2 : ∀ k, blockOf B k → k < N) : Dj A' B := fun k k1 k2 => by
  rcases h1 k k1 with h3 | h3
  · exact h k h3 k2
  · have := h2 k k2; omega
def bntL (n : Nat) (order : List Nat) : List Bool := (List.range n).map fun v => decide (v ∈ order)
theorem bntL_at {n v : Nat} {order : List Nat} (hv : v < n) : (bools (bntL n order))[v]? = some (.bool (decide (v ∈ order))) := by simp [bools, bntL, hv]
theorem bntL_set {n v : Nat} {order : List Nat} (hv : v < n) : (bools (bntL n order)).setIfInBounds v (.bool true) = bools (bntL n (order ++ [v])) := by
  apply Array.ext_getElem?
  intro i
  rw [Array.getElem?_setIfInBounds]
  by_cases hi : i < n
  · rw [bntL_at (order := order) hi, bntL_at (order := order ++ [v]) hi]
    by_cases h : v = i
    · subst h
      have hsz : v < (bools (bntL n order)).size := by simp [bools, bntL]; exact hv
      rw [if_pos rfl, if_pos hsz]; simp
    · rw [if_neg h]; simp [show ¬ i = v from fun e => h e.symm]
  · have h1 : (bools (bntL n order))[i]? = none := by simp [bools, bntL]; omega
    have h2 : (bools (bntL n (order ++ [v])))[i]? = none := by simp [bools, bntL]; omega
    rw [h1, h2]
    by_cases h : v = i
    · omega
    · rw [if_neg h]
structure FireW (w : World) (base b : Nat) (E : List (Nat × Nat)) (n : Nat) (lv : Value) (a : FireA) (s : FireS) (H : List Int) : Prop where
  blk : Blk w b 242 (fireC E n lv a s H)
  ends : Reads w base 2 a.AE E.length (pair2 E)
  burnt : Blk w a.gB 4 (bools (bntL n s.order))
  hb : base ≤ b
  hgB : base ≤ a.gB
  times : OwnI w base (some ⟨a.gT, 0, none⟩) n s.times
  tlen : s.times.length = n
  steps : OwnI w base a.AS a.cS (nI s.steps)
  order : OwnI w base a.AO a.cO (nI s.order)
  tree : OwnI w base a.AD a.cD (nI s.tree)
  next : OwnI w base a.AH a.cH H
  tS : Dj (some ⟨a.gT, 0, none⟩) a.AS
  tO : Dj (some ⟨a.gT, 0, none⟩) a.AO
  tD : Dj (some ⟨a.gT, 0, none⟩) a.AD
  tH : Dj (some ⟨a.gT, 0, none⟩) a.AH
  sO : Dj a.AS a.AO
  sD : Dj a.AS a.AD
  sH : Dj a.AS a.AH
  oD : Dj a.AO a.AD
  oH : Dj a.AO a.AH
  dH : Dj a.AD a.AH
section
variable {w w' : World} {base b n : Nat} {E : List (Nat × Nat)} {lv : Value} {a : FireA} {s : FireS} {H : List Int}
theorem own_ltI {A : Option Addr} {c : Nat} {xs : List Int} (h : OwnI w base A c xs) : ∀ k, blockOf A k → k < w.heap.size := fun _ hk => (own_lt h hk).2
theorem own_geI {A : Option Addr} {c : Nat} {xs : List Int} (h : OwnI w base A c xs) : ∀ k, blockOf A k → base ≤ k := fun _ hk => (own_lt h hk).1
theorem own_neB {A : Option Addr} {c g : Nat} {xs : List Int} {t : TypeId} {cs : Array Value} (h : OwnI w base A c xs) (hg : Blk w g t cs) (ht : 3 ≠ t) : ∀ k, blockOf A k → k ≠ g := fun _ hk => own_blk h hg ht hk
theorem FireW.ne (h : FireW w base b E n lv a s H) : a.gB ≠ b := fun e => Blk.ne_ h.burnt h.blk (by decide) e
theorem FireW.keep (h : FireW w base b E n lv a s H) (hs : base ≤ w.heap.size) (hb : Below w.heap.size w w') : FireW w' base b E n lv a s H := by
  refine { h with blk := h.blk.next hb, ends := h.ends.below (hb.mono hs), burnt := h.burnt.next hb, times := h.times.next hb, steps := h.steps.next hb, order := h.order.next hb, tree := h.tree.next hb, next := h.next.next hb }
theorem FireW.queue {H' : List Int} {A' : Option Addr} {c' : Nat} (h : FireW w base b E n lv a s H) (hO : OwnI w' base A' c' H') (hB : Blk w' b 242 ((fireC E n lv a s H).setIfInBounds 7 (.slice A' H'.length c'))) (hW : Only (fun k => ofA a.AH k ∨ k = b) w w') (hA : ∀ k, blockOf A' k → blockOf a.AH k ∨ w.heap.size ≤ k) (hs : base ≤ w.heap.size) :
    FireW w' base b E n lv { a with AH := A', cH := c' } s H' := by
  have keepI : ∀ {A : Option Addr} {c : Nat} {xs : List Int}, OwnI w base A c xs → Dj A a.AH → OwnI w' base A c xs := fun {A c xs} ho hd => own_kept ho fun k hk => hW.block k (own_ltI ho k hk) fun hc => by
    rcases hc with hc | hc
    · exact hd k hk hc
    · exact own_neB ho h.blk (by decide) k hk hc
  have hbel : Below base w w' := hW.below (fun k hk hc => by
    rcases hc with hc | hc
    · have := own_geI h.next k hc; omega
    · have := h.hb; omega) hs
  refine { blk := hB, ends := h.ends.below hbel, burnt := ?_, hb := h.hb, hgB := h.hgB, times := keepI h.times h.tH, tlen := h.tlen, steps := keepI h.steps h.sH, order := keepI h.order h.oH, tree := keepI h.tree h.dH, next := hO, tS := h.tS, tO := h.tO, tD := h.tD, tH := ?_, sO := h.sO, sD := h.sD, sH := ?_, oD := h.oD, oH := ?_, dH := ?_ }
  · refine (hW.block a.gB h.burnt.lt fun hc => ?_).trans h.burnt
    rcases hc with hc | hc
    · exact own_neB h.next h.burnt (by decide) _ hc rfl
    · exact h.ne hc
  · exact (h.tH.symm.upd hA (own_ltI h.times)).symm
  · exact (h.sH.symm.upd hA (own_ltI h.steps)).symm
  · exact (h.oH.symm.upd hA (own_ltI h.order)).symm
  · exact (h.dH.symm.upd hA (own_ltI h.tree)).symm
theorem FireW.mark {v : Nat} {w1 : World} {A' : Option Addr} {c' : Nat} {x : Nat} (h : FireW w base b E n lv a s H) (hv : v < n)
    (hg : ((w.setCell ⟨a.gB, v, none⟩ (.bool true)).alloc (.cells #[.int .i64 v] 3)).grownBy w1 (Value.slice a.AO x a.cO).ownBlock)
    (hO : OwnI w1 base A' c' (nI (s.order ++ [v]))) (hA : ∀ k, blockOf A' k → blockOf a.AO k ∨ w.heap.size ≤ k) :
    FireW (w1.setCell ⟨b, 5, none⟩ (.slice A' (s.order.length + 1) c')) base b E n lv { a with AO := A', cO := c' } { s with order := s.order ++ [v] } H := by
  have hk : ∀ k, k < w.heap.size → k ≠ b → k ≠ a.gB → ¬ blockOf a.AO k → (w1.setCell ⟨b, 5, none⟩ (.slice A' (s.order.length + 1) c')).heap[k]? = w.heap[k]? := fun k k1 k2 k3 k4 =>
    (Below.heap_setCell w1 ⟨b, 5, none⟩ _ k k2).trans ((hg.block k (by simp [World.setCell]; omega) (fun e => k4 (blockOf_own.1 e.symm))).trans ((Below.heap_alloc (w.setCell ⟨a.gB, v, none⟩ (.bool true)) _ k (by simp [World.setCell]; exact k1)).trans (Below.heap_setCell w ⟨a.gB, v, none⟩ _ k k3)))
  have keepI : ∀ {A : Option Addr} {c : Nat} {xs : List Int}, OwnI w base A c xs → Dj A a.AO → OwnI (w1.setCell ⟨b, 5, none⟩ (.slice A' (s.order.length + 1) c')) base A c xs := fun {A c xs} ho hd => own_kept ho fun k k1 => hk k (own_ltI ho k k1) (own_neB ho h.blk (by decide) k k1) (own_neB ho h.burnt (by decide) k k1) (hd k k1)
  have b1 : Blk w1 b 242 (fireC E n lv a s H) := (hg.block b (by have := h.blk.lt; simp [World.setCell]; omega) (fun e => own_neB h.order h.blk (by decide) b (blockOf_own.1 e.symm) rfl)).trans ((h.blk.far (p := ⟨a.gB, v, none⟩) (fun e => h.ne e.symm) _).alloc _)
  have g1 : Blk w1 a.gB 4 (bools (bntL n (s.order ++ [v]))) := by
    rw [← bntL_set hv]
    exact (hg.block a.gB (by have := h.burnt.lt; simp [World.setCell]; omega) (fun e => own_neB h.order h.burnt (by decide) a.gB (blockOf_own.1 e.symm) rfl)).trans ((h.burnt.set_ v _).alloc _)
  have hO' : OwnI (w1.setCell ⟨b, 5, none⟩ (.slice A' (s.order.length + 1) c')) base A' c' (nI (s.order ++ [v])) := own_kept hO fun k k1 => Below.heap_setCell w1 ⟨b, 5, none⟩ _ k (own_neB hO b1 (by decide) k k1)
  refine { blk := ?_, ends := ?_, burnt := g1.far (fun e => h.ne e) _, hb := h.hb, hgB := h.hgB, times := keepI h.times h.tO, tlen := h.tlen, steps := keepI h.steps h.sO, order := hO', tree := keepI h.tree h.oD.symm, next := keepI h.next h.oH.symm, tS := h.tS, tO := ?_, tD := h.tD, tH := h.tH, sO := ?_, sD := h.sD, sH := h.sH, oD := ?_, oH := ?_, dH := h.dH }
  · have := b1.set_ 5 (.slice A' (s.order.length + 1) c')
    have e : (fireC E n lv a s H).setIfInBounds 5 (.slice A' (s.order.length + 1) c') = fireC E n lv { a with AO := A', cO := c' } { s with order := s.order ++ [v] } H := by simp [fireC]
    rw [e] at this; exact this
  · refine h.ends.keep fun p hp => ?_
    have h1 := h.hb
    have h2 := h.hgB
    have hne : ¬ blockOf a.AO p.block := fun hc => by have := own_geI h.order _ hc; omega
    have e := hk p.block (by have := h.burnt.lt; omega) (by omega) (by omega) hne
    simp only [World.cell?, e]
  · exact (h.tO.symm.upd hA (own_ltI h.times)).symm
  · exact (h.sO.symm.upd hA (own_ltI h.steps)).symm
  · exact h.oD.upd hA (own_ltI h.tree)
  · exact h.oH.upd hA (own_ltI h.next)
end
theorem new_push {E : List (Nat × Nat)} {order : List Nat} {v k x0 x1 : Nat} (hp : E.getD k (0, 0) = (x0, x1)) (h0 : x0 ≠ x1) (h1 : x0 = v ∨ x1 = v) (h2 : x0 + x1 - v ∉ order) : newL E order v (k + 1) = newL E order v k ++ [k] := by
  unfold newL
  rw [List.range_succ, List.filter_append, List.filter_cons, hp]
  have : (decide (x0 ≠ x1) && (decide (x0 = v) || decide (x1 = v)) && !decide (x0 + x1 - v ∈ order)) = true := by
    rw [decide_eq_true h0, decide_eq_false h2]
    rcases h1 with h1 | h1 <;> simp [h1]
  simp only [this, if_pos, List.filter_nil]
theorem new_skip {E : List (Nat × Nat)} {order : List Nat} {v k x0 x1 : Nat} (hp : E.getD k (0, 0) = (x0, x1)) (h : x0 = x1 ∨ (x0 ≠ v ∧ x1 ≠ v) ∨ x0 + x1 - v ∈ order) : newL E order v (k + 1) = newL E order v k := by
  unfold newL
  rw [List.range_succ, List.filter_append, List.filter_cons, hp]
  have : (decide (x0 ≠ x1) && (decide (x0 = v) || decide (x1 = v)) && !decide (x0 + x1 - v ∈ order)) = false := by
    rcases h with h | ⟨h, h'⟩ | h
    · simp [h]
    · simp [h, h']
    · simp [h]
  simp only [this]
  simp
end Go.Proofs.YtnbikkcalcpedaaGreatDoor
namespace Go.Proofs.YtnbikkcalcpedaaGreatDoor
open Go.RowKit
def wtail (ch : Value) (l : List Nat) : List Value := ch :: (List.range 12).map fun u => Value.bool (decide (u ∈ l))
def wtab (t : Nat → Nat → Int) : List Value := (List.range 144).map fun i => Value.int .i64 (t (i / 12) (i % 12))
def wcells (n : Nat) (t : Nat → Nat → Int) (ch : Value) (l : List Nat) : Array Value := (.int .i64 n :: (wtab t ++ wtail ch l)).toArray
section
variable {n : Nat} {t : Nat → Nat → Int} {ch : Value} {l : List Nat}
theorem wtab_length : (wtab t).length = 144 := by simp [wtab]
theorem wcells_n : (wcells n t ch l)[0]? = some (.int .i64 n) := by simp [wcells]
theorem wcells_tab {u v : Nat} (hu : u < 12) (hv : v < 12) : (wcells n t ch l)[1 + u * 12 + v]? = some (.int .i64 (t u v)) := by
  unfold wcells
  rw [List.getElem?_toArray, show 1 + u * 12 + v = (u * 12 + v) + 1 from by omega, List.getElem?_cons_succ, List.getElem?_append_left (by rw [wtab_length]; omega)]
  unfold wtab
  rw [List.getElem?_map, List.getElem?_range (by omega)]
  simp only [Option.map_some]
  rw [show (u * 12 + v) / 12 = u from by omega, show (u * 12 + v) % 12 = v from by omega]
theorem wcells_ch : (wcells n t ch l)[145]? = some ch := by
  unfold wcells
  rw [List.getElem?_toArray, List.getElem?_cons_succ, List.getElem?_append_right (by rw [wtab_length]; omega), wtab_length]
  rfl
theorem wcells_burnt {u : Nat} (hu : u < 12) : (wcells n t ch l)[146 + u]? = some (.bool (decide (u ∈ l))) := by
  unfold wcells
  rw [List.getElem?_toArray, show 146 + u = (145 + u) + 1 from by omega, List.getElem?_cons_succ, List.getElem?_append_right (by rw [wtab_length]; omega), wtab_length, show 145 + u - 144 = u + 1 from by omega, wtail, List.getElem?_cons_succ, List.getElem?_map, List.getElem?_range hu]
  rfl
theorem wcells_set_burnt {u : Nat} (hu : u < 12) : (wcells n t ch l).setIfInBounds (146 + u) (.bool true) = wcells n t ch (l ++ [u]) := by
  unfold wcells
  rw [List.setIfInBounds_toArray, show 146 + u = (145 + u) + 1 from by omega, List.set_cons_succ, List.set_append_right _ _ (by rw [wtab_length]; omega), wtab_length, show 145 + u - 144 = u + 1 from by omega]
  congr 3
  unfold wtail
  rw [List.set_cons_succ]
  congr 1
  apply List.ext_getElem?
  intro i
  rw [List.getElem?_set]
  by_cases hi : i < 12
  · by_cases he : u = i
    · subst he; simp [hu]
    · rw [if_neg he, List.getElem?_map, List.getElem?_map, List.getElem?_range hi]
      have : (i ∈ l ++ [u]) ↔ i ∈ l := by simp [Ne.symm he]
      simp only [Option.map_some, this]
  · rw [if_neg (by omega)]
    rw [List.getElem?_eq_none (by simp; omega), List.getElem?_eq_none (by simp; omega)]
theorem wcells_set_tab {u v : Nat} (hu : u < 12) (hv : v < 12) (x : Int) : (wcells n t ch l).setIfInBounds (1 + u * 12 + v) (.int .i64 x) = wcells n (fun a b => if a = u ∧ b = v then x else t a b) ch l := by
  unfold wcells
  rw [List.setIfInBounds_toArray, show 1 + u * 12 + v = (u * 12 + v) + 1 from by omega, List.set_cons_succ, List.set_append_left _ _ (by rw [wtab_length]; omega)]
  congr 3
  unfold wtab
  apply List.ext_getElem?
  intro i
  rw [List.getElem?_set]
  by_cases hi : i < 144
  · by_cases he : u * 12 + v = i
    · subst he
      simp only [if_true]
      rw [if_pos (by simp; omega), List.getElem?_map, List.getElem?_range hi]
      have h1 : (u * 12 + v) / 12 = u := by omega
      have h2 : (u * 12 + v) % 12 = v := by omega
      simp [h1, h2]
    · rw [if_neg he, List.getElem?_map, List.getElem?_map, List.getElem?_range hi]
      have hne : ¬ (i / 12 = u ∧ i % 12 = v) := by omega
      simp only [Option.map_some, if_neg hne]
  · rw [if_neg (by omega)]
    rw [List.getElem?_eq_none (by simp; omega), List.getElem?_eq_none (by simp; omega)]
theorem wcells_ext {t' : Nat → Nat → Int} (h : ∀ u v, u < 12 → v < 12 → t u v = t' u v) : wcells n t ch l = wcells n t' ch l := by
  unfold wcells
  congr 3
  unfold wtab
  apply List.map_congr_left
  intro i hi
  rw [List.mem_range] at hi
  rw [h _ _ (by omega) (by omega)]
end
def Wood (w : World) (g n : Nat) (es : List E3) (ch : Value) (l : List Nat) : Prop := Blk w g 359 (wcells n (tt es) ch l)
section
variable {w w' : World} {g n : Nat} {es : List E3} {ch : Value} {l : List Nat}
theorem Wood.n_ (h : Wood w g n es ch l) : w.cell? ⟨g, 0, none⟩ = some (.int .i64 n) := (Blk.cell h 0).trans wcells_n
theorem Wood.tab_ (h : Wood w g n es ch l) {u v : Nat} (hu : u < 12) (hv : v < 12) : w.cell? ⟨g, 1 + u * 12 + v, none⟩ = some (.int .i64 (tt es u v)) := (Blk.cell h _).trans (wcells_tab hu hv)
theorem Wood.ch_ (h : Wood w g n es ch l) : w.cell? ⟨g, 145, none⟩ = some ch := (Blk.cell h _).trans wcells_ch
theorem Wood.burnt_ (h : Wood w g n es ch l) {u : Nat} (hu : u < 12) : w.cell? ⟨g, 146 + u, none⟩ = some (.bool (decide (u ∈ l))) := (Blk.cell h _).trans (wcells_burnt hu)
theorem Wood.burn (h : Wood w g n es ch l) {u : Nat} (hu : u < 12) : Wood (w.setCell ⟨g, 146 + u, none⟩ (.bool true)) g n es ch (l ++ [u]) := by
  have := Blk.set_ h (146 + u) (.bool true)
  rwa [wcells_set_burnt hu] at this
end
set_option maxHeartbeats 2000000 in
theorem flames_any (g n : Nat) (hn : n ≤ 12) (es : List E3) (N : Int) (hok : ∀ e ∈ es, okE N e) (ch : Value) (l : List Nat) (v : Nat) (hv : v < 12) (w : World) (h : Wood w g n es ch l) :
    Calls Tryz.prog 350 #[.pointer (some ⟨g, 0, none⟩), .int .i64 v] w fun e w' => e = .returned (.int .i64 (flmTo es l v n)) ∧ w = w' := by
  have c0 := h.n_
  have HO := Lib.hid hok
  have hvi : (v : Int) < 12 := by omega
  clear hok
  go_enter Tryz.func350, Tryz.ntmps350
  go_wp2
  go_loop [5, 11] (fun s i => ∃ k : Nat, k ≤ n ∧ i = .int .i64 k ∧ s = .int .i64 (flmTo es l v k)) (fun _ i => n - (intOf i).toNat)
  case atStart => exact ⟨0, by omega, rfl, rfl⟩
  case round =>
    obtain ⟨k, hk, rfl, rfl⟩ := hrel
    by_cases hlt : k < n
    · have hi : (k : Int) < (n : Int) := by omega
      have hi2 : (k : Int) < 12 := by omega
      have cb := h.burnt_ (u := k) (by omega)
      have ct := h.tab_ (u := v) (v := k) hv (by omega)
      have hf := flmTo_bd HO.out l v k
      have ht := tt_bd HO.out v k
      have hs : flmTo es l v (k + 1) = flmTo es l v k + if k ∈ l then tt es v k else 0 := rfl
      by_cases hm : k ∈ l
      · rw [if_pos hm] at hs
        rw [decide_eq_true hm] at cb
        have HS := Lib.hid hs
        obtain ⟨x, hx⟩ : ∃ x, flmTo es l v k = x := ⟨_, rfl⟩
        obtain ⟨y, hy⟩ : ∃ y, tt es v k = y := ⟨_, rfl⟩
        rw [hx] at hf HS ⊢
        rw [hy] at ht ct HS
        clear hs hm hx hy
        go_wp2
        go_round
        case rel => exact ⟨k + 1, by omega, by go_num, by rw [HS.out]⟩
        case measure => simp [intOf]; omega
      · rw [if_neg hm] at hs
        rw [decide_eq_false hm] at cb
        have HS := Lib.hid hs
        clear hs hm
        go_wp2
        go_round
        case rel => exact ⟨k + 1, by omega, by go_num, by rw [HS.out]; simp⟩
        case measure => simp [intOf]; omega
    · obtain rfl : k = n := by omega
      go_wp2
      go_ret
      exact ⟨rfl, rfl⟩
set_option maxHeartbeats 2000000 in
theorem catches_any (g n : Nat) (hn : n ≤ 12) (es : List E3) (N : Int) (hok : ∀ e ∈ es, okE N e) (A : Option Addr) (c : Nat) (cs : List Int) (hcl : cs.length = n) (l : List Nat) (hl : LOk n l) (v : Nat) (hv : v < n) (w : World) (h : Wood w g n es (.slice A cs.length c) l) (hr : Reads w w.heap.size 1 A cs.length (ints cs)) :
    Calls Tryz.prog 330 #[.pointer (some ⟨g, 0, none⟩), .int .i64 v] w fun e w' => e = .returned (.bool (catL es cs l v)) ∧ ∃ m, w' = w.drewN m := by
  have cb := h.burnt_ (u := v) (by omega)
  have hvi : (v : Int) < 12 := by omega
  have hcat : catL es cs l v = (!decide (v ∈ l) && decide (cs.getD v 0 < joinsN es v l)) := rfl
  by_cases hm : v ∈ l
  · rw [decide_eq_true hm] at cb hcat
    have HC := Lib.hid hcat
    clear hcat hm
    go_enter Tryz.func330, Tryz.ntmps330
    go_wp2
    go_quiet (fail)
    go_wp2
    go_ret
    exact ⟨ret_bool (by rw [HC.out]; rfl), ⟨_, rfl⟩⟩
  · have hf := flm_joins l hl hm (es := es)
    have FC := Lib.hid (fun w h => flames_any g n hn es N hok (.slice A cs.length c) l v (by omega) w h)
    rw [decide_eq_false hm] at cb hcat
    rw [hf] at FC
    obtain ⟨x, hx⟩ := get_of_lt (xs := cs) (k := v) (by omega)
    rw [getD_at hx] at hcat
    obtain ⟨b, off, rfl, hb', hcell⟩ := hr.at_ (ints_at hx)
    obtain ⟨q, hq⟩ : ∃ q, joinsN es v l = q := ⟨_, rfl⟩
    rw [hq] at hcat FC
    have HC := Lib.hid hcat
    have cc := h.ch_
    have hvl : (v : Int) < (cs.length : Int) := by omega
    have H := Lib.hid h
    clear hcat hm hf hq hx hl hok hcl h
    go_enter Tryz.func330, Tryz.ntmps330
    go_wp2
    go_quiet ((go_at_call 350; exact Calls.quiet_of_same ((FC.out _ (by exact H.out)).mono fun _ _ h => ⟨h.1, h.2.symm⟩)))
    go_wp2
    go_ret
    exact ⟨ret_bool (by rw [HC.out]; simp), ⟨_, rfl⟩⟩
end Go.Proofs.YtnbikkcalcpedaaGreatDoor
