/-
 Texts of this claim, put together: HeapP, RegTake, RegHeld, Results, BurnP, Rows2, For.
-/
import Derived.Test.YtnbikkcalcpedaaGreatDoorK02
import Derived.Test.YtnbikkcalcpedaaGreatDoorK01
import Derived.Deep.RegionLaw
import Derived.Deep.RegionHeld
import Derived.Test.YtnbikkcalcpedaaGreatDoorRows
import Derived.Laws.Rows
import Derived.Laws.ResultCell
import Derived.Test.YtnbikkcalcpedaaGreatDoorK03
import Derived.Deep.RegionHeld3
set_option maxRecDepth 100000
set_option maxHeartbeats 2000000
namespace Go.Proofs.YtnbikkcalcpedaaGreatDoor
def hp (H : List Int) (k : Nat) : Int := H.getD k 0
def swp (H : List Int) (i j : Nat) : List Int := (H.set i (hp H j)).set j (hp H i)
theorem hp_at {H : List Int} {k : Nat} (h : k < H.length) : H[k]? = some (hp H k) := by
 unfold hp; rw [List.getD_eq_getElem?_getD, List.getElem?_eq_getElem h]; rfl
theorem hp_set {H : List Int} {i : Nat} (h : i < H.length) (x : Int) (k : Nat) : hp (H.set i x) k = if k = i then x else hp H k := by
 unfold hp
 rw [List.getD_eq_getElem?_getD, List.getElem?_set]
 by_cases hk : k = i
 ·subst hk; rw [if_pos rfl, if_pos rfl, if_pos h]; rfl
 ·rw [if_neg (fun e => hk e.symm), if_neg hk, List.getD_eq_getElem?_getD]
theorem swp_length (H : List Int) (i j : Nat) : (swp H i j).length = H.length := by simp [swp]
theorem hp_swp {H : List Int} {i j : Nat} (hi : i < H.length) (hj : j < H.length) (k : Nat) : hp (swp H i j) k = if k = j then hp H i else if k = i then hp H j else hp H k := by
 unfold swp
 rw [hp_set (by simpa using hj), hp_set hi]
theorem swp_perm {H : List Int} {i j : Nat} (hi : i < H.length) (hj : j < H.length) : (swp H i j).Perm H := by
 have e1 : hp H i = H[i] := by unfold hp; rw [List.getD_eq_getElem?_getD, List.getElem?_eq_getElem hi]; rfl
 have e2 : hp H j = H[j] := by unfold hp; rw [List.getD_eq_getElem?_getD, List.getElem?_eq_getElem hj]; rfl
 unfold swp
 rw [e1, e2]
 exact List.set_set_perm hi hj
def HeapN (H : List Int) (n : Nat) : Prop := ∀ k, 0 < k → k < n → hp H ((k - 1) / 2) ≤ hp H k
theorem heap_min {H : List Int} {n : Nat} (h : HeapN H n) : ∀ k, k < n → hp H 0 ≤ hp H k := by
 intro k
 induction k using Nat.strongRecOn with
 | _ k ih =>
   intro hk
   by_cases h0 : k = 0
   ·subst h0; exact Int.le_refl _
   ·have h1 := h k (by omega) hk
    have h2 := ih ((k - 1) / 2) (by omega) (by omega)
    omega
structure UpI (H : List Int) (n j : Nat) : Prop where
 lt : j < n
 le : n ≤ H.length
 rest : ∀ k, 0 < k → k < n → k ≠ j → hp H ((k - 1) / 2) ≤ hp H k
 kids : ∀ k, 0 < k → k < n → (k - 1) / 2 = j → 0 < j → hp H ((j - 1) / 2) ≤ hp H k
theorem UpI.step {H : List Int} {n j : Nat} (h : UpI H n j) (hj : 0 < j) (hlt : hp H j < hp H ((j - 1) / 2)) : UpI (swp H ((j - 1) / 2) j) n ((j - 1) / 2) := by
 obtain ⟨h1, h2, h3, h4⟩ := h
 obtain ⟨i, hi⟩ : ∃ i, (j - 1) / 2 = i := ⟨_, rfl⟩
 have hs := hp_swp (H := H) (i := i) (j := j) (by omega) (by omega)
 rw [hi] at hlt h4 ⊢
 refine ⟨by omega, by rw [swp_length]; exact h2, fun k k0 k1 k2 => ?_, fun k k0 k1 k2 k3 => ?_⟩
 ·rw [hs, hs]
  by_cases e1 : k = j
  ·subst e1
   rw [if_pos rfl, hi, if_neg (by omega), if_pos rfl]; omega
  ·rw [if_neg e1, if_neg k2]
   have h5 := h3 k k0 k1 e1
   by_cases e2 : (k - 1) / 2 = j
   ·rw [if_pos e2]; exact h4 k k0 k1 e2 hj
   ·rw [if_neg e2]
    by_cases e3 : (k - 1) / 2 = i
    ·rw [if_pos e3]; rw [e3] at h5; omega
    ·rw [if_neg e3]; exact h5
 ·rw [hs, hs]
  have h6 := h3 i k3 (by omega) (by omega)
  rw [if_neg (by omega), if_neg (by omega)]
  by_cases e1 : k = j
  ·rw [if_pos e1]; exact h6
  ·rw [if_neg e1, if_neg (by omega)]
   have h5 := h3 k k0 k1 e1
   rw [k2] at h5; omega
theorem UpI.done {H : List Int} {n j : Nat} (h : UpI H n j) (hd : j = 0 ∨ hp H ((j - 1) / 2) ≤ hp H j) : HeapN H n := by
 intro k k0 k1
 by_cases e : k = j
 ·subst e
  rcases hd with hd | hd
  ·omega
  ·exact hd
 ·exact h.rest k k0 k1 e
theorem UpI.start {H : List Int} {x : Int} (h : HeapN H H.length) : UpI (H ++ [x]) (H.length + 1) H.length := by
 have hl : ∀ k, k < H.length → hp (H ++ [x]) k = hp H k := fun k hk => by
  unfold hp; rw [List.getD_eq_getElem?_getD, List.getD_eq_getElem?_getD, List.getElem?_append_left hk]
 refine ⟨by omega, by simp, fun k k0 k1 k2 => ?_, fun k k0 k1 k2 k3 => by omega⟩
 rw [hl _ (by omega), hl _ (by omega)]
 exact h k k0 (by omega)
structure DnI (H : List Int) (n i : Nat) : Prop where
 le : n ≤ H.length
 rest : ∀ k, 0 < k → k < n → (k - 1) / 2 ≠ i → hp H ((k - 1) / 2) ≤ hp H k
 kids : ∀ k, 0 < k → k < n → (k - 1) / 2 = i → 0 < i → hp H ((i - 1) / 2) ≤ hp H k
theorem DnI.step {H : List Int} {n i j : Nat} (h : DnI H n i) (hj : j < n) (hp1 : j = 2 * i + 1 ∨ j = 2 * i + 2) (hm : ∀ k, k < n → (k = 2 * i + 1 ∨ k = 2 * i + 2) → hp H j ≤ hp H k) (hlt : hp H j < hp H i) : DnI (swp H i j) n j := by
 obtain ⟨h2, h3, h4⟩ := h
 have hs := hp_swp (H := H) (i := i) (j := j) (by omega) (by omega)
 have hpj : (j - 1) / 2 = i := by omega
 refine ⟨by rw [swp_length]; exact h2, fun k k0 k1 k2 => ?_, fun k k0 k1 k2 k3 => ?_⟩
 ·rw [hs, hs, if_neg k2]
  by_cases e1 : k = j
  ·subst e1
   rw [if_pos rfl, if_pos hpj]; omega
  ·rw [if_neg e1]
   by_cases e2 : k = i
   ·subst e2
    rw [if_pos rfl, if_neg (by omega)]
    exact h4 j (by omega) hj hpj k0
   ·rw [if_neg e2]
    by_cases e3 : (k - 1) / 2 = i
    ·rw [if_pos e3]; exact hm k k1 (by omega)
    ·rw [if_neg e3]; exact h3 k k0 k1 e3
 ·rw [hs, hs, hpj, if_neg (by omega), if_pos rfl, if_neg (by omega), if_neg (by omega)]
  have := h3 k k0 k1 (by omega)
  rw [k2] at this; exact this
theorem DnI.done {H : List Int} {n i : Nat} (h : DnI H n i) (hd : ∀ k, k < n → (k = 2 * i + 1 ∨ k = 2 * i + 2) → hp H i ≤ hp H k) : HeapN H n := by
 intro k k0 k1
 by_cases e : (k - 1) / 2 = i
 ·rw [e]; exact hd k k1 (by omega)
 ·exact h.rest k k0 k1 e
theorem DnI.start {H : List Int} {n : Nat} (h : HeapN H (n + 1)) (hl : H.length = n + 1) : DnI (swp H 0 n) n 0 := by
 have hs := hp_swp (H := H) (i := 0) (j := n) (by omega) (by omega)
 refine ⟨by rw [swp_length]; omega, fun k k0 k1 k2 => ?_, fun k k0 k1 k2 k3 => by omega⟩
 rw [hs, hs, if_neg (by omega), if_neg k2, if_neg (by omega), if_neg (by omega)]
 exact h k k0 (by omega)
theorem heap_take {H : List Int} {n : Nat} (h : HeapN H n) (_hl : n ≤ H.length) : HeapN (H.take n) n := by
 intro k k0 k1
 have e : ∀ j, j < n → hp (H.take n) j = hp H j := fun j hj => by
  unfold hp; rw [List.getD_eq_getElem?_getD, List.getD_eq_getElem?_getD, List.getElem?_take, if_pos hj]
 rw [e _ (by omega), e _ k1]
 exact h k k0 k1
end Go.Proofs.YtnbikkcalcpedaaGreatDoor
namespace Go.Proofs.YtnbikkcalcpedaaGreatDoor
open Go
section
variable {P : Program} {md : Region.Mode} {Q : Exit → Act → World → Prop} {l : List Oper} {i : Nat} {o : Oper} {v : Value} {fuel : Nat} {listed : Array Bool} {a : Act} {w : World}
end
end Go.Proofs.YtnbikkcalcpedaaGreatDoor
namespace Go.Proofs.YtnbikkcalcpedaaGreatDoor
open Go
section
variable {P : Program} {md : Region.Mode} {Q : Exit → Act → World → Prop} {S : World → Prop} {l : List Oper} {i : Nat} {o : Oper} {v : Value} {fuel : Nat} {listed : Array Bool} {a : Act} {w : World}
end
end Go.Proofs.YtnbikkcalcpedaaGreatDoor
namespace Go.Proofs.YtnbikkcalcpedaaGreatDoor
open Go.RowKit
section
variable {fn : Func} {p u v : Tmp} {tmps : Array Value} {w : World} {g : Nat} {cs : Array Value}
theorem info_graph : (Tryz.prog.info? 24).map (·.size) = some 2 := by kernel_rfl
theorem results_g (h : fn.results = #[.cell p 24]) (hp : tmps.getD p undef = .pointer (some ⟨g, 0, none⟩)) (hg : Blk w g 24 cs) (hs : cs.size = 2) :
  (results fn tmps).run Tryz.prog w = .ok (.agg cs) w := by
 exact results_cell_row h tmps w g _ cs _ _ hp hg Tryz.underlying24 rfl (by rw [info_graph, hs])
theorem results_g1 (h : fn.results = #[.cell p 24, .tmp u]) (hp : tmps.getD p undef = .pointer (some ⟨g, 0, none⟩)) (hg : Blk w g 24 cs) (hs : cs.size = 2) :
  (results fn tmps).run Tryz.prog w = .ok (.tuple #[.agg cs, tmps.getD u undef]) w := by
 have hi : (Tryz.prog.info? 24).map (·.size) = some cs.size := by rw [info_graph, hs]
 have hp' : tmps[p]?.getD undef = .pointer (some ⟨g, 0, none⟩) := by simpa using hp
 simp [results, h, hp', asAddr, run_loadVar_row w g _ _ cs _ _ hg Tryz.underlying24 rfl hi]
end
end Go.Proofs.YtnbikkcalcpedaaGreatDoor
namespace Go.Proofs.YtnbikkcalcpedaaGreatDoor
def joinsN (es : List (Int × Int × Int)) (v : Nat) (l : List Nat) : Int := (l.map fun u : Nat => btw es v u).sum
def flmTo (es : List (Int × Int × Int)) (l : List Nat) (v : Nat) : Nat → Int
 | 0 => 0
 | k + 1 => flmTo es l v k + if k ∈ l then tt es v k else 0
def LOk (n : Nat) (l : List Nat) : Prop := l.Nodup ∧ ∀ u ∈ l, u < n
theorem joinsN_snoc (es : List (Int × Int × Int)) (v : Nat) (l : List Nat) (x : Nat) : joinsN es v (l ++ [x]) = joinsN es v l + btw es v x := by simp [joinsN]
theorem joinsN_nil (es : List (Int × Int × Int)) (v : Nat) : joinsN es v [] = 0 := rfl
theorem flmTo_bd {n : Int} {es : List (Int × Int × Int)} (h : ∀ e ∈ es, okE n e) (l : List Nat) (v k : Nat) : 0 ≤ flmTo es l v k ∧ flmTo es l v k ≤ 50 * k := by
 induction k with
 | zero => simp [flmTo]
 | succ k ih =>
   have := tt_bd h v k
   rw [flmTo]
   split <;> omega
theorem flmTo_snoc {es : List (Int × Int × Int)} {l : List Nat} {v x : Nat} (hx : x ∉ l) : ∀ k, flmTo es (l ++ [x]) v k = flmTo es l v k + if x < k then tt es v x else 0
 | 0 => by simp [flmTo]
 | k + 1 => by
   rw [flmTo, flmTo, flmTo_snoc hx k]
   by_cases hk : k = x
   ·subst hk
    simp [hx]
   ·have h1 : (k ∈ l ++ [x]) ↔ k ∈ l := by simp [hk]
    simp only [h1]
    by_cases h2 : x < k
    ·have h3 : x < k + 1 := by omega
     simp only [h2, h3, if_true]; omega
    ·have h3 : ¬ x < k + 1 := by omega
     simp only [h2, h3, if_false]; omega
theorem flmTo_nil (es : List (Int × Int × Int)) (v k : Nat) : flmTo es [] v k = 0 := by
 induction k with
 | zero => rfl
 | succ k ih => rw [flmTo, ih]; simp
theorem LOk.front {n : Nat} {l : List Nat} {x : Nat} (h : LOk n (l ++ [x])) : LOk n l ∧ x ∉ l ∧ x < n := by
 obtain ⟨h1, h2⟩ := h
 rw [List.nodup_append] at h1
 obtain ⟨a, b, c⟩ := h1
 exact ⟨⟨a, fun u hu => h2 u (by simp [hu])⟩, fun hx => c x hx x (by simp) rfl, h2 x (by simp)⟩
theorem LOk.snoc {n : Nat} {l : List Nat} {x : Nat} (h : LOk n l) (hx : x ∉ l) (hn : x < n) : LOk n (l ++ [x]) := by
 refine ⟨?_, ?_⟩
 ·rw [List.nodup_append]
  exact ⟨h.1, by simp, fun a ha b hb e => by simp at hb; subst hb; subst e; exact hx ha⟩
 ·intro u hu
  rcases List.mem_append.1 hu with hu | hu
  ·exact h.2 u hu
  ·simp at hu; omega
theorem snocRec {α : Type} {P : List α → Prop} (h0 : P []) (h1 : ∀ l x, P l → P (l ++ [x])) (l : List α) : P l := by
 obtain ⟨r, rfl⟩ : ∃ r, l = r.reverse := ⟨l.reverse, by simp⟩
 induction r with
 | nil => exact h0
 | cons x r ih => rw [List.reverse_cons]; exact h1 _ _ ih
theorem flm_joins {es : List (Int × Int × Int)} {n v : Nat} (l : List Nat) : LOk n l → v ∉ l → flmTo es l v n = joinsN es v l := by
 induction l using snocRec with
 | h0 => intro _ _; rw [flmTo_nil]; rfl
 | h1 l x ih =>
   intro h hv
   obtain ⟨h1, h2, h3⟩ := h.front
   rw [flmTo_snoc h2, joinsN_snoc, ih h1 (fun hc => hv (by simp [hc])), if_pos h3]
   unfold tt
   rw [if_neg (fun e => hv (by simp [e]))]
theorem joinsN_cons (es : List (Int × Int × Int)) (v x : Nat) (l : List Nat) : joinsN es v (x :: l) = btw es v x + joinsN es v l := by simp [joinsN]
theorem joinsN_erase (es : List (Int × Int × Int)) (v x : Nat) : ∀ {l : List Nat}, x ∈ l → joinsN es v l = btw es v x + joinsN es v (l.erase x)
 | [], h => by simp at h
 | y :: l, h => by
   by_cases hy : y = x
   ·subst hy; rw [joinsN_cons, List.erase_cons_head]
   ·rw [List.erase_cons_tail (by simpa using hy), joinsN_cons, joinsN_cons]
    rw [joinsN_erase es v x (l := l) (by
     rcases List.mem_cons.1 h with rfl | h
     ·exact absurd rfl hy
     ·exact h)]
    omega
theorem joinsN_nonneg {es : List (Int × Int × Int)} (he : ∀ a b, 0 ≤ btw es a b) (v : Nat) (l : List Nat) : 0 ≤ joinsN es v l := by
 induction l with
 | nil => exact Int.le_refl _
 | cons x l ih => rw [joinsN_cons]; have := he v x; omega
theorem joins_mono {es : List (Int × Int × Int)} {n m : Nat} (he : ∀ a b, 0 ≤ btw es a b) : ∀ {l l' : List Nat}, LOk n l → LOk m l' → (∀ u ∈ l, u ∈ l') → ∀ v, joinsN es v l ≤ joinsN es v l'
 | [], l', _, _, _, v => by rw [joinsN_nil]; exact joinsN_nonneg he v l'
 | x :: l, l', h, h', hs, v => by
   obtain ⟨h1, h2⟩ := h
   rw [List.nodup_cons] at h1
   have hx := hs x (by simp)
   rw [joinsN_cons, joinsN_erase es v x hx]
   have := joins_mono he (l := l) (l' := l'.erase x) ⟨h1.2, fun u hu => h2 u (by simp [hu])⟩ ⟨h'.1.erase x, fun u hu => h'.2 u (List.mem_of_mem_erase hu)⟩ (fun u hu => by
    rw [h'.1.mem_erase_iff]
    exact ⟨fun e => h1.1 (e ▸ hu), hs u (by simp [hu])⟩) v
   omega
def catL (es : List (Int × Int × Int)) (c : List Int) (l : List Nat) (v : Nat) : Bool := !decide (v ∈ l) && decide (c.getD v 0 < joinsN es v l)
def readyL (es : List (Int × Int × Int)) (c : List Int) (n : Nat) (l : List Nat) : List Nat := (List.range n).filter (catL es c l)
def burnL (es : List (Int × Int × Int)) (c : List Int) (n : Nat) : Nat → List Nat → List Nat
 | 0, l => l
 | k + 1, l => match (readyL es c n l).head? with
   | none => l
   | some v => burnL es c n k (l ++ [v])
def burntL (es : List (Int × Int × Int)) (c : List Int) (n q : Nat) : List Nat := burnL es c n n [q]
def restL (n : Nat) (l : List Nat) : List Nat := (List.range n).filter fun v => !decide (v ∈ l)
section
variable {es : List (Int × Int × Int)} {c : List Int} {n : Nat} {l : List Nat} {v : Nat}
theorem catL_true : catL es c l v = true ↔ v ∉ l ∧ c.getD v 0 < joinsN es v l := by simp [catL]
theorem mem_ready : v ∈ readyL es c n l ↔ v < n ∧ v ∉ l ∧ c.getD v 0 < joinsN es v l := by
 unfold readyL; rw [List.mem_filter, List.mem_range, catL_true]
theorem mem_rest : v ∈ restL n l ↔ v < n ∧ v ∉ l := by
 unfold restL; rw [List.mem_filter, List.mem_range]; simp
theorem head_ready (h : (readyL es c n l).head? = some v) : v < n ∧ v ∉ l ∧ c.getD v 0 < joinsN es v l := mem_ready.1 (List.mem_of_mem_head? (by rw [h]; rfl))
theorem head_ready_of (hn : v < n) (hv : catL es c l v = true) (hlt : ∀ u, u < v → catL es c l u = false) : (readyL es c n l).head? = some v := by
 unfold readyL
 rw [List.head?_filter, List.find?_range_eq_some]
 exact ⟨hv, by simpa using hn, fun u hu => by simp [hlt u hu]⟩
theorem ready_none (h : ∀ u, u < n → catL es c l u = false) : readyL es c n l = [] := by
 unfold readyL
 rw [List.filter_eq_nil_iff]
 intro u hu
 rw [h u (by simpa using hu)]
 simp
theorem none_ready (h : (readyL es c n l).head? = none) : ∀ u, u < n → catL es c l u = false := by
 intro u hu
 have h0 : readyL es c n l = [] := by simpa using h
 unfold readyL at h0
 rw [List.filter_eq_nil_iff] at h0
 have := h0 u (by simpa using hu)
 simpa using this
theorem burnL_ok (k : Nat) : ∀ l, LOk n l → LOk n (burnL es c n k l) := by
 induction k with
 | zero => intro l h; exact h
 | succ k ih =>
   intro l h
   rw [burnL]
   rcases he : (readyL es c n l).head? with _ | v
   ·exact h
   ·obtain ⟨h1, h2, _⟩ := head_ready he
    exact ih _ (h.snoc h2 h1)
theorem burnL_pre (k : Nat) : ∀ l, l <+: burnL es c n k l := by
 induction k with
 | zero => intro l; exact List.prefix_rfl
 | succ k ih =>
   intro l
   rw [burnL]
   rcases he : (readyL es c n l).head? with _ | v
   ·exact List.prefix_rfl
   ·exact (List.prefix_append l [v]).trans (ih _)
theorem nodup_len : ∀ {n : Nat} {l : List Nat}, LOk n l → l.length ≤ n
 | 0, l, h => by
   rcases l with _ | ⟨x, l⟩
   ·simp
   ·have := h.2 x (by simp); omega
 | n + 1, l, h => by
   by_cases hn : n ∈ l
   ·have h1 : LOk n (l.erase n) := ⟨h.1.erase n, fun u hu => by
     have h2 := (h.1.mem_erase_iff).1 hu
     have := h.2 u h2.2
     have := h2.1
     omega⟩
    have := nodup_len h1
    rw [List.length_erase_of_mem hn] at this
    omega
   ·have h1 : LOk n l := ⟨h.1, fun u hu => by
     have := h.2 u hu
     have : u ≠ n := fun e => hn (e ▸ hu)
     omega⟩
    have := nodup_len h1
    omega
theorem burnL_done {k : Nat} : ∀ {l : List Nat}, LOk n l → n ≤ l.length + k → ∀ u, u < n → catL es c (burnL es c n k l) u = false := by
 induction k with
 | zero =>
   intro l h hk u hu
   rw [burnL]
   by_cases hm : u ∈ l
   ·simp [catL, hm]
   ·have := nodup_len (h.snoc hm hu)
    simp at this
    omega
 | succ k ih =>
   intro l h hk u hu
   rw [burnL]
   rcases he : (readyL es c n l).head? with _ | v
   ·exact none_ready he u hu
   ·obtain ⟨h1, h2, _⟩ := head_ready he
    exact ih (h.snoc h2 h1) (by simp; omega) u hu
theorem burnL_stop (h : (readyL es c n l).head? = none) (k : Nat) : burnL es c n k l = l := by
 rcases k with _ | k
 ·rfl
 ·rw [burnL, h]
theorem burnL_step (h : (readyL es c n l).head? = some v) (k : Nat) : burnL es c n (k + 1) l = burnL es c n k (l ++ [v]) := by rw [burnL, h]
theorem burnL_more {k j : Nat} : ∀ {l : List Nat}, LOk n l → n ≤ l.length + k → n ≤ l.length + j → burnL es c n k l = burnL es c n j l := by
 induction k generalizing j with
 | zero =>
   intro l h hk hj
   have hnone : (readyL es c n l).head? = none := by
    rw [ready_none]
    ·rfl
    ·intro u hu
     have := burnL_done (es := es) (c := c) (k := 0) h hk u hu
     exact this
   rw [burnL_stop hnone, burnL_stop hnone]
 | succ k ih =>
   intro l h hk hj
   rcases he : (readyL es c n l).head? with _ | v
   ·rw [burnL_stop he, burnL_stop he]
   ·obtain ⟨h1, h2, _⟩ := head_ready he
    rcases j with _ | j
    ·have := nodup_len (h.snoc h2 h1)
     simp at this
     omega
    ·rw [burnL_step he, burnL_step he]
     exact ih (h.snoc h2 h1) (by simp; omega) (by simp; omega)
theorem burns_same {l' : List Nat} (hl : ∀ u ∈ l, u ∈ l') (hc : ∀ u, u < n → catL es c l' u = false) (hn : LOk n l') (he : ∀ a b, 0 ≤ btw es a b) (k : Nat) : LOk n l → ∀ u ∈ burnL es c n k l, u ∈ l' := by
 induction k generalizing l with
 | zero => intro _ u hu; exact hl u hu
 | succ k ih =>
   intro h0
   rw [burnL]
   rcases hv : (readyL es c n l).head? with _ | v
   ·exact hl
   ·obtain ⟨h1, h2, h3⟩ := head_ready hv
    refine ih (l := l ++ [v]) ?_ (h0.snoc h2 h1)
    intro u hu
    rcases List.mem_append.1 hu with hu | hu
    ·exact hl u hu
    ·simp at hu
     subst hu
     refine Classical.byContradiction fun hm => ?_
     have := hc u h1
     rw [← Bool.not_eq_true, catL_true] at this
     refine this ⟨hm, ?_⟩
     have hle : joinsN es u l ≤ joinsN es u l' := joins_mono he h0 hn hl u
     omega
end
end Go.Proofs.YtnbikkcalcpedaaGreatDoor
namespace Go.Proofs.YtnbikkcalcpedaaGreatDoor
section
variable {es : List (Int × Int × Int)} {c : List Int} {n : Nat} {l : List Nat} {v : Nat}
theorem restL_nodup (n : Nat) (l : List Nat) : (restL n l).Nodup := by unfold restL; exact List.Nodup.sublist List.filter_sublist List.nodup_range
theorem restL_snoc (n : Nat) (l : List Nat) (x : Nat) : restL n (l ++ [x]) = (restL n l).erase x := by
 rw [(restL_nodup n l).erase_eq_filter]
 unfold restL
 rw [List.filter_filter]
 apply List.filter_congr
 intro u _
 by_cases h : u = x <;> by_cases h2 : u ∈ l <;> simp [h, h2]
theorem rest_len (l : List Nat) : LOk n l → (restL n l).length + l.length = n := by
 induction l using snocRec with
 | h0 =>
   intro _
   unfold restL
   rw [List.filter_eq_self.2 (by simp)]
   simp
 | h1 l x ih =>
   intro h
   obtain ⟨h1, h2, h3⟩ := h.front
   have := ih h1
   have hm : x ∈ restL n l := mem_rest.2 ⟨h3, h2⟩
   have hp := List.length_pos_of_mem hm
   rw [restL_snoc, List.length_erase_of_mem hm, List.length_append, List.length_singleton]
   omega
theorem burnL_next (h : LOk n l) (hv : (readyL es c n l).head? = some v) : burnL es c n n l = burnL es c n n (l ++ [v]) := by
 obtain ⟨h1, h2, _⟩ := head_ready hv
 rcases n with _ | n
 ·omega
 ·rw [burnL_step hv, burnL_more (h.snoc h2 h1) (k := n) (j := n + 1) (by rw [List.length_append, List.length_singleton]; omega) (by rw [List.length_append, List.length_singleton]; omega)]
def fireS (es : List (Int × Int × Int)) (c : List Int) (n : Nat) (l : List Nat) : List Nat := (burnL es c n n l).drop l.length
theorem fireS_eq : burnL es c n n l = l ++ fireS es c n l := by
 obtain ⟨t, ht⟩ := burnL_pre (es := es) (c := c) (n := n) n l
 unfold fireS
 rw [← ht, List.drop_left]
theorem fire_pre {pre : List Nat} (h : burnL es c n n (l ++ pre) = burnL es c n n l) : pre <+: fireS es c n l := by
 have h1 := burnL_pre (es := es) (c := c) (n := n) n (l ++ pre)
 rw [h, fireS_eq] at h1
 exact (List.prefix_append_right_inj l).1 h1
theorem fire_end {pre : List Nat} (h : burnL es c n n (l ++ pre) = burnL es c n n l) (hn : ∀ u, u < n → catL es c (l ++ pre) u = false) : pre = fireS es c n l ∧ burnL es c n n l = l ++ pre := by
 have h1 : burnL es c n n (l ++ pre) = l ++ pre := burnL_stop (by rw [ready_none hn]; rfl) n
 have h2 : burnL es c n n l = l ++ pre := h.symm.trans h1
 refine ⟨?_, h2⟩
 rw [fireS_eq] at h2
 exact (List.append_cancel_left h2).symm
theorem burnL_len (h : LOk n l) : LOk n (burnL es c n n l) := burnL_ok n l h
end
theorem tt_append {n : Int} {es fs : List (Int × Int × Int)} (h : (es ++ fs).Pairwise ltE) (hok : ∀ e ∈ es, okE n e) (x w : Nat) : tt (es ++ fs) x w = tt es x w + tt fs x w := by
 unfold tt
 split
 ·rfl
 ·exact btw_append h (fun e he => by have := hok e he; unfold okE at this; omega) _ _
theorem fewer_burn {n q : Nat} {es : List (Int × Int × Int)} (he : ∀ a b, 0 ≤ btw es a b) (hq : q < n) {cs ds : List Int} (h : ∀ v, v < n → ds.getD v 0 ≤ cs.getD v 0) : ∀ v, v ∈ burntL es cs n q → v ∈ burntL es ds n q := by
 have hl : LOk n [q] := ⟨by simp, by simpa using hq⟩
 have hdone := burnL_done (es := es) (c := ds) (n := n) (k := n) (l := [q]) hl (by simp)
 refine burns_same (es := es) (c := cs) (n := n) (l := [q]) (l' := burntL es ds n q) (fun u hu => (burnL_pre n [q]).subset hu) (fun u hu => ?_) (burnL_ok n _ hl) he n hl
 have h1 := hdone u hu
 change catL es ds (burntL es ds n q) u = false at h1
 rw [← Bool.not_eq_true, catL_true] at h1 ⊢
 rintro ⟨h2, h3⟩
 have := h u hu
 exact h1 ⟨h2, by omega⟩
end Go.Proofs.YtnbikkcalcpedaaGreatDoor
namespace Go.Proofs.YtnbikkcalcpedaaGreatDoor
open Go.RowKit
theorem info_row : (Tryz.prog.info? 25).map (fun i => (i.zero, i.size, i.bytes)) = some (some (.slice none 0 0), 1, 24) := by kernel_rfl
def blockOf (A : Option Addr) (k : Nat) : Prop := ∃ a, A = some a ∧ a.block = k
theorem blockOf_own {A : Option Addr} {n c k : Nat} : (Value.slice A n c).ownBlock = some k ↔ blockOf A k := by
 rcases A with _ | a <;> simp [Value.ownBlock, blockOf]
section
variable {w w' : World} {base : Nat} {e : TypeId} {A : Option Addr} {n c : Nat} {xs : List Value}
theorem own_kept (h : w.ownsRow base e 1 (.slice A n c) n xs) (hk : ∀ k, blockOf A k → w'.heap[k]? = w.heap[k]?) : w'.ownsRow base e 1 (.slice A n c) n xs := by
 obtain ⟨h1, h2⟩ := h
 refine ⟨h1, ?_⟩
 rcases h2 with h2 | ⟨g, cap, cur, hv, hg, hh, r⟩
 ·exact .inl h2
 ·have hgb : (Value.slice A n c).ownBlock = some g := by rw [hv]; rfl
  exact .inr ⟨g, cap, cur, hv, hg, (hk g (blockOf_own.1 hgb)).trans hh, r⟩
theorem own_lt (h : w.ownsRow base e 1 (.slice A n c) n xs) {k : Nat} (hk : blockOf A k) : base ≤ k ∧ k < w.heap.size := World.ownsRow.lt h k (blockOf_own.2 hk)
theorem own_rebase {base' : Nat} (h : w.ownsRow base e 1 (.slice A n c) n xs) (hb : ∀ k, blockOf A k → base' ≤ k) : w.ownsRow base' e 1 (.slice A n c) n xs := by
 obtain ⟨h1, h2⟩ := h
 refine ⟨h1, ?_⟩
 rcases h2 with h2 | ⟨g, cap, cur, hv, hg, r⟩
 ·exact .inl h2
 ·have hgb : (Value.slice A n c).ownBlock = some g := by rw [hv]; rfl
  exact .inr ⟨g, cap, cur, hv, hb g (blockOf_own.1 hgb), r⟩
theorem own_type (h : w.ownsRow base e 1 (.slice A n c) n xs) {k : Nat} (hk : blockOf A k) : ∃ cs, Blk w k e cs := by
 rcases h.2 with ⟨hv, _⟩ | ⟨g, cap, cur, hv, _, hh, _⟩
 ·obtain ⟨a, ha, _⟩ := hk; injection hv with hv; rw [ha] at hv; cases hv
 ·have hgb : (Value.slice A n c).ownBlock = some g := by rw [hv]; rfl
  obtain ⟨a, ha, rfl⟩ := blockOf_own.1 hgb
  obtain ⟨a', ha', rfl⟩ := hk
  rw [ha] at ha'; cases ha'
  exact ⟨cur, hh⟩
theorem own_ne {base' : Nat} {e' : TypeId} {A' : Option Addr} {n' c' : Nat} {xs' : List Value} (h : w.ownsRow base e 1 (.slice A n c) n xs) (h' : w.ownsRow base' e' 1 (.slice A' n' c') n' xs') (hne : e ≠ e') {k k' : Nat} (hk : blockOf A k) (hk' : blockOf A' k') : k ≠ k' := by
 obtain ⟨cs, h1⟩ := own_type h hk
 obtain ⟨cs', h2⟩ := own_type h' hk'
 exact Blk.ne_ h1 h2 hne
theorem own_blk (h : w.ownsRow base e 1 (.slice A n c) n xs) {g : Nat} {t : TypeId} {cs : Array Value} (hg : Blk w g t cs) (hne : e ≠ t) {k : Nat} (hk : blockOf A k) : k ≠ g := by
 obtain ⟨cs', h1⟩ := own_type h hk
 exact Blk.ne_ h1 hg hne
end
def OwnRows (w : World) (base : Nat) (A : Option Addr) (c : Nat) (vs : List Value) (xss : List (List Int)) : Prop :=
 w.ownsRow base 25 1 (.slice A xss.length c) xss.length vs ∧ (∀ u ∈ vs, u.oneCell' = true) ∧
 ∀ (i : Nat) (xs : List Int), xss[i]? = some xs → ∃ A' c', vs[i]? = some (.slice A' xs.length c') ∧ OwnI w base A' c' xs
def rowBlock (A : Option Addr) (vs : List Value) (k : Nat) : Prop := blockOf A k ∨ ∃ v ∈ vs, v.ownBlock = some k
section
variable {w w' : World} {base : Nat} {A : Option Addr} {c : Nat} {vs : List Value} {xss : List (List Int)}
theorem OwnRows.nil_ (w : World) (base : Nat) : OwnRows w base none 0 [] [] := ⟨World.ownsRow_nil _ _ _ _, by simp, by simp⟩
theorem OwnRows.len (h : OwnRows w base A c vs xss) : vs.length = xss.length := by have := h.1.1; omega
theorem OwnRows.kept (h : OwnRows w base A c vs xss) (hk : ∀ k, rowBlock A vs k → w'.heap[k]? = w.heap[k]?) : OwnRows w' base A c vs xss := by
 refine ⟨own_kept h.1 fun k hb => hk k (.inl hb), h.2.1, fun i xs hi => ?_⟩
 obtain ⟨A', c', hv, ho⟩ := h.2.2 i xs hi
 exact ⟨A', c', hv, own_kept ho fun k hb => hk k (.inr ⟨_, List.mem_of_getElem? hv, blockOf_own.2 hb⟩)⟩
theorem OwnRows.lt (h : OwnRows w base A c vs xss) {k : Nat} (hk : rowBlock A vs k) : base ≤ k ∧ k < w.heap.size := by
 rcases hk with hk | ⟨v, hv, hk⟩
 ·exact own_lt h.1 hk
 ·obtain ⟨i, hi⟩ := List.getElem?_of_mem hv
  have hil : i < xss.length := by
   have := (List.getElem?_eq_some_iff.1 hi).1
   rw [h.len] at this; exact this
  obtain ⟨xs, hxs⟩ := get_of_lt hil
  obtain ⟨A', c', hv', ho⟩ := h.2.2 i xs hxs
  rw [hi] at hv'
  injection hv' with hv'
  subst hv'
  exact own_lt ho (blockOf_own.1 hk)
theorem OwnRows.next (h : OwnRows w base A c vs xss) (hb : Below w.heap.size w w') : OwnRows w' base A c vs xss := h.kept fun k hk => hb.block k (h.lt hk).2
theorem OwnRows.mono {base' : Nat} (h : OwnRows w base A c vs xss) (hb : base' ≤ base) : OwnRows w base' A c vs xss := by
 refine ⟨own_rebase h.1 fun k hk => Nat.le_trans hb (own_lt h.1 hk).1, h.2.1, fun i xs hi => ?_⟩
 obtain ⟨A', c', hv, ho⟩ := h.2.2 i xs hi
 exact ⟨A', c', hv, ho.mono hb⟩
end
theorem OwnRows.ne_blk {w : World} {base : Nat} {A : Option Addr} {c : Nat} {vs : List Value} {xss : List (List Int)} (h : OwnRows w base A c vs xss) {g : Nat} {t : TypeId} {cs : Array Value} (hg : Blk w g t cs) (h1 : 25 ≠ t) (h2 : 3 ≠ t) {k : Nat} (hk : rowBlock A vs k) : k ≠ g := by
 rcases hk with hk | ⟨v, hv, hk⟩
 ·exact own_blk h.1 hg h1 hk
 ·obtain ⟨i, hi⟩ := List.getElem?_of_mem hv
  have hil : i < xss.length := by
   have := (List.getElem?_eq_some_iff.1 hi).1
   rw [h.len] at this; exact this
  obtain ⟨xs, hxs⟩ := get_of_lt hil
  obtain ⟨A', c', hv', ho⟩ := h.2.2 i xs hxs
  rw [hi] at hv'
  injection hv' with hv'
  subst hv'
  exact own_blk ho hg h2 (blockOf_own.1 hk)
theorem OwnRows.set_blk {w : World} {base : Nat} {A : Option Addr} {c : Nat} {vs : List Value} {xss : List (List Int)} (h : OwnRows w base A c vs xss) {g : Nat} {t : TypeId} {cs : Array Value} (hg : Blk w g t cs) (h1 : 25 ≠ t) (h2 : 3 ≠ t) (o : Nat) (u : Value) : OwnRows (w.setCell ⟨g, o, none⟩ u) base A c vs xss :=
 h.kept fun _ hk => Below.heap_setCell w ⟨g, o, none⟩ u _ (h.ne_blk hg h1 h2 hk)
theorem OwnRows.push {w w' : World} {base : Nat} {A A' A8 : Option Addr} {c c' c8 : Nat} {vs : List Value} {xss : List (List Int)} {x : List Int} (h : OwnRows w base A c vs xss) (h8 : OwnI w base A8 c8 x)
  (hown : w'.ownsRow base 25 1 (.slice A' (xss.length + 1) c') (xss.length + 1) (vs ++ [.slice A8 x.length c8])) (hg : w.grownBy w' (Value.slice A xss.length c).ownBlock) : OwnRows w' base A' c' (vs ++ [.slice A8 x.length c8]) (xss ++ [x]) := by
 have keep : ∀ {A1 : Option Addr} {c1 : Nat} {y : List Int}, OwnI w base A1 c1 y → OwnI w' base A1 c1 y := fun {A1 c1 y} ho => own_kept ho fun k hk => hg.block k (own_lt ho hk).2 fun e => by
  exact own_ne ho h.1 (by decide) hk (blockOf_own.1 e.symm) rfl
 refine ⟨by rw [List.length_append]; exact hown, ?_, fun i xs hi => ?_⟩
 ·intro u hu
  rcases List.mem_append.1 hu with hu | hu
  ·exact h.2.1 u hu
  ·rw [List.mem_singleton.1 hu]; rfl
 ·have hl := h.len
  rcases Nat.lt_trichotomy i xss.length with hlt | rfl | hgt
  ·rw [List.getElem?_append_left hlt] at hi
   obtain ⟨A1, c1, hv, ho⟩ := h.2.2 i xs hi
   exact ⟨A1, c1, by rw [List.getElem?_append_left (by omega)]; exact hv, keep ho⟩
  ·have : xs = x := by simpa using hi.symm
   subst this
   exact ⟨A8, c8, by rw [← hl]; simp, keep h8⟩
  ·rw [List.getElem?_eq_none (by simp; omega)] at hi; cases hi
def RowsR (w : World) (B : Nat) (A : Option Addr) (xss : List (List Int)) : Prop :=
 ∃ vs, Reads w B 1 A xss.length vs ∧ ∀ (i : Nat) (xs : List Int), xss[i]? = some xs → ∃ A' c', vs[i]? = some (.slice A' xs.length c') ∧ Reads w B 1 A' xs.length (ints xs)
theorem OwnRows.reads {w : World} {base : Nat} {A : Option Addr} {c : Nat} {vs : List Value} {xss : List (List Int)} (h : OwnRows w base A c vs xss) : RowsR w w.heap.size A xss :=
 ⟨vs, Reads.of_own h.1, fun i xs hi => by
  obtain ⟨A', c', hv, ho⟩ := h.2.2 i xs hi
  exact ⟨A', c', hv, ho.reads⟩⟩
theorem RowsR.below {w w' : World} {B : Nat} {A : Option Addr} {xss : List (List Int)} (h : RowsR w B A xss) (hb : Below B w w') : RowsR w' B A xss := by
 obtain ⟨vs, hr, hi⟩ := h
 refine ⟨vs, hr.below hb, fun i xs hx => ?_⟩
 obtain ⟨A', c', hv, ho⟩ := hi i xs hx
 exact ⟨A', c', hv, ho.below hb⟩
theorem RowsR.more {w : World} {B B' : Nat} {A : Option Addr} {xss : List (List Int)} (h : RowsR w B A xss) (hB : B ≤ B') : RowsR w B' A xss := by
 obtain ⟨vs, hr, hi⟩ := h
 refine ⟨vs, hr.more hB, fun i xs hx => ?_⟩
 obtain ⟨A', c', hv, ho⟩ := hi i xs hx
 exact ⟨A', c', hv, ho.more hB⟩
theorem RowsR.next {w w' : World} {A : Option Addr} {xss : List (List Int)} (h : RowsR w w.heap.size A xss) (hb : Below w.heap.size w w') : RowsR w' w'.heap.size A xss := (h.below hb).more hb.size
theorem RowsR.at_ {w : World} {B : Nat} {A : Option Addr} {xss : List (List Int)} (h : RowsR w B A xss) {k : Nat} {xs : List Int} (hx : xss[k]? = some xs) :
  ∃ b off A' c', A = some ⟨b, off, none⟩ ∧ b < B ∧ w.cell? ⟨b, off + k, none⟩ = some (.slice A' xs.length c') ∧ Reads w B 1 A' xs.length (ints xs) := by
 obtain ⟨vs, hr, hi⟩ := h
 obtain ⟨A', c', hv, ho⟩ := hi k xs hx
 obtain ⟨b, off, hA, hb, hc⟩ := hr.at_ hv
 exact ⟨b, off, A', c', hA, hb, hc, ho⟩
end Go.Proofs.YtnbikkcalcpedaaGreatDoor
namespace Go.Proofs.YtnbikkcalcpedaaGreatDoor
open Go.RowKit
theorem troot_any (g : Nat) (ps : List (Nat × Nat)) (f : List Nat) (r h : Nat → Nat) (k : Rp ps f r h) (v : Nat) (hv : v < 12) (w : World) (hb : Blk w g 174 (fcells f)) :
  Calls Tryz.prog 132 #[.pointer (some ⟨g, 0, none⟩), .int .i64 v] w fun e w' => e = .returned (.int .i64 (r v : Nat)) ∧ w = w' := by
 have HK := Lib.hid k
 obtain ⟨x, hx⟩ : ∃ x, r v = x := ⟨_, rfl⟩
 rw [hx]
 have HX := Lib.hid hx
 clear hx k
 go_enter Tryz.func132, Tryz.ntmps132
 go_wp2
 go_loop [1] (fun i => ∃ u : Nat, u < 12 ∧ i = .int .i64 u ∧ Hid (r u = x)) (fun i => h (intOf i).toNat)
 case atStart => exact ⟨v, hv, rfl, HX⟩
 case round =>
  obtain ⟨u, hu, rfl, HU⟩ := hrel
  have hc := hb.cell u
  rw [fcells_get (by rw [HK.out.len]; omega)] at hc
  have hl := HK.out.lt u hu
  have hf := HK.out.fix u hu
  have hs := HK.out.step u hu
  obtain ⟨y, hy⟩ : ∃ y, f.getD u 0 = y := ⟨_, rfl⟩
  rw [hy] at hc hl hf hs
  have hu' : (u : Int) < 12 := by omega
  clear hy
  by_cases hyu : y = u
  ·have HE := Lib.hid ((hf hyu).symm.trans HU.out)
   have hbq : ((y : Int) != (u : Int)) = false := by simp; omega
   clear hf hs hyu
   go_wp2
   go_ret
   exact ⟨ret_int (by rw [HE.out]), rfl⟩
  ·obtain ⟨s1, s2⟩ := hs hyu
   have HE := Lib.hid (s2.trans HU.out)
   have HM := Lib.hid s1
   have hbq : ((y : Int) != (u : Int)) = true := by simp; omega
   clear hf s1 s2 hyu hs
   go_wp2
   go_round
   case rel => exact ⟨y, hl, rfl, HE⟩
   case measure => simp only [intOf, Int.toNat_natCast]; exact HM.out
theorem h_set_fcells {w : World} {g : Nat} {t : TypeId} {f : List Nat} (h : Blk w g t (fcells f)) (x y : Nat) : Blk (w.setCell ⟨g, x, none⟩ (.int .i64 (y : Nat))) g t (fcells (f.set x y)) := by
 rw [← fcells_set]; exact h.set_ x _
theorem tjoin_any (g : Nat) (ps : List (Nat × Nat)) (f : List Nat) (hf : FR ps f) (a b : Nat) (ha : a < 12) (hb : b < 12) (w : World) (h : Blk w g 174 (fcells f)) :
  Calls Tryz.prog 131 #[.pointer (some ⟨g, 0, none⟩), .agg #[.int .i64 a, .int .i64 b]] w fun e w' => e = .returned (.bool (!decide (Cn ps a b))) ∧ ∃ f', Hid (FR (ps ++ [(a, b)]) f') ∧ Blk w' g 174 (fcells f') ∧ Only (fun k => k = g) w w' := by
 obtain ⟨r, hh, k⟩ := hf
 have HK := Lib.hid k
 have l1 := (k.root a ha).1
 have l2 := (k.root b hb).1
 have HS := Lib.hid (k.same a b ha hb)
 have HF := Lib.hid (k.snoc ha hb)
 have hb0 := h.alloc (.cells #[.int .i64 a, .int .i64 b] 50)
 have hne : g ≠ w.heap.size := by have := h.lt; omega
 have q0 := Blk.new w 50 #[.int .i64 a, .int .i64 b]
 have R1 := Lib.hid (fun W hW => troot_any g ps f r hh k a ha W hW)
 have R2 := Lib.hid (fun W hW => troot_any g ps f r hh k b hb W hW)
 obtain ⟨x, hx⟩ : ∃ x, r a = x := ⟨_, rfl⟩
 obtain ⟨y, hy⟩ : ∃ y, r b = y := ⟨_, rfl⟩
 rw [hx] at R1 l1 HS HF
 rw [hy] at R2 l2 HS HF
 have k1 : (x : Int) < 12 := by omega
 have F1 := hb0.frozen x
 have C1 := hb0.cell x
 rw [fcells_get (by rw [HK.out.len]; omega)] at C1
 have c0 := q0.cell 0
 have c1 := q0.cell 1
 have ho : Only (fun k => k = g) w (w.alloc (.cells #[.int .i64 a, .int .i64 b] 50)) := (Only.refl _ w).alloc _
 obtain ⟨W0, hW0⟩ : ∃ W0, w.alloc (.cells #[.int .i64 a, .int .i64 b] 50) = W0 := ⟨_, rfl⟩
 rw [hW0] at hb0 F1 C1 c0 c1 ho
 have HW0 := Lib.hid hW0
 clear hx hy k h q0 hW0
 go_enter Tryz.func131, Tryz.ntmps131
 go_wp2_with fail
 rw [HW0.out]
 have hD := hb0.drew
 go_region_held3 (fun W => W.cell? ⟨w.heap.size, 0, none⟩ = some (.int .i64 a) ∧ W.cell? ⟨w.heap.size, 1, none⟩ = some (.int .i64 b)) (go_keep) (first
  | (go_at_call 132; (with_reducible refine (R1.out _ (by exact hD)).mono ?_); rintro e w5 ⟨rfl, rfl⟩)
  | (go_at_call 132; (with_reducible refine (R2.out _ (by exact hD)).mono ?_); rintro e w5 ⟨rfl, rfl⟩))
 have hS := h_set_fcells hD x y
 have hO : Only (fun k => k = g) w (W0.drew.setCell ⟨g, x, none⟩ (.int .i64 (y : Nat))) := (ho.drew).setCell (.inl rfl) _
 have hbq : ((x : Int) != (y : Int)) = !decide (Cn ps a b) := by
  by_cases hxy : x = y
  ·rw [decide_eq_true (HS.out.1 hxy), hxy]; simp
  ·rw [decide_eq_false (fun hc => hxy (HS.out.2 hc)), bne_iff_ne.2 (by omega)]; rfl
 have HB := Lib.hid hbq
 have HSS := Lib.hid hS
 have HOO := Lib.hid hO
 clear hbq hS hO
 go_wp2
 go_ret
 exact ⟨ret_bool HB.out, _, HF, HSS.out, HOO.out⟩
def looseTo (k : Nat) : List Nat := (List.range 12).map fun i => if i < k then i else 0
theorem looseTo_succ {k : Nat} (h : k < 12) : (looseTo k).set k k = looseTo (k + 1) := by
 have : ∀ k, k < 12 → (looseTo k).set k k = looseTo (k + 1) := by decide
 exact this k h
theorem looseTo_length (k : Nat) : (looseTo k).length = 12 := by simp [looseTo]
theorem loose_any (w : World) :
  Calls Tryz.prog 129 #[] w fun e w' => e = .returned (.agg #[.int .i64 0, .int .i64 1, .int .i64 2, .int .i64 3, .int .i64 4, .int .i64 5, .int .i64 6, .int .i64 7, .int .i64 8, .int .i64 9, .int .i64 10, .int .i64 11]) ∧ Below w.heap.size w w' := by
 go_enter Tryz.func129, Tryz.ntmps129
 go_wp2
 go_loopw [2, 3] (fun _ i wr => ∃ k : Nat, k ≤ 12 ∧ i = .int .i64 k ∧ Below w.heap.size w wr ∧ Blk wr (w.heap.size + 1) 174 (fcells (looseTo k)) ∧ Blk wr w.heap.size 174 (fcells (looseTo 0))) (fun _ i _ => 12 - (intOf i).toNat)
 case atStart =>
  refine ⟨0, by omega, rfl, ((Below.refl _ _).alloc (Nat.le_refl _) _).alloc (by simp) _, ?_, (Blk.new w 174 (fcells (looseTo 0))).alloc _⟩
  have := Blk.new (w.alloc (.cells (fcells (looseTo 0)) 174)) 174 (fcells (looseTo 0))
  rw [show (w.alloc (.cells (fcells (looseTo 0)) 174)).heap.size = w.heap.size + 1 from by simp] at this
  exact this
 case round =>
  obtain ⟨k, hk, rfl, hbel, g1, g0⟩ := hrel
  by_cases hlt : k < 12
  ·have hi : (k : Int) < 12 := by omega
   have f1 := g1.frozen k
   have c1 := g1.cell k
   rw [fcells_get (by rw [looseTo_length]; omega)] at c1
   go_wp2
   go_roundw
   case rel =>
    refine ⟨k + 1, by omega, by go_num, hbel.setCell (by simp) _, ?_, g0.far (by simp) _⟩
    have := g1.set_ k (.int .i64 (k : Nat))
    rwa [fcells_set, looseTo_succ hlt] at this
   case measure => simp [intOf]; omega
  ·obtain rfl : k = 12 := by omega
   have e : fcells (looseTo 12) = #[.int .i64 0, .int .i64 1, .int .i64 2, .int .i64 3, .int .i64 4, .int .i64 5, .int .i64 6, .int .i64 7, .int .i64 8, .int .i64 9, .int .i64 10, .int .i64 11] := rfl
   have e0 : fcells (looseTo 0) = #[.int .i64 0, .int .i64 0, .int .i64 0, .int .i64 0, .int .i64 0, .int .i64 0, .int .i64 0, .int .i64 0, .int .i64 0, .int .i64 0, .int .i64 0, .int .i64 0] := rfl
   rw [e] at g1
   rw [e0] at g0
   clear e e0
   have c0 := g1.cell 0
   have z0 := g0.frozen 0
   have y0 := g0.cell 0
   have c1 := g1.cell 1
   have z1 := g0.frozen 1
   have y1 := g0.cell 1
   have c2 := g1.cell 2
   have z2 := g0.frozen 2
   have y2 := g0.cell 2
   have c3 := g1.cell 3
   have z3 := g0.frozen 3
   have y3 := g0.cell 3
   have c4 := g1.cell 4
   have z4 := g0.frozen 4
   have y4 := g0.cell 4
   have c5 := g1.cell 5
   have z5 := g0.frozen 5
   have y5 := g0.cell 5
   have c6 := g1.cell 6
   have z6 := g0.frozen 6
   have y6 := g0.cell 6
   have c7 := g1.cell 7
   have z7 := g0.frozen 7
   have y7 := g0.cell 7
   have c8 := g1.cell 8
   have z8 := g0.frozen 8
   have y8 := g0.cell 8
   have c9 := g1.cell 9
   have z9 := g0.frozen 9
   have y9 := g0.cell 9
   have c10 := g1.cell 10
   have z10 := g0.frozen 10
   have y10 := g0.cell 10
   have c11 := g1.cell 11
   have z11 := g0.frozen 11
   have y11 := g0.cell 11
   go_wp2
   have G := ((((((((((((g0.set_ 0 (.int .i64 0)).set_ 1 (.int .i64 1)).set_ 2 (.int .i64 2)).set_ 3 (.int .i64 3)).set_ 4 (.int .i64 4)).set_ 5 (.int .i64 5)).set_ 6 (.int .i64 6)).set_ 7 (.int .i64 7)).set_ 8 (.int .i64 8)).set_ 9 (.int .i64 9)).set_ 10 (.int .i64 10)).set_ 11 (.int .i64 11))
   simp only [List.setIfInBounds_toArray, List.set_cons_zero, List.set_cons_succ] at G
   exact bodyPost_ret (results_cell_row rfl _ _ w.heap.size _ (fcells (List.range 12)) _ _ rfl G Tryz.underlying174 rfl (by kernel_rfl)) rfl ⟨rfl, ((((((((((((hbel.setCell (p := ⟨w.heap.size, 0, none⟩) (Nat.le_refl _) _).setCell (p := ⟨w.heap.size, 1, none⟩) (Nat.le_refl _) _).setCell (p := ⟨w.heap.size, 2, none⟩) (Nat.le_refl _) _).setCell (p := ⟨w.heap.size, 3, none⟩) (Nat.le_refl _) _).setCell (p := ⟨w.heap.size, 4, none⟩) (Nat.le_refl _) _).setCell (p := ⟨w.heap.size, 5, none⟩) (Nat.le_refl _) _).setCell (p := ⟨w.heap.size, 6, none⟩) (Nat.le_refl _) _).setCell (p := ⟨w.heap.size, 7, none⟩) (Nat.le_refl _) _).setCell (p := ⟨w.heap.size, 8, none⟩) (Nat.le_refl _) _).setCell (p := ⟨w.heap.size, 9, none⟩) (Nat.le_refl _) _).setCell (p := ⟨w.heap.size, 10, none⟩) (Nat.le_refl _) _).setCell (p := ⟨w.heap.size, 11, none⟩) (Nat.le_refl _) _)⟩
end Go.Proofs.YtnbikkcalcpedaaGreatDoor
