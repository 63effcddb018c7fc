/-
  Texts of this claim, put together: SamePoly, SortT.
-/
import Derived.Test.YtnbikkcalcpedaaGreatDoorK34
import Derived.Deep.QuietTactic
import Derived.BigQuiet
import Derived.Test.YtnbikkcalcpedaaGreatDoorK14
import Derived.Test.YtnbikkcalcpedaaGreatDoorK33
import Derived.Shelf.SlSortCmp.NoneTotal
/-! polynomial.Same at equal lists. -/
namespace Go.Proofs.YtnbikkcalcpedaaGreatDoor
open Go.RowKit
set_option maxHeartbeats 800000 in
theorem tequal_any (A : Option Addr) (c : Nat) (p : List Tm) (B : Option Addr) (d : Nat) (hn : p.length ≤ 1048576) (w : World) (h : Reads w w.heap.size 3 A p.length (tmCells p)) (h' : Reads w w.heap.size 3 B p.length (tmCells p)) :
    Calls Tryz.prog 63 #[.slice A p.length c, .slice B p.length d] w fun e w' => e = .returned (.bool true) ∧ Below w.heap.size w w' := by
  obtain ⟨N, hN⟩ : ∃ N, p.length = N := ⟨_, rfl⟩
  have HN := Lib.hid hN
  rw [hN] at h h' hn ⊢
  clear hN
  have hb : ((N : Int) != (N : Int)) = false := by simp
  go_enter Tryz.func63, Tryz.ntmps63
  go_wp2
  clear hb
  go_loopw [13] (fun i wr => ∃ k : Nat, k ≤ N ∧ i = .int .i64 k ∧ Below w.heap.size w wr) (fun i _ => N - (intOf i).toNat)
  case atStart => exact ⟨0, by omega, rfl, Below.refl _ _⟩
  case round =>
    obtain ⟨k, hk, rfl, hbel⟩ := hrel
    by_cases hlt : k < N
    · obtain ⟨x, hx⟩ : ∃ x, p[k]? = some x := ⟨_, List.getElem?_eq_getElem (by rw [HN.out]; exact hlt)⟩
      obtain ⟨b, off, rfl, hb, x0, x1, x2⟩ := (h.below hbel).tm hx
      obtain ⟨b', off', rfl, hb', y0, y1, y2⟩ := (h'.below hbel).tm hx
      have hi : (k : Int) < (N : Int) := by omega
      clear hx h h'
      go_wp2
      go_quiet (fail)
      go_wp2
      go_roundw
      case rel => exact ⟨k + 1, by omega, by go_num, below_drewN hbel _⟩
      case measure => simp [intOf]; omega
    · obtain rfl : k = N := by omega
      have hi : ¬ (k : Int) < (k : Int) := by omega
      go_wp2
      go_ret
      exact ⟨rfl, hbel⟩
set_option maxHeartbeats 800000 in
theorem psame_any (A : Option Addr) (c : Nat) (p : List Tm) (B : Option Addr) (d : Nat) (hn : p.length ≤ 1048576) (w : World) (h : Reads w w.heap.size 3 A p.length (tmCells p)) (h' : Reads w w.heap.size 3 B p.length (tmCells p)) :
    Calls Tryz.prog 16 #[.slice A p.length c, .slice B p.length d] w fun e w' => e = .returned (.bool true) ∧ Below w.heap.size w w' := by
  have EC := Lib.hid (tequal_any A c p B d hn w h h')
  obtain ⟨N, hN⟩ : ∃ N, p.length = N := ⟨_, rfl⟩
  rw [hN] at EC ⊢
  clear hN hn h h'
  go_enter Tryz.func16, Tryz.ntmps16
  go_wp2_with fail
  refine (EC.out).mono ?_
  rintro e w5 ⟨rfl, hb⟩
  go_wp2
  go_ret
  exact ⟨rfl, hb⟩
end Go.Proofs.YtnbikkcalcpedaaGreatDoor

/-! slices.SortFunc of terms at every length, by a function that puts the greater exponents first. -/
namespace Go.Proofs.YtnbikkcalcpedaaGreatDoor
open Go.RowKit

/-- What the comparison of terms returns. -/
def tcf (a b : Tm) : Int := lexI b.1.1 b.1.2 a.1.1 a.1.2
theorem tcf_lt (a b : Tm) : ltOf tcf a b = abv a.1 b.1 := by
  unfold ltOf tcf abv
  rw [Bool.eq_iff_iff]
  simp only [decide_eq_true_eq, Bool.or_eq_true, Bool.and_eq_true, lexI_neg]
  omega
theorem tcf_swo : Go.Sort.SWO (ltOf tcf) where
  irrefl x := by rw [tcf_lt]; exact abv_ir
  trans x y z h1 h2 := by rw [tcf_lt] at *; exact abv_tr h1 h2
  ntrans x y z h1 h2 := by
    rw [tcf_lt] at *
    simp [abv] at *
    omega
/-- A term's cells. -/
def encT (a : Tm) : List Value := [.int .i64 a.1.1, .int .i64 a.1.2, .string (intS a.2)]
theorem flat_tm (p : List Tm) : (Go.Sort.flatK encT 3 p.toArray).toList = tmCells p := by
  refine List.ext_getElem? fun t => ?_
  by_cases ht : t < p.length * 3
  · have hj : t / 3 < p.length := by omega
    obtain ⟨a, ha⟩ : ∃ a, p[t / 3]? = some a := ⟨_, List.getElem?_eq_getElem hj⟩
    obtain ⟨h0, h1, h2⟩ := tmCells_at ha
    have hg : (p.toArray[t / 3]! : Tm) = a := by
      rw [getElem!_pos p.toArray (t / 3) (by simpa using hj)]
      simpa using (List.getElem?_eq_some_iff.1 ha).2
    have hl : (Go.Sort.flatK encT 3 p.toArray).toList[t]? = some ((encT a)[t % 3]!) := by
      have h := Go.Sort.get_flatK encT 3 p.toArray t (by simpa using ht)
      have hs : t < (Go.Sort.flatK encT 3 p.toArray).size := by simpa using ht
      rw [hg, getElem!_pos (Go.Sort.flatK encT 3 p.toArray) t hs] at h
      rw [Array.getElem?_toList, Array.getElem?_eq_getElem hs, h]
    rw [hl]
    rcases (by omega : t % 3 = 0 ∨ t % 3 = 1 ∨ t % 3 = 2) with hr | hr | hr
    · rw [hr]
      rw [show t / 3 * 3 = t by omega] at h0
      rw [h0]; rfl
    · rw [hr]
      rw [show t / 3 * 3 + 1 = t by omega] at h1
      rw [h1]; rfl
    · rw [hr]
      rw [show t / 3 * 3 + 2 = t by omega] at h2
      rw [h2]; rfl
  · rw [List.getElem?_eq_none (by simp; omega), List.getElem?_eq_none (by rw [tmCells_length]; omega)]
section
variable {α : Type} [Inhabited α] {enc : α → Value} {w : World} {g n : Nat} {os : Array Obj} {cur : Array Value}
/-- What a sort leaves of its row, and of all else. -/
theorem grown_rowT (d : Array α) : w.grownBy (Go.Proofs.sortWorld enc w g 0 n d os) (some g) := by
  refine ⟨rfl, rfl, rfl, by simp [Go.Proofs.sortWorld], fun k hk hne => ?_⟩
  unfold Go.Proofs.sortWorld
  rw [Go.Sort.heap_grow_old _ _ (by simpa using hk)]
  have : g ≠ k := fun e => hne (by rw [e])
  simp [Go.Sort.putRow, Go.Sort.mapBlock, Go.Sort.ahead, Array.getElem?_modify, this]
theorem heap_rowT {e : TypeId} {fr : Nat × Nat} (d : Array α) (hb : w.heap[g]? = some (.cells cur e fr)) : (Go.Proofs.sortWorld enc w g 0 n d os).heap[g]? = some (.cells (Go.Sort.putCells enc 0 d cur) e fr) := by
  have hg : g < w.heap.size := (Array.getElem?_eq_some_iff.1 hb).1
  unfold Go.Proofs.sortWorld
  rw [Go.Sort.heap_grow_old _ _ (by simpa using hg)]
  simp [Go.Sort.putRow, Go.Sort.mapBlock, Go.Sort.ahead, Array.getElem?_modify, hb, Go.Sort.onCells]
theorem take_rowT (d : Array α) (h : d.size ≤ cur.size) : (Go.Sort.putCells enc 0 d cur).toList.take d.size = d.toList.map enc := by
  apply List.ext_getElem?
  intro j
  by_cases hj : j < d.size
  · rw [List.getElem?_take_of_lt hj, Array.getElem?_toList]
    simp [Go.Sort.putCells, hj, show j < cur.size by omega]
  · rw [List.getElem?_take_eq_none (by omega), List.getElem?_eq_none (by simp; omega)]
end
set_option maxHeartbeats 1600000 in
/-- The sort within: pdqsort, at the whole row. -/
theorem pdqT_any (f : Nat) (eg : ∀ args w, (callFunc f args).run Tryz.prog w = .ok (.enter f args) w) (hcmp : ∀ (x y : Tm) (W : World), Calls Tryz.prog f #[.agg (encT x).toArray, .agg (encT y).toArray] W fun e w' => e = .returned (.int .i64 (tcf x y)) ∧ ∃ q os', w' = Go.Sort.grow (W.drewN q) os')
    (base : Nat) (A : Option Addr) (c : Nat) (p : List Tm) (hn : p.length ≤ 1048576) (w : World) (h : OwnT w base A c p) :
    Calls Tryz.prog 117 #[.slice A p.length c, .int .i64 0, .int .i64 p.length, .int .i64 (Lib.bitLen p.length : Nat), .func (.func f) #[] #[]] w fun e w' => e = .returned (.tuple #[]) ∧ ∃ p', p.Perm p' ∧ (p'.Pairwise fun a b => abv b.1 a.1 = false) ∧ OwnT w' base A c p' ∧ Below base w w' := by
  by_cases h0 : p.length = 0
  · obtain rfl : p = [] := List.eq_nil_of_length_eq_zero h0
    have hc := AnyF.pdqsortCmpFunc_none (P := Tryz.prog) (ρ := laySortTm_ren) { laySortTm with } A c (Lib.bitLen 0 : Nat) (.func (.func f) #[] #[]) w
    refine hc.mono ?_
    rintro e w' ⟨rfl, rfl⟩
    exact ⟨rfl, [], List.Perm.refl _, List.Pairwise.nil, h, Below.refl _ _⟩
  · rcases h.2 with ⟨hnil, hz⟩ | ⟨g, cp, cur, hv, hbase, hb, h1, h2, h3, h4⟩
    · exact absurd hz h0
    · injection hv with hA _ hcap
      subst hA
      subst hcap
      have hgl : g < w.heap.size := (Array.getElem?_eq_some_iff.1 hb).1
      have hsz : p.toArray.size = p.length := by simp
      have hfl : (Go.Sort.flatK encT 3 p.toArray).size = p.length * 3 := by simp
      have hH : Go.Sort.HoldsK encT 3 w g 0 p.toArray := by
        intro j hj
        have hj' : j < p.length * 3 := by rw [hfl] at hj; exact hj
        have h5 : (cur.toList.take (p.length * 3))[j]? = (tmCells p)[j]? := by rw [h4]
        rw [List.getElem?_take_of_lt hj', ← flat_tm p, Array.getElem?_toList, Array.getElem?_toList] at h5
        refine ⟨?_, by simp [World.frozen?, hb]⟩
        simp only [World.cell?, hb, Nat.zero_add]
        simp only [Option.isSome_none, Bool.false_eq_true, if_false]
        rw [h5, getElem!_pos _ j hj]
        simp
      have hk : ∀ x : Tm, (encT x).length = 3 := fun _ => rfl
      have hone : ∀ x : Tm, ∀ v ∈ encT x, v.oneCell' = true := fun x v hv => by
        simp [encT] at hv
        rcases hv with rfl | rfl | rfl <;> rfl
      have hlim : Lib.bitLen p.length < 4611686018427387904 := Nat.lt_of_le_of_lt (Lib.bitLen_le p.length 62 (by omega) (by omega)) (by omega)
      have hcl : Go.Proofs.CmpLays Tryz.prog f #[] encT 3 tcf g 0 p.toArray.size w := fun m os dk _ x y => hcmp x y _
      have hp := AnyQ.pdqsortCmpFunc_all (P := Tryz.prog) (ρ := laySortTm_ren) { laySortTm with } 3 Tryz.isAgg87 Tryz.sizeOf87 encT tcf f #[] tcf_swo g 0 c p.toArray w eg hcl ⟨hk, hone, hH, hgl⟩ (p.length + 1) 0 p.length (Lib.bitLen p.length) p.toArray w (by omega) rfl (Go.Proofs.SWK.start hH) (Nat.zero_le _) (by rw [hsz]; exact Nat.le_refl _) (by omega) hlim (Or.inl rfl)
      rw [hsz] at hp
      refine hp.mono ?_
      rintro e w' ⟨rfl, m, os, rfl⟩
      obtain ⟨hP, hS⟩ := Go.Sort.pdq_sorts (ltOf tcf) tcf_swo p.toArray 0 p.length (Lib.bitLen p.length) true true (Nat.zero_le _) (by rw [hsz]; exact Nat.le_refl _) (Or.inl rfl)
      obtain ⟨dd, hdd⟩ : ∃ dd, Go.Sort.pdq (ltOf tcf) p.toArray 0 p.length (Lib.bitLen p.length) true true = dd := ⟨_, rfl⟩
      rw [hdd] at hP hS ⊢
      obtain ⟨q1, _, q3⟩ := hP
      rw [hsz] at q1
      have e1 : dd.extract 0 p.length = dd := by rw [← q1]; simp
      have e2 : p.toArray.extract 0 p.length = p.toArray := by conv => lhs; arg 3; rw [← hsz]
                                                               simp
      rw [e1, e2] at q3
      have hg : w.grownBy (Go.Proofs.sortWorld id w g 0 m (Go.Sort.flatK encT 3 dd) os) (some g) := grown_rowT _
      have hfd : (Go.Sort.flatK encT 3 dd).toList = tmCells dd.toList := by have := flat_tm dd.toList; simpa using this
      have hfs : (Go.Sort.flatK encT 3 dd).size = p.length * 3 := by simp [q1]
      have hlen : dd.toList.length = p.length := by simp [q1]
      refine ⟨rfl, dd.toList, by simpa using q3.symm, ?_, ?_, ?_⟩
      · rw [List.pairwise_iff_getElem]
        intro i j hi hj hij
        have hjs : j < dd.size := by simpa using hj
        have h := hS i j (Nat.zero_le _) hij (by omega)
        rw [getElem!_pos dd j hjs, getElem!_pos dd i (by omega), tcf_lt] at h
        exact h
      · unfold OwnT
        rw [hlen]
        refine ⟨by rw [tmCells_length, hlen], .inr ⟨g, c, _, rfl, hbase, heap_rowT (enc := id) (Go.Sort.flatK encT 3 dd) hb, h1, h2, by simp [Go.Sort.putCells, h3], ?_⟩⟩
        have h6 := take_rowT (enc := id) (cur := cur) (Go.Sort.flatK encT 3 dd) (by rw [hfs, h3]; omega)
        rw [hfs] at h6
        rw [h6, List.map_id, hfd]
      · exact (Below.refl _ _).grown hg (Nat.le_of_lt (Nat.lt_of_le_of_lt hbase hgl)) (fun j hj => by cases hj; exact hbase)
set_option maxRecDepth 100000 in
set_option maxHeartbeats 1000000 in
theorem sortT_any (f : Nat) (eg : ∀ args w, (callFunc f args).run Tryz.prog w = .ok (.enter f args) w) (hcmp : ∀ (x y : Tm) (W : World), Calls Tryz.prog f #[.agg (encT x).toArray, .agg (encT y).toArray] W fun e w' => e = .returned (.int .i64 (tcf x y)) ∧ ∃ q os', w' = Go.Sort.grow (W.drewN q) os')
    (base : Nat) (A : Option Addr) (c : Nat) (p : List Tm) (hn : p.length ≤ 1048576) (w : World) (h : OwnT w base A c p) :
    Calls Tryz.prog 59 #[.slice A p.length c, .func (.func f) #[] #[]] w fun e w' => e = .returned (.tuple #[]) ∧ ∃ p', p.Perm p' ∧ (p'.Pairwise fun a b => abv b.1 a.1 = false) ∧ OwnT w' base A c p' ∧ Below base w w' := by
  have PC := Lib.hid (pdqT_any f eg hcmp base A c p hn w h)
  have hl : Calls Tryz.prog 118 #[.int .u64 (p.length : Int)] w fun e w' => e = .returned (.int .i64 (Lib.bitLen p.length : Nat)) ∧ w' = w := by
    have h := Any.bits_Len (SlLaysF0.n15.bits (P := Tryz.prog) (ρ := laySortTm_ren) { laySortTm with }) (p.length : Int) w (by omega) (by omega)
    rwa [Int.toNat_natCast] at h
  have LC := Lib.hid hl
  have wr : IntKind.u64.wrap (p.length : Int) = p.length := by simp [IntKind.wrap, IntKind.bits, IntKind.signed]; omega
  obtain ⟨n, hN⟩ : ∃ n, p.length = n := ⟨_, rfl⟩
  obtain ⟨l, hL⟩ : ∃ l, Lib.bitLen n = l := ⟨_, rfl⟩
  rw [hN] at PC LC wr ⊢
  rw [hL] at PC LC
  clear hl hN hL hn h eg hcmp
  go_enter Tryz.func59, Tryz.ntmps59
  go_wp2_with fail
  refine (LC.out).mono ?_
  rintro e w' ⟨rfl, rfl⟩
  go_wp2_with fail
  refine (PC.out).mono ?_
  rintro e w' ⟨rfl, p', h1, h2, h3, h4⟩
  go_wp2
  go_end0
  exact ⟨rfl, p', h1, h2, h3, h4⟩
end Go.Proofs.YtnbikkcalcpedaaGreatDoor

