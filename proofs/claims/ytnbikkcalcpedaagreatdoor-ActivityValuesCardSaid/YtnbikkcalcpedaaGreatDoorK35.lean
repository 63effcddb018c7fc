/-
  Texts of this claim, put together: Mono, Same06, Card31b, SortT, Uint, PolyC.
-/
import Derived.Test.YtnbikkcalcpedaaGreatDoorK34
import Derived.Lib.ConvBytes
import Derived.LaidSub
import Derived.Test.YtnbikkcalcpedaaGreatDoorK13
import Derived.Test.YtnbikkcalcpedaaGreatDoorK33
import Derived.Shelf.SlSortCmp.NoneTotal
import Derived.Lib.ParseIntB
/-! integer.Check at numerals without a sign. -/
namespace Go.Proofs.YtnbikkcalcpedaaGreatDoor
open Go.RowKit Go.Lib

/-- The digits of a numeral. -/
structure DigL (l : List UInt8) : Prop where
  pos : l ≠ []
  dig : ∀ b ∈ l, 48 ≤ b.toNat ∧ b.toNat ≤ 57
  head : l.length = 1 ∨ l.head? ≠ some 48
theorem dig_byte {d : Nat} (h : d < 10) : (UInt8.ofNat (48 + d)).toNat = 48 + d := by rw [UInt8.toNat_ofNat']; omega
theorem decDigits_step (n : Nat) (h : ¬ n < 10) : decDigits n = decDigits (n / 10) ++ [UInt8.ofNat (48 + n % 10)] := by
  rw [decDigits, dif_neg h]
theorem dec_pos (n : Nat) : decDigits n ≠ [] := by
  by_cases h : n < 10
  · rw [decDigits_one h]; simp
  · rw [decDigits_step n h]; simp
theorem dec_dig2 (n : Nat) : ∀ b ∈ decDigits n, 48 ≤ b.toNat ∧ b.toNat ≤ 57 := by
  induction n using Nat.strongRecOn with
  | _ n ih =>
    intro b hb
    by_cases h : n < 10
    · rw [decDigits_one h, List.mem_singleton] at hb
      subst hb
      rw [dig_byte h]; omega
    · rw [decDigits_step n h] at hb
      rcases List.mem_append.1 hb with hb | hb
      · exact ih (n / 10) (by omega) b hb
      · rw [List.mem_singleton] at hb
        subst hb
        rw [dig_byte (by omega)]; omega
theorem decHead31 (n : Nat) (h0 : 0 < n) : (decDigits n).head? ≠ some 48 := by
  induction n using Nat.strongRecOn with
  | _ n ih =>
    by_cases h : n < 10
    · rw [decDigits_one h, List.head?_cons]
      intro hc
      injection hc with hc
      have := congrArg UInt8.toNat hc
      rw [dig_byte h] at this
      have h48 : (48 : UInt8).toNat = 48 := rfl
      omega
    · have h1 := ih (n / 10) (by omega) (by omega)
      obtain ⟨a, l, h2⟩ := List.exists_cons_of_ne_nil (dec_pos (n / 10))
      rw [h2, List.head?_cons] at h1
      rw [decDigits_step n h, h2, List.cons_append, List.head?_cons]
      exact h1
theorem digL_dec (n : Nat) : DigL (decDigits n) := ⟨dec_pos n, dec_dig2 n, by
  by_cases h : n = 0
  · subst h; left; rw [decDigits_one (by omega)]; rfl
  · exact .inr (decHead31 n (by omega))⟩
set_option maxRecDepth 100000 in
set_option maxHeartbeats 2000000 in
theorem cutpre_no (s : ByteArray) (h1 : 1 ≤ s.size) (hx : ((s.extract 0 1).toList == [45]) = false) (w : World) : Calls Tryz.prog 123 #[.string s, .string ⟨#[45]⟩] w fun e w' => e = .returned (.tuple #[.string s, .bool false]) ∧ w' = w := by
  have hs : (1 : Int) ≤ (s.size : Int) := by omega
  have h0 : (0 : Int) ≤ (s.size : Int) := by omega
  have hsl : ∀ w, (Instr.slice 9 (.string s) none (some (.int .i64 1)) none).run Tryz.prog w = .ok (.string (s.extract 0 1)) w := fun w => by
    have := run_slice_string_h (P := Tryz.prog) (w := w) (t := 9) (s := s) Tryz.underlying9 .i64 1 (by omega) hs
    simpa using this
  go_enter Tryz.func123, Tryz.ntmps123
  go_wp2
  go_ret2
  exact ⟨rfl, rfl⟩
theorem bytes_below (w : World) (e : TypeId) (s : ByteArray) : Below w.heap.size w (bytesWorld w e s) :=
  ⟨rfl, rfl, rfl, by rw [bytesWorld_size]; omega, fun k hk => bytesWorld_at_old w e s k hk⟩
set_option maxRecDepth 100000 in
set_option maxHeartbeats 2000000 in
theorem check_num (l : List UInt8) (hl : DigL l) (hn : l.length ≤ 1024) (w : World) : Calls Tryz.prog 65 #[.string ⟨l.toArray⟩] w fun e w' => e = .returned (.int .i64 0) ∧ Below w.heap.size w w' := by
  have hne : l ≠ [] := hl.pos
  have hdig := Lib.hid hl.dig
  have hhead := Lib.hid hl.head
  obtain ⟨a, r, rfl⟩ := List.exists_cons_of_ne_nil hne
  obtain ⟨s, hs⟩ : ∃ s : ByteArray, (⟨(a :: r).toArray⟩ : ByteArray) = s := ⟨_, rfl⟩
  have hsl : s.data.toList = a :: r := by rw [← hs]
  have hsz : s.size = (a :: r).length := by rw [size_eq, hsl]
  have ha := hdig.out a (by simp)
  have hx : ((s.extract 0 1).toList == [45]) = false := by
    rw [extract_toList, hsl]
    simp
    intro hc
    rw [hc] at ha
    have h45 : (45 : UInt8).toNat = 45 := rfl
    omega
  have CC := Lib.hid (cutpre_no s (by rw [hsz]; simp) hx w)
  have hcv := Go.Lib.run_convert_string_bytes (P := Tryz.prog) w 9 169 5 s Tryz.underlying9 Tryz.underlying169 Tryz.underlying5
  have hB := bytes_below w 5 s
  have hcell := Lib.hid (bytesWorld_cell w 5 s)
  obtain ⟨BW, hBW⟩ : ∃ BW, bytesWorld w 5 s = BW := ⟨_, rfl⟩
  obtain ⟨cap, hcap⟩ : ∃ c, grownCap w s.size 0 5 = c := ⟨_, rfl⟩
  rw [hBW] at hcv hB hcell
  rw [hcap] at hcv
  obtain ⟨n, hN⟩ : ∃ n, s.size = n := ⟨_, rfl⟩
  have hie : s.toList.isEmpty = false := by rw [toList_data, hsl]; rfl
  have hix : ∀ w, (Instr.index 9 (.string s) (.int .i64 0)).run Tryz.prog w = .ok (.int .u8 (a.toNat : Nat)) w := fun w => by
    have h0 : 0 < s.size := by rw [hsz]; simp
    rw [run_index_string w 9 s .i64 0 Tryz.underlying9, dif_pos ⟨by omega, by omega⟩]
    have hd : s[(0 : Int).toNat]'(by simpa using h0) = a := by
      show s.data[0]'_ = a
      have h1 : s.data.toList[0]'(by rw [hsl]; simp) = a := by simp [hsl]
      rw [Array.getElem_toList] at h1
      exact h1
    rw [hd]
  have hnn : n = r.length + 1 := by rw [← hN, hsz]; rfl
  rw [hs]
  rw [hN] at hcv hcell hsz
  have HSL := Lib.hid hsl
  have HSZ := Lib.hid hsz
  have HNN := Lib.hid hnn
  have HA := Lib.hid ha
  have hn24 : ¬ (1024 : Int) < (n : Int) := by simp at hn; omega
  have hn0 : (0 : Int) < (n : Int) := by omega
  clear hBW hcap hs hx hne hsl hsz hnn ha hn hl
  go_enter Tryz.func65, Tryz.ntmps65
  go_wp2_with fail
  refine (CC.out).mono ?_
  rintro e w' ⟨rfl, rfl⟩
  go_wp2
  go_loopw [6, 15] (fun _ i wr => ∃ k : Nat, k ≤ n ∧ i = .int .i64 k ∧ wr = BW) (fun _ i _ => n - (RowKit.intOf i).toNat)
  case atStart => exact ⟨0, by omega, rfl, rfl⟩
  case round =>
    obtain ⟨k, hk, rfl, rfl⟩ := hrel
    by_cases hlt : k < n
    · have hi : (k : Int) < (n : Int) := by omega
      have hc := hcell.out k (by omega)
      have hmem : s.data.toList.getD k 0 ∈ a :: r := by
        have hkl : k < (a :: r).length := by rw [← HSZ.out]; exact hlt
        rw [HSL.out, List.getD_eq_getElem?_getD, List.getElem?_eq_getElem hkl]
        exact List.getElem_mem _
      have hb := hdig.out _ hmem
      obtain ⟨b, hbb⟩ : ∃ b, (s.data.toList.getD k 0).toNat = b := ⟨_, rfl⟩
      rw [hbb] at hc hb
      have hb1 : ¬ (b : Int) < 48 := by omega
      have hb2 : ¬ (57 : Int) < (b : Int) := by omega
      have hb3 : decide ((b : Int) < 48) = false := decide_eq_false hb1
      have hb4 : decide ((57 : Int) < (b : Int)) = false := decide_eq_false hb2
      clear hmem hbb hb hcv
      go_wp2
      go_roundw
      case rel => exact ⟨k + 1, by omega, by go_num, trivial⟩
      case measure => simp [RowKit.intOf]; omega
    · obtain rfl : k = n := by omega
      have hf : ¬ (k : Int) < (k : Int) := by omega
      clear hcv
      by_cases h48 : (a.toNat : Int) = 48
      · have h1 : ¬ (1 : Int) < (k : Int) := by
          rcases hhead.out with h | h
          · rw [← HSZ.out] at h; omega
          · refine absurd ?_ h
            rw [List.head?_cons]
            congr 1
            exact UInt8.toNat_inj.1 (show a.toNat = 48 by omega)
        have hk1 : decide ((1 : Int) < (k : Int)) = false := decide_eq_false h1
        go_wp2
        go_ret
        exact ⟨rfl, hB⟩
      · go_wp2
        go_ret
        exact ⟨rfl, hB⟩
theorem nDig_le : ∀ (k n : Nat), n < 10 ^ (k + 1) → nDigits n ≤ k + 1
  | 0, n, h => by rw [nDigits_small (by simpa using h)]; omega
  | k + 1, n, h => by
    by_cases h1 : n < 10
    · rw [nDigits_small h1]; omega
    · rw [nDigits_big h1]
      have := nDig_le k (n / 10) (by rw [Nat.pow_succ] at h; omega)
      omega
theorem check_int (n : Nat) (hn : n < 10 ^ 100) (w : World) : Calls Tryz.prog 65 #[.string (intS n)] w fun e w' => e = .returned (.int .i64 0) ∧ Below w.heap.size w w' := by
  have h := check_num (decDigits n) (digL_dec n) (by
    rw [decDigits_length]
    have := nDig_le 99 n hn
    omega) w
  unfold intS itoa
  rw [if_neg (by omega), Int.toNat_natCast]
  exact h
end Go.Proofs.YtnbikkcalcpedaaGreatDoor

/-! ref06.Same at equal polynomials. -/
namespace Go.Proofs.YtnbikkcalcpedaaGreatDoor
open Go.RowKit

set_option maxRecDepth 100000 in
set_option maxHeartbeats 2000000 in
theorem rsame06_any (A : Option Addr) (c : Nat) (p : List Tm) (B : Option Addr) (d : Nat) (hn : p.length ≤ 1048576) (w : World) (h : Reads w w.heap.size 3 A p.length (tmCells p)) (h' : Reads w w.heap.size 3 B p.length (tmCells p)) :
    Calls Tryz.prog 41 #[.slice A p.length c, .slice B p.length d] w fun e w' => e = .returned (.bool true) ∧ Below w.heap.size w w' := by
  obtain ⟨N, hN⟩ : ∃ N, p.length = N := ⟨_, rfl⟩
  have HN := Lib.hid hN
  rw [hN] at h h' hn ⊢
  clear hN
  go_enter Tryz.func41, Tryz.ntmps41
  go_wp2
  go_loopw [5] (fun i wr => ∃ k : Nat, k ≤ N ∧ i = .int .i64 k ∧ Below w.heap.size w wr) (fun i _ => N - (intOf i).toNat)
  case atStart => exact ⟨0, by omega, rfl, Below.refl _ _⟩
  case round =>
    obtain ⟨k, hk, rfl, hbel⟩ := hrel
    by_cases hlt : k < N
    · obtain ⟨x, hx⟩ : ∃ x, p[k]? = some x := ⟨_, List.getElem?_eq_getElem (by rw [HN.out]; exact hlt)⟩
      obtain ⟨b, off, rfl, hb, q0, q1, q2⟩ := (h.below hbel).tm hx
      obtain ⟨b', off', rfl, hb', s0, s1, s2⟩ := (h'.below hbel).tm hx
      have hi : (k : Int) < (N : Int) := by omega
      obtain ⟨S, hS⟩ : ∃ S, intS x.2 = S := ⟨_, rfl⟩
      rw [hS] at q2 s2
      clear hx h h' hS
      go_wp2
      go_quiet (fail)
      go_wp2
      go_roundw
      case rel => exact ⟨k + 1, by omega, by go_num, below_drewN hbel _⟩
      case measure => simp [intOf]; omega
    · have hf : ¬ (k : Int) < (N : Int) := by omega
      go_wp2
      go_ret
      exact ⟨rfl, hbel⟩
end Go.Proofs.YtnbikkcalcpedaaGreatDoor

/-! What the frames of the cards share whose rows list the tables and strconv's two error variables: a world that holds them. -/
namespace Go.Proofs.YtnbikkcalcpedaaGreatDoor
open Go.ChangeShapes Go.WideShapes Go.ChangeAt Go.RowKit
/-- The settled world, the variables' blocks holding what their initialisers lay. -/
noncomputable def laidWorld31b (os : Os) : World :=
  { World.holding Tryz.prog os ⟨#[], #[], []⟩ with heap := ((((((World.holding Tryz.prog os ⟨#[], #[], []⟩).heap.modify 0 (lay31 #[.int .u64 1, .int .u64 10, .int .u64 100, .int .u64 1000, .int .u64 10000, .int .u64 100000, .int .u64 1000000, .int .u64 10000000, .int .u64 100000000, .int .u64 1000000000, .int .u64 10000000000, .int .u64 100000000000, .int .u64 1000000000000, .int .u64 10000000000000, .int .u64 100000000000000, .int .u64 1000000000000000, .int .u64 10000000000000000, .int .u64 100000000000000000, .int .u64 1000000000000000000, .int .u64 10000000000000000000])).modify 1 (lay31 #[.int .u8 0, .int .u8 1, .int .u8 28, .int .u8 2, .int .u8 29, .int .u8 14, .int .u8 24, .int .u8 3, .int .u8 30, .int .u8 22, .int .u8 20, .int .u8 15, .int .u8 25, .int .u8 17, .int .u8 4, .int .u8 8, .int .u8 31, .int .u8 27, .int .u8 13, .int .u8 23, .int .u8 21, .int .u8 19, .int .u8 16, .int .u8 7, .int .u8 26, .int .u8 12, .int .u8 18, .int .u8 6, .int .u8 11, .int .u8 5, .int .u8 10, .int .u8 9])).modify 2 (lay31 #[.int .u8 0, .int .u8 1, .int .u8 56, .int .u8 2, .int .u8 57, .int .u8 49, .int .u8 28, .int .u8 3, .int .u8 61, .int .u8 58, .int .u8 42, .int .u8 50, .int .u8 38, .int .u8 29, .int .u8 17, .int .u8 4, .int .u8 62, .int .u8 47, .int .u8 59, .int .u8 36, .int .u8 45, .int .u8 43, .int .u8 51, .int .u8 22, .int .u8 53, .int .u8 39, .int .u8 33, .int .u8 30, .int .u8 24, .int .u8 18, .int .u8 12, .int .u8 5, .int .u8 63, .int .u8 55, .int .u8 48, .int .u8 27, .int .u8 60, .int .u8 41, .int .u8 37, .int .u8 16, .int .u8 46, .int .u8 35, .int .u8 44, .int .u8 21, .int .u8 52, .int .u8 32, .int .u8 23, .int .u8 11, .int .u8 54, .int .u8 26, .int .u8 40, .int .u8 15, .int .u8 34, .int .u8 20, .int .u8 31, .int .u8 10, .int .u8 25, .int .u8 14, .int .u8 19, .int .u8 9, .int .u8 13, .int .u8 8, .int .u8 7, .int .u8 6])).modify 4 (lay31 #[.iface 391 (.pointer (some ⟨11, 0, none⟩))])).modify 3 (lay31 #[.iface 391 (.pointer (some ⟨12, 0, none⟩))])) ++ #[.cells #[.string ⟨#[118, 97, 108, 117, 101, 32, 111, 117, 116, 32, 111, 102, 32, 114, 97, 110, 103, 101]⟩] 393 (0, 0), .cells #[.string ⟨#[105, 110, 118, 97, 108, 105, 100, 32, 115, 121, 110, 116, 97, 120]⟩] 393 (0, 0)] }
end Go.Proofs.YtnbikkcalcpedaaGreatDoor

/-! slices.SortFunc of terms at every length, by a function that puts the greater exponents first. -/
namespace Go.Proofs.YtnbikkcalcpedaaGreatDoor
open Go.RowKit

/-- What the comparison of terms returns. -/
def tcf (a b : Tm) : Int := lexI b.1.1 b.1.2 a.1.1 a.1.2
theorem tcf_lt (a b : Tm) : ltOf tcf a b = abv a.1 b.1 := by
  unfold ltOf tcf abv
  rw [Bool.eq_iff_iff]
  simp only [decide_eq_true_eq, Bool.or_eq_true, Bool.and_eq_true, lexI_neg]
  omega
theorem tcf_swo : Go.Sort.SWO (ltOf tcf) where
  irrefl x := by rw [tcf_lt]; exact abv_ir
  trans x y z h1 h2 := by rw [tcf_lt] at *; exact abv_tr h1 h2
  ntrans x y z h1 h2 := by
    rw [tcf_lt] at *
    simp [abv] at *
    omega
/-- A term's cells. -/
def encT (a : Tm) : List Value := [.int .i64 a.1.1, .int .i64 a.1.2, .string (intS a.2)]
theorem flat_tm (p : List Tm) : (Go.Sort.flatK encT 3 p.toArray).toList = tmCells p := by
  refine List.ext_getElem? fun t => ?_
  by_cases ht : t < p.length * 3
  · have hj : t / 3 < p.length := by omega
    obtain ⟨a, ha⟩ : ∃ a, p[t / 3]? = some a := ⟨_, List.getElem?_eq_getElem hj⟩
    obtain ⟨h0, h1, h2⟩ := tmCells_at ha
    have hg : (p.toArray[t / 3]! : Tm) = a := by
      rw [getElem!_pos p.toArray (t / 3) (by simpa using hj)]
      simpa using (List.getElem?_eq_some_iff.1 ha).2
    have hl : (Go.Sort.flatK encT 3 p.toArray).toList[t]? = some ((encT a)[t % 3]!) := by
      have h := Go.Sort.get_flatK encT 3 p.toArray t (by simpa using ht)
      have hs : t < (Go.Sort.flatK encT 3 p.toArray).size := by simpa using ht
      rw [hg, getElem!_pos (Go.Sort.flatK encT 3 p.toArray) t hs] at h
      rw [Array.getElem?_toList, Array.getElem?_eq_getElem hs, h]
    rw [hl]
    rcases (by omega : t % 3 = 0 ∨ t % 3 = 1 ∨ t % 3 = 2) with hr | hr | hr
    · rw [hr]
      rw [show t / 3 * 3 = t by omega] at h0
      rw [h0]; rfl
    · rw [hr]
      rw [show t / 3 * 3 + 1 = t by omega] at h1
      rw [h1]; rfl
    · rw [hr]
      rw [show t / 3 * 3 + 2 = t by omega] at h2
      rw [h2]; rfl
  · rw [List.getElem?_eq_none (by simp; omega), List.getElem?_eq_none (by rw [tmCells_length]; omega)]
section
variable {α : Type} [Inhabited α] {enc : α → Value} {w : World} {g n : Nat} {os : Array Obj} {cur : Array Value}
/-- What a sort leaves of its row, and of all else. -/
theorem grown_rowT (d : Array α) : w.grownBy (Go.Proofs.sortWorld enc w g 0 n d os) (some g) := by
  refine ⟨rfl, rfl, rfl, by simp [Go.Proofs.sortWorld], fun k hk hne => ?_⟩
  unfold Go.Proofs.sortWorld
  rw [Go.Sort.heap_grow_old _ _ (by simpa using hk)]
  have : g ≠ k := fun e => hne (by rw [e])
  simp [Go.Sort.putRow, Go.Sort.mapBlock, Go.Sort.ahead, Array.getElem?_modify, this]
theorem heap_rowT {e : TypeId} {fr : Nat × Nat} (d : Array α) (hb : w.heap[g]? = some (.cells cur e fr)) : (Go.Proofs.sortWorld enc w g 0 n d os).heap[g]? = some (.cells (Go.Sort.putCells enc 0 d cur) e fr) := by
  have hg : g < w.heap.size := (Array.getElem?_eq_some_iff.1 hb).1
  unfold Go.Proofs.sortWorld
  rw [Go.Sort.heap_grow_old _ _ (by simpa using hg)]
  simp [Go.Sort.putRow, Go.Sort.mapBlock, Go.Sort.ahead, Array.getElem?_modify, hb, Go.Sort.onCells]
theorem take_rowT (d : Array α) (h : d.size ≤ cur.size) : (Go.Sort.putCells enc 0 d cur).toList.take d.size = d.toList.map enc := by
  apply List.ext_getElem?
  intro j
  by_cases hj : j < d.size
  · rw [List.getElem?_take_of_lt hj, Array.getElem?_toList]
    simp [Go.Sort.putCells, hj, show j < cur.size by omega]
  · rw [List.getElem?_take_eq_none (by omega), List.getElem?_eq_none (by simp; omega)]
end
set_option maxHeartbeats 1600000 in
/-- The sort within: pdqsort, at the whole row. -/
theorem pdqT_any (f : Nat) (eg : ∀ args w, (callFunc f args).run Tryz.prog w = .ok (.enter f args) w) (hcmp : ∀ (x y : Tm) (W : World), Calls Tryz.prog f #[.agg (encT x).toArray, .agg (encT y).toArray] W fun e w' => e = .returned (.int .i64 (tcf x y)) ∧ ∃ q os', w' = Go.Sort.grow (W.drewN q) os')
    (base : Nat) (A : Option Addr) (c : Nat) (p : List Tm) (hn : p.length ≤ 1048576) (w : World) (h : OwnT w base A c p) :
    Calls Tryz.prog 117 #[.slice A p.length c, .int .i64 0, .int .i64 p.length, .int .i64 (Lib.bitLen p.length : Nat), .func (.func f) #[] #[]] w fun e w' => e = .returned (.tuple #[]) ∧ ∃ p', p.Perm p' ∧ (p'.Pairwise fun a b => abv b.1 a.1 = false) ∧ OwnT w' base A c p' ∧ Below base w w' := by
  by_cases h0 : p.length = 0
  · obtain rfl : p = [] := List.eq_nil_of_length_eq_zero h0
    have hc := AnyF.pdqsortCmpFunc_none (P := Tryz.prog) (ρ := laySortTm_ren) { laySortTm with } A c (Lib.bitLen 0 : Nat) (.func (.func f) #[] #[]) w
    refine hc.mono ?_
    rintro e w' ⟨rfl, rfl⟩
    exact ⟨rfl, [], List.Perm.refl _, List.Pairwise.nil, h, Below.refl _ _⟩
  · rcases h.2 with ⟨hnil, hz⟩ | ⟨g, cp, cur, hv, hbase, hb, h1, h2, h3, h4⟩
    · exact absurd hz h0
    · injection hv with hA _ hcap
      subst hA
      subst hcap
      have hgl : g < w.heap.size := (Array.getElem?_eq_some_iff.1 hb).1
      have hsz : p.toArray.size = p.length := by simp
      have hfl : (Go.Sort.flatK encT 3 p.toArray).size = p.length * 3 := by simp
      have hH : Go.Sort.HoldsK encT 3 w g 0 p.toArray := by
        intro j hj
        have hj' : j < p.length * 3 := by rw [hfl] at hj; exact hj
        have h5 : (cur.toList.take (p.length * 3))[j]? = (tmCells p)[j]? := by rw [h4]
        rw [List.getElem?_take_of_lt hj', ← flat_tm p, Array.getElem?_toList, Array.getElem?_toList] at h5
        refine ⟨?_, by simp [World.frozen?, hb]⟩
        simp only [World.cell?, hb, Nat.zero_add]
        simp only [Option.isSome_none, Bool.false_eq_true, if_false]
        rw [h5, getElem!_pos _ j hj]
        simp
      have hk : ∀ x : Tm, (encT x).length = 3 := fun _ => rfl
      have hone : ∀ x : Tm, ∀ v ∈ encT x, v.oneCell' = true := fun x v hv => by
        simp [encT] at hv
        rcases hv with rfl | rfl | rfl <;> rfl
      have hlim : Lib.bitLen p.length < 4611686018427387904 := Nat.lt_of_le_of_lt (Lib.bitLen_le p.length 62 (by omega) (by omega)) (by omega)
      have hcl : Go.Proofs.CmpLays Tryz.prog f #[] encT 3 tcf g 0 p.toArray.size w := fun m os dk _ x y => hcmp x y _
      have hp := AnyQ.pdqsortCmpFunc_all (P := Tryz.prog) (ρ := laySortTm_ren) { laySortTm with } 3 Tryz.isAgg87 Tryz.sizeOf87 encT tcf f #[] tcf_swo g 0 c p.toArray w eg hcl ⟨hk, hone, hH, hgl⟩ (p.length + 1) 0 p.length (Lib.bitLen p.length) p.toArray w (by omega) rfl (Go.Proofs.SWK.start hH) (Nat.zero_le _) (by rw [hsz]; exact Nat.le_refl _) (by omega) hlim (Or.inl rfl)
      rw [hsz] at hp
      refine hp.mono ?_
      rintro e w' ⟨rfl, m, os, rfl⟩
      obtain ⟨hP, hS⟩ := Go.Sort.pdq_sorts (ltOf tcf) tcf_swo p.toArray 0 p.length (Lib.bitLen p.length) true true (Nat.zero_le _) (by rw [hsz]; exact Nat.le_refl _) (Or.inl rfl)
      obtain ⟨dd, hdd⟩ : ∃ dd, Go.Sort.pdq (ltOf tcf) p.toArray 0 p.length (Lib.bitLen p.length) true true = dd := ⟨_, rfl⟩
      rw [hdd] at hP hS ⊢
      obtain ⟨q1, _, q3⟩ := hP
      rw [hsz] at q1
      have e1 : dd.extract 0 p.length = dd := by rw [← q1]; simp
      have e2 : p.toArray.extract 0 p.length = p.toArray := by conv => lhs; arg 3; rw [← hsz]
                                                               simp
      rw [e1, e2] at q3
      have hg : w.grownBy (Go.Proofs.sortWorld id w g 0 m (Go.Sort.flatK encT 3 dd) os) (some g) := grown_rowT _
      have hfd : (Go.Sort.flatK encT 3 dd).toList = tmCells dd.toList := by have := flat_tm dd.toList; simpa using this
      have hfs : (Go.Sort.flatK encT 3 dd).size = p.length * 3 := by simp [q1]
      have hlen : dd.toList.length = p.length := by simp [q1]
      refine ⟨rfl, dd.toList, by simpa using q3.symm, ?_, ?_, ?_⟩
      · rw [List.pairwise_iff_getElem]
        intro i j hi hj hij
        have hjs : j < dd.size := by simpa using hj
        have h := hS i j (Nat.zero_le _) hij (by omega)
        rw [getElem!_pos dd j hjs, getElem!_pos dd i (by omega), tcf_lt] at h
        exact h
      · unfold OwnT
        rw [hlen]
        refine ⟨by rw [tmCells_length, hlen], .inr ⟨g, c, _, rfl, hbase, heap_rowT (enc := id) (Go.Sort.flatK encT 3 dd) hb, h1, h2, by simp [Go.Sort.putCells, h3], ?_⟩⟩
        have h6 := take_rowT (enc := id) (cur := cur) (Go.Sort.flatK encT 3 dd) (by rw [hfs, h3]; omega)
        rw [hfs] at h6
        rw [h6, List.map_id, hfd]
      · exact (Below.refl _ _).grown hg (Nat.le_of_lt (Nat.lt_of_le_of_lt hbase hgl)) (fun j hj => by cases hj; exact hbase)
set_option maxRecDepth 100000 in
set_option maxHeartbeats 1000000 in
theorem sortT_any (f : Nat) (eg : ∀ args w, (callFunc f args).run Tryz.prog w = .ok (.enter f args) w) (hcmp : ∀ (x y : Tm) (W : World), Calls Tryz.prog f #[.agg (encT x).toArray, .agg (encT y).toArray] W fun e w' => e = .returned (.int .i64 (tcf x y)) ∧ ∃ q os', w' = Go.Sort.grow (W.drewN q) os')
    (base : Nat) (A : Option Addr) (c : Nat) (p : List Tm) (hn : p.length ≤ 1048576) (w : World) (h : OwnT w base A c p) :
    Calls Tryz.prog 59 #[.slice A p.length c, .func (.func f) #[] #[]] w fun e w' => e = .returned (.tuple #[]) ∧ ∃ p', p.Perm p' ∧ (p'.Pairwise fun a b => abv b.1 a.1 = false) ∧ OwnT w' base A c p' ∧ Below base w w' := by
  have PC := Lib.hid (pdqT_any f eg hcmp base A c p hn w h)
  have hl : Calls Tryz.prog 118 #[.int .u64 (p.length : Int)] w fun e w' => e = .returned (.int .i64 (Lib.bitLen p.length : Nat)) ∧ w' = w := by
    have h := Any.bits_Len (SlLaysF0.n15.bits (P := Tryz.prog) (ρ := laySortTm_ren) { laySortTm with }) (p.length : Int) w (by omega) (by omega)
    rwa [Int.toNat_natCast] at h
  have LC := Lib.hid hl
  have wr : IntKind.u64.wrap (p.length : Int) = p.length := by simp [IntKind.wrap, IntKind.bits, IntKind.signed]; omega
  obtain ⟨n, hN⟩ : ∃ n, p.length = n := ⟨_, rfl⟩
  obtain ⟨l, hL⟩ : ∃ l, Lib.bitLen n = l := ⟨_, rfl⟩
  rw [hN] at PC LC wr ⊢
  rw [hL] at PC LC
  clear hl hN hL hn h eg hcmp
  go_enter Tryz.func59, Tryz.ntmps59
  go_wp2_with fail
  refine (LC.out).mono ?_
  rintro e w' ⟨rfl, rfl⟩
  go_wp2_with fail
  refine (PC.out).mono ?_
  rintro e w' ⟨rfl, p', h1, h2, h3, h4⟩
  go_wp2
  go_end0
  exact ⟨rfl, p', h1, h2, h3, h4⟩
end Go.Proofs.YtnbikkcalcpedaaGreatDoor

/-! Natural numbers as words of memory (at most one word): slices of uint32; ParseUint's reading of a numeral. -/
namespace Go.Proofs.YtnbikkcalcpedaaGreatDoor
open Go.RowKit Go.Lib

/-- Words in memory. -/
def u32s (l : List Nat) : List Value := l.map fun n => .int .u32 (n : Nat)
theorem u32s_at {l : List Nat} {k n : Nat} (h : l[k]? = some n) : (u32s l)[k]? = some (.int .u32 (n : Nat)) := by simp [u32s, h]
theorem info_u32 : (Tryz.prog.info? 209).map (fun i => (i.zero, i.size, i.bytes)) = some (some (.int .u32 0), 1, 4) := by kernel_rfl
/-- The one word of a number below the base; none for 0. -/
def wordsN (n : Nat) : List Nat := if n = 0 then [] else [n]
theorem wordsN_pos {n : Nat} (h : 0 < n) : wordsN n = [n] := by unfold wordsN; rw [if_neg (by omega)]
theorem parseM_snoc (M : Nat) (c : UInt8) : ∀ (l : List UInt8) (acc v : Nat), parseUintM M acc l = .ok v → 48 ≤ c.toNat ∧ c.toNat ≤ 57 → v < 1844674407370955162 → v * 10 + (c.toNat - 48) ≤ M → parseUintM M acc (l ++ [c]) = .ok (v * 10 + (c.toNat - 48))
  | [], acc, v, h, hc, hv, hM => by
    simp only [parseUintM] at h
    injection h with h
    subst h
    rw [List.nil_append, parseUintM, if_pos hc, if_neg (by omega), if_neg (by omega), parseUintM]
  | d :: r, acc, v, h, hc, hv, hM => by
    rw [parseUintM] at h
    rw [List.cons_append, parseUintM]
    by_cases h1 : 48 ≤ d.toNat ∧ d.toNat ≤ 57
    · rw [if_pos h1] at h ⊢
      by_cases h2 : 1844674407370955162 ≤ acc
      · rw [if_pos h2] at h; cases h
      · rw [if_neg h2] at h ⊢
        by_cases h3 : M < acc * 10 + (d.toNat - 48)
        · rw [if_pos h3] at h; cases h
        · rw [if_neg h3] at h ⊢
          exact parseM_snoc M c r _ v h hc hv hM
    · rw [if_neg h1] at h; cases h
theorem parseM_dec (M n : Nat) (h : n ≤ M) (hM : M < 18446744073709551616) : parseUintM M 0 (decDigits n) = .ok n := by
  induction n using Nat.strongRecOn with
  | _ n ih =>
    by_cases h10 : n < 10
    · rw [decDigits_one h10, parseUintM, if_pos (by rw [dig_byte h10]; omega), if_neg (by omega), dig_byte h10, if_neg (by omega), parseUintM]
      congr 1
      omega
    · rw [decDigits_step n h10]
      have h1 := ih (n / 10) (by omega) (by omega)
      have h2 := parseM_snoc M (UInt8.ofNat (48 + n % 10)) _ 0 _ h1 (by rw [dig_byte (by omega)]; omega) (by omega) (by rw [dig_byte (by omega)]; omega)
      rw [h2, dig_byte (by omega)]
      congr 1
      omega
theorem parse32_dec (n : Nat) (h : n < 4294967296) : parseUintB 32 (decDigits n) = .ok n := by
  unfold parseUintB
  rw [if_neg (dec_pos n)]
  exact parseM_dec _ n (by omega) (by omega)
end Go.Proofs.YtnbikkcalcpedaaGreatDoor

/-! The comparison of terms in activity.Polynomial. -/
namespace Go.Proofs.YtnbikkcalcpedaaGreatDoor
open Go.RowKit
set_option maxRecDepth 100000 in
set_option maxHeartbeats 1000000 in
theorem actcmp_any (x y : Tm) (w : World) :
    Calls Tryz.prog 60 #[.agg (encT x).toArray, .agg (encT y).toArray] w fun e w' => e = .returned (.int .i64 (tcf x y)) ∧ ∃ q os', w' = Go.Sort.grow (w.drewN q) os' := by
  obtain ⟨⟨x1, x2⟩, x3⟩ := x
  obtain ⟨⟨y1, y2⟩, y3⟩ := y
  have HD : Hid (tcf ((x1, x2), x3) ((y1, y2), y3) = orI (cmpI y1 x1) (cmpI y2 x2)) := rfl
  show Calls Tryz.prog 60 #[.agg #[.int .i64 x1, .int .i64 x2, .string (intS x3)], .agg #[.int .i64 y1, .int .i64 y2, .string (intS y3)]] w _
  obtain ⟨r, hr⟩ : ∃ r, tcf ((x1, x2), x3) ((y1, y2), y3) = r := ⟨_, rfl⟩
  obtain ⟨sx, hsx⟩ : ∃ s, intS x3 = s := ⟨_, rfl⟩
  obtain ⟨sy, hsy⟩ : ∃ s, intS y3 = s := ⟨_, rfl⟩
  rw [hr] at HD ⊢
  rw [hsx, hsy]
  clear hr hsx hsy
  have G := Blk.new ((w.alloc (.cells #[.int .i64 x1, .int .i64 x2, .string sx] 87)).alloc (.cells #[.int .i64 y1, .int .i64 y2, .string sy] 87)) 3 #[.int .i64 (cmpI y1 x1), .int .i64 (cmpI y2 x2)]
  rw [show ((w.alloc (.cells #[.int .i64 x1, .int .i64 x2, .string sx] 87)).alloc (.cells #[.int .i64 y1, .int .i64 y2, .string sy] 87)).heap.size = w.heap.size + 1 + 1 from by simp] at G
  have HC := Lib.hid (or_any (w.heap.size + 1 + 1) 2 (cmpI y1 x1) (cmpI y2 x2) _ (G.drew.cell 0) (G.drew.cell 1))
  clear G
  go_enter Tryz.func60, Tryz.ntmps60
  go_wp2
  refine region_tail 10 (by kernel_rfl) (by kernel_rfl) ?_
  simp only [List.take_succ_cons, List.take_zero, List.drop_succ_cons, List.drop_zero]
  repeat still_step
  still_call ((compare_any _ _ _).mono fun _ _ h => ⟨h.1, h.2.symm⟩)
  repeat still_step
  still_call ((compare_any _ _ _).mono fun _ _ h => ⟨h.1, h.2.symm⟩)
  refine wpStill_nil ?_
  go_wp2_with (go_at_call 61; refine (HC.out).mono ?_; rintro e w' ⟨rfl, rfl⟩)
  go_ret
  refine ⟨by rw [HD.out]; rfl, 1, #[.cells #[.int .i64 x1, .int .i64 x2, .string sx] 87, .cells #[.int .i64 y1, .int .i64 y2, .string sy] 87, .cells #[.int .i64 (cmpI y1 x1), .int .i64 (cmpI y2 x2)] 3], ?_⟩
  rw [show (#[.cells #[.int .i64 x1, .int .i64 x2, .string sx] 87, .cells #[.int .i64 y1, .int .i64 y2, .string sy] 87, .cells #[.int .i64 (cmpI y1 x1), .int .i64 (cmpI y2 x2)] 3] : Array Obj) = #[.cells #[.int .i64 x1, .int .i64 x2, .string sx] 87] ++ #[.cells #[.int .i64 y1, .int .i64 y2, .string sy] 87] ++ #[.cells #[.int .i64 (cmpI y1 x1), .int .i64 (cmpI y2 x2)] 3] from rfl, ← Go.Sort.grow_grow, ← Go.Sort.grow_grow, ← Go.Sort.alloc_eq_grow, ← Go.Sort.alloc_eq_grow, ← Go.Sort.alloc_eq_grow]
  rfl
end Go.Proofs.YtnbikkcalcpedaaGreatDoor

