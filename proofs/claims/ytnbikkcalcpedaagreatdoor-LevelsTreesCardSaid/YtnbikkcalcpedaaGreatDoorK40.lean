/-
 Texts of this claim, put together: Mono, Same06, Card31b, SortT, Uint, PolyC, Nat1.
-/
import Derived.Test.YtnbikkcalcpedaaGreatDoorK39
import Derived.Lib.ConvBytes
import Derived.LaidSub
import Derived.Test.YtnbikkcalcpedaaGreatDoorK12
import Derived.Shelf.SlSortCmp.NoneTotal
import Derived.Lib.ParseIntB
import Derived.Test.YtnbikkcalcpedaaGreatDoorK04
set_option maxRecDepth 100000
set_option maxHeartbeats 2000000
namespace Go.Proofs.YtnbikkcalcpedaaGreatDoor
open Go.RowKit Go.Lib
structure DigL (l : List UInt8) : Prop where
 pos : l ≠ []
 dig : ∀ b ∈ l, 48 ≤ b.toNat ∧ b.toNat ≤ 57
 head : l.length = 1 ∨ l.head? ≠ some 48
theorem dig_byte {d : Nat} (h : d < 10) : (UInt8.ofNat (48 + d)).toNat = 48 + d := by rw [UInt8.toNat_ofNat']; omega
theorem decDigits_step (n : Nat) (h : ¬ n < 10) : decDigits n = decDigits (n / 10) ++ [UInt8.ofNat (48 + n % 10)] := by
 rw [decDigits, dif_neg h]
theorem dec_pos (n : Nat) : decDigits n ≠ [] := by
 by_cases h : n < 10
 ·rw [decDigits_one h]; simp
 ·rw [decDigits_step n h]; simp
theorem dec_dig2 (n : Nat) : ∀ b ∈ decDigits n, 48 ≤ b.toNat ∧ b.toNat ≤ 57 := by
 induction n using Nat.strongRecOn with
 | _ n ih =>
   intro b hb
   by_cases h : n < 10
   ·rw [decDigits_one h, List.mem_singleton] at hb
    subst hb
    rw [dig_byte h]; omega
   ·rw [decDigits_step n h] at hb
    rcases List.mem_append.1 hb with hb | hb
    ·exact ih (n / 10) (by omega) b hb
    ·rw [List.mem_singleton] at hb
     subst hb
     rw [dig_byte (by omega)]; omega
theorem decHead31 (n : Nat) (h0 : 0 < n) : (decDigits n).head? ≠ some 48 := by
 induction n using Nat.strongRecOn with
 | _ n ih =>
   by_cases h : n < 10
   ·rw [decDigits_one h, List.head?_cons]
    intro hc
    injection hc with hc
    have := congrArg UInt8.toNat hc
    rw [dig_byte h] at this
    have h48 : (48 : UInt8).toNat = 48 := rfl
    omega
   ·have h1 := ih (n / 10) (by omega) (by omega)
    obtain ⟨a, l, h2⟩ := List.exists_cons_of_ne_nil (dec_pos (n / 10))
    rw [h2, List.head?_cons] at h1
    rw [decDigits_step n h, h2, List.cons_append, List.head?_cons]
    exact h1
theorem digL_dec (n : Nat) : DigL (decDigits n) := ⟨dec_pos n, dec_dig2 n, by
 by_cases h : n = 0
 ·subst h; left; rw [decDigits_one (by omega)]; rfl
 ·exact .inr (decHead31 n (by omega))⟩
theorem cutpre_no (s : ByteArray) (h1 : 1 ≤ s.size) (hx : ((s.extract 0 1).toList == [45]) = false) (w : World) : Calls Tryz.prog 123 #[.string s, .string ⟨#[45]⟩] w fun e w' => e = .returned (.tuple #[.string s, .bool false]) ∧ w' = w := by
 have hs : (1 : Int) ≤ (s.size : Int) := by omega
 have h0 : (0 : Int) ≤ (s.size : Int) := by omega
 have hsl : ∀ w, (Instr.slice 9 (.string s) none (some (.int .i64 1)) none).run Tryz.prog w = .ok (.string (s.extract 0 1)) w := fun w => by
  have := run_slice_string_h (P := Tryz.prog) (w := w) (t := 9) (s := s) Tryz.underlying9 .i64 1 (by omega) hs
  simpa using this
 go_enter Tryz.func123, Tryz.ntmps123
 go_wp2
 go_ret2
 exact ⟨rfl, rfl⟩
theorem bytes_below (w : World) (e : TypeId) (s : ByteArray) : Below w.heap.size w (bytesWorld w e s) :=
 ⟨rfl, rfl, rfl, by rw [bytesWorld_size]; omega, fun k hk => bytesWorld_at_old w e s k hk⟩
theorem check_num (l : List UInt8) (hl : DigL l) (hn : l.length ≤ 1024) (w : World) : Calls Tryz.prog 65 #[.string ⟨l.toArray⟩] w fun e w' => e = .returned (.int .i64 0) ∧ Below w.heap.size w w' := by
 have hne : l ≠ [] := hl.pos
 have hdig := Lib.hid hl.dig
 have hhead := Lib.hid hl.head
 obtain ⟨a, r, rfl⟩ := List.exists_cons_of_ne_nil hne
 obtain ⟨s, hs⟩ : ∃ s : ByteArray, (⟨(a :: r).toArray⟩ : ByteArray) = s := ⟨_, rfl⟩
 have hsl : s.data.toList = a :: r := by rw [← hs]
 have hsz : s.size = (a :: r).length := by rw [size_eq, hsl]
 have ha := hdig.out a (by simp)
 have hx : ((s.extract 0 1).toList == [45]) = false := by
  rw [extract_toList, hsl]
  simp
  intro hc
  rw [hc] at ha
  have h45 : (45 : UInt8).toNat = 45 := rfl
  omega
 have CC := Lib.hid (cutpre_no s (by rw [hsz]; simp) hx w)
 have hcv := Go.Lib.run_convert_string_bytes (P := Tryz.prog) w 9 169 5 s Tryz.underlying9 Tryz.underlying169 Tryz.underlying5
 have hB := bytes_below w 5 s
 have hcell := Lib.hid (bytesWorld_cell w 5 s)
 obtain ⟨BW, hBW⟩ : ∃ BW, bytesWorld w 5 s = BW := ⟨_, rfl⟩
 obtain ⟨cap, hcap⟩ : ∃ c, grownCap w s.size 0 5 = c := ⟨_, rfl⟩
 rw [hBW] at hcv hB hcell
 rw [hcap] at hcv
 obtain ⟨n, hN⟩ : ∃ n, s.size = n := ⟨_, rfl⟩
 have hie : s.toList.isEmpty = false := by rw [toList_data, hsl]; rfl
 have hix : ∀ w, (Instr.index 9 (.string s) (.int .i64 0)).run Tryz.prog w = .ok (.int .u8 (a.toNat : Nat)) w := fun w => by
  have h0 : 0 < s.size := by rw [hsz]; simp
  rw [run_index_string w 9 s .i64 0 Tryz.underlying9, dif_pos ⟨by omega, by omega⟩]
  have hd : s[(0 : Int).toNat]'(by simpa using h0) = a := by
   show s.data[0]'_ = a
   have h1 : s.data.toList[0]'(by rw [hsl]; simp) = a := by simp [hsl]
   rw [Array.getElem_toList] at h1
   exact h1
  rw [hd]
 have hnn : n = r.length + 1 := by rw [← hN, hsz]; rfl
 rw [hs]
 rw [hN] at hcv hcell hsz
 have HSL := Lib.hid hsl
 have HSZ := Lib.hid hsz
 have HNN := Lib.hid hnn
 have HA := Lib.hid ha
 have hn24 : ¬ (1024 : Int) < (n : Int) := by simp at hn; omega
 have hn0 : (0 : Int) < (n : Int) := by omega
 clear hBW hcap hs hx hne hsl hsz hnn ha hn hl
 go_enter Tryz.func65, Tryz.ntmps65
 go_wp2_with fail
 refine (CC.out).mono ?_
 rintro e w' ⟨rfl, rfl⟩
 go_wp2
 go_loopw [6, 15] (fun _ i wr => ∃ k : Nat, k ≤ n ∧ i = .int .i64 k ∧ wr = BW) (fun _ i _ => n - (RowKit.intOf i).toNat)
 case atStart => exact ⟨0, by omega, rfl, rfl⟩
 case round =>
  obtain ⟨k, hk, rfl, rfl⟩ := hrel
  by_cases hlt : k < n
  ·have hi : (k : Int) < (n : Int) := by omega
   have hc := hcell.out k (by omega)
   have hmem : s.data.toList.getD k 0 ∈ a :: r := by
    have hkl : k < (a :: r).length := by rw [← HSZ.out]; exact hlt
    rw [HSL.out, List.getD_eq_getElem?_getD, List.getElem?_eq_getElem hkl]
    exact List.getElem_mem _
   have hb := hdig.out _ hmem
   obtain ⟨b, hbb⟩ : ∃ b, (s.data.toList.getD k 0).toNat = b := ⟨_, rfl⟩
   rw [hbb] at hc hb
   have hb1 : ¬ (b : Int) < 48 := by omega
   have hb2 : ¬ (57 : Int) < (b : Int) := by omega
   have hb3 : decide ((b : Int) < 48) = false := decide_eq_false hb1
   have hb4 : decide ((57 : Int) < (b : Int)) = false := decide_eq_false hb2
   clear hmem hbb hb hcv
   go_wp2
   go_roundw
   case rel => exact ⟨k + 1, by omega, by go_num, trivial⟩
   case measure => simp [RowKit.intOf]; omega
  ·obtain rfl : k = n := by omega
   have hf : ¬ (k : Int) < (k : Int) := by omega
   clear hcv
   by_cases h48 : (a.toNat : Int) = 48
   ·have h1 : ¬ (1 : Int) < (k : Int) := by
     rcases hhead.out with h | h
     ·rw [← HSZ.out] at h; omega
     ·refine absurd ?_ h
      rw [List.head?_cons]
      congr 1
      exact UInt8.toNat_inj.1 (show a.toNat = 48 by omega)
    have hk1 : decide ((1 : Int) < (k : Int)) = false := decide_eq_false h1
    go_wp2
    go_ret
    exact ⟨rfl, hB⟩
   ·go_wp2
    go_ret
    exact ⟨rfl, hB⟩
theorem nDig_le : ∀ (k n : Nat), n < 10 ^ (k + 1) → nDigits n ≤ k + 1
 | 0, n, h => by rw [nDigits_small (by simpa using h)]; omega
 | k + 1, n, h => by
   by_cases h1 : n < 10
   ·rw [nDigits_small h1]; omega
   ·rw [nDigits_big h1]
    have := nDig_le k (n / 10) (by rw [Nat.pow_succ] at h; omega)
    omega
theorem check_int (n : Nat) (hn : n < 10 ^ 100) (w : World) : Calls Tryz.prog 65 #[.string (intS n)] w fun e w' => e = .returned (.int .i64 0) ∧ Below w.heap.size w w' := by
 have h := check_num (decDigits n) (digL_dec n) (by
  rw [decDigits_length]
  have := nDig_le 99 n hn
  omega) w
 unfold intS itoa
 rw [if_neg (by omega), Int.toNat_natCast]
 exact h
end Go.Proofs.YtnbikkcalcpedaaGreatDoor
namespace Go.Proofs.YtnbikkcalcpedaaGreatDoor
open Go.RowKit
theorem rsame06_any (A : Option Addr) (c : Nat) (p : List Tm) (B : Option Addr) (d : Nat) (hn : p.length ≤ 1048576) (w : World) (h : Reads w w.heap.size 3 A p.length (tmCells p)) (h' : Reads w w.heap.size 3 B p.length (tmCells p)) :
  Calls Tryz.prog 41 #[.slice A p.length c, .slice B p.length d] w fun e w' => e = .returned (.bool true) ∧ Below w.heap.size w w' := by
 obtain ⟨N, hN⟩ : ∃ N, p.length = N := ⟨_, rfl⟩
 have HN := Lib.hid hN
 rw [hN] at h h' hn ⊢
 clear hN
 go_enter Tryz.func41, Tryz.ntmps41
 go_wp2
 go_loopw [5] (fun i wr => ∃ k : Nat, k ≤ N ∧ i = .int .i64 k ∧ Below w.heap.size w wr) (fun i _ => N - (intOf i).toNat)
 case atStart => exact ⟨0, by omega, rfl, Below.refl _ _⟩
 case round =>
  obtain ⟨k, hk, rfl, hbel⟩ := hrel
  by_cases hlt : k < N
  ·obtain ⟨x, hx⟩ : ∃ x, p[k]? = some x := ⟨_, List.getElem?_eq_getElem (by rw [HN.out]; exact hlt)⟩
   obtain ⟨b, off, rfl, hb, q0, q1, q2⟩ := (h.below hbel).tm hx
   obtain ⟨b', off', rfl, hb', s0, s1, s2⟩ := (h'.below hbel).tm hx
   have hi : (k : Int) < (N : Int) := by omega
   obtain ⟨S, hS⟩ : ∃ S, intS x.2 = S := ⟨_, rfl⟩
   rw [hS] at q2 s2
   clear hx h h' hS
   go_wp2
   go_quiet (fail)
   go_wp2
   go_roundw
   case rel => exact ⟨k + 1, by omega, by go_num, below_drewN hbel _⟩
   case measure => simp [intOf]; omega
  ·have hf : ¬ (k : Int) < (N : Int) := by omega
   go_wp2
   go_ret
   exact ⟨rfl, hbel⟩
end Go.Proofs.YtnbikkcalcpedaaGreatDoor
namespace Go.Proofs.YtnbikkcalcpedaaGreatDoor
open Go.ChangeShapes Go.WideShapes Go.ChangeAt Go.RowKit
noncomputable def laidWorld31b (os : Os) : World :=
 { World.holding Tryz.prog os ⟨#[], #[], []⟩ with heap := ((((((World.holding Tryz.prog os ⟨#[], #[], []⟩).heap.modify 0 (lay31 #[.int .u64 1, .int .u64 10, .int .u64 100, .int .u64 1000, .int .u64 10000, .int .u64 100000, .int .u64 1000000, .int .u64 10000000, .int .u64 100000000, .int .u64 1000000000, .int .u64 10000000000, .int .u64 100000000000, .int .u64 1000000000000, .int .u64 10000000000000, .int .u64 100000000000000, .int .u64 1000000000000000, .int .u64 10000000000000000, .int .u64 100000000000000000, .int .u64 1000000000000000000, .int .u64 10000000000000000000])).modify 1 (lay31 #[.int .u8 0, .int .u8 1, .int .u8 28, .int .u8 2, .int .u8 29, .int .u8 14, .int .u8 24, .int .u8 3, .int .u8 30, .int .u8 22, .int .u8 20, .int .u8 15, .int .u8 25, .int .u8 17, .int .u8 4, .int .u8 8, .int .u8 31, .int .u8 27, .int .u8 13, .int .u8 23, .int .u8 21, .int .u8 19, .int .u8 16, .int .u8 7, .int .u8 26, .int .u8 12, .int .u8 18, .int .u8 6, .int .u8 11, .int .u8 5, .int .u8 10, .int .u8 9])).modify 2 (lay31 #[.int .u8 0, .int .u8 1, .int .u8 56, .int .u8 2, .int .u8 57, .int .u8 49, .int .u8 28, .int .u8 3, .int .u8 61, .int .u8 58, .int .u8 42, .int .u8 50, .int .u8 38, .int .u8 29, .int .u8 17, .int .u8 4, .int .u8 62, .int .u8 47, .int .u8 59, .int .u8 36, .int .u8 45, .int .u8 43, .int .u8 51, .int .u8 22, .int .u8 53, .int .u8 39, .int .u8 33, .int .u8 30, .int .u8 24, .int .u8 18, .int .u8 12, .int .u8 5, .int .u8 63, .int .u8 55, .int .u8 48, .int .u8 27, .int .u8 60, .int .u8 41, .int .u8 37, .int .u8 16, .int .u8 46, .int .u8 35, .int .u8 44, .int .u8 21, .int .u8 52, .int .u8 32, .int .u8 23, .int .u8 11, .int .u8 54, .int .u8 26, .int .u8 40, .int .u8 15, .int .u8 34, .int .u8 20, .int .u8 31, .int .u8 10, .int .u8 25, .int .u8 14, .int .u8 19, .int .u8 9, .int .u8 13, .int .u8 8, .int .u8 7, .int .u8 6])).modify 4 (lay31 #[.iface 391 (.pointer (some ⟨11, 0, none⟩))])).modify 3 (lay31 #[.iface 391 (.pointer (some ⟨12, 0, none⟩))])) ++ #[.cells #[.string ⟨#[118, 97, 108, 117, 101, 32, 111, 117, 116, 32, 111, 102, 32, 114, 97, 110, 103, 101]⟩] 393 (0, 0), .cells #[.string ⟨#[105, 110, 118, 97, 108, 105, 100, 32, 115, 121, 110, 116, 97, 120]⟩] 393 (0, 0)] }
end Go.Proofs.YtnbikkcalcpedaaGreatDoor
namespace Go.Proofs.YtnbikkcalcpedaaGreatDoor
open Go.RowKit
section
variable {α : Type} [Inhabited α] {enc : α → Value} {w : World} {g n : Nat} {os : Array Obj} {cur : Array Value}
end
end Go.Proofs.YtnbikkcalcpedaaGreatDoor
namespace Go.Proofs.YtnbikkcalcpedaaGreatDoor
open Go.RowKit Go.Lib
def u32s (l : List Nat) : List Value := l.map fun n => .int .u32 (n : Nat)
theorem u32s_at {l : List Nat} {k n : Nat} (h : l[k]? = some n) : (u32s l)[k]? = some (.int .u32 (n : Nat)) := by simp [u32s, h]
theorem info_u32 : (Tryz.prog.info? 209).map (fun i => (i.zero, i.size, i.bytes)) = some (some (.int .u32 0), 1, 4) := by kernel_rfl
def wordsN (n : Nat) : List Nat := if n = 0 then [] else [n]
theorem wordsN_pos {n : Nat} (h : 0 < n) : wordsN n = [n] := by unfold wordsN; rw [if_neg (by omega)]
theorem parseM_snoc (M : Nat) (c : UInt8) : ∀ (l : List UInt8) (acc v : Nat), parseUintM M acc l = .ok v → 48 ≤ c.toNat ∧ c.toNat ≤ 57 → v < 1844674407370955162 → v * 10 + (c.toNat - 48) ≤ M → parseUintM M acc (l ++ [c]) = .ok (v * 10 + (c.toNat - 48))
 | [], acc, v, h, hc, hv, hM => by
   simp only [parseUintM] at h
   injection h with h
   subst h
   rw [List.nil_append, parseUintM, if_pos hc, if_neg (by omega), if_neg (by omega), parseUintM]
 | d :: r, acc, v, h, hc, hv, hM => by
   rw [parseUintM] at h
   rw [List.cons_append, parseUintM]
   by_cases h1 : 48 ≤ d.toNat ∧ d.toNat ≤ 57
   ·rw [if_pos h1] at h ⊢
    by_cases h2 : 1844674407370955162 ≤ acc
    ·rw [if_pos h2] at h; cases h
    ·rw [if_neg h2] at h ⊢
     by_cases h3 : M < acc * 10 + (d.toNat - 48)
     ·rw [if_pos h3] at h; cases h
     ·rw [if_neg h3] at h ⊢
      exact parseM_snoc M c r _ v h hc hv hM
   ·rw [if_neg h1] at h; cases h
theorem parseM_dec (M n : Nat) (h : n ≤ M) (hM : M < 18446744073709551616) : parseUintM M 0 (decDigits n) = .ok n := by
 induction n using Nat.strongRecOn with
 | _ n ih =>
   by_cases h10 : n < 10
   ·rw [decDigits_one h10, parseUintM, if_pos (by rw [dig_byte h10]; omega), if_neg (by omega), dig_byte h10, if_neg (by omega), parseUintM]
    congr 1
    omega
   ·rw [decDigits_step n h10]
    have h1 := ih (n / 10) (by omega) (by omega)
    have h2 := parseM_snoc M (UInt8.ofNat (48 + n % 10)) _ 0 _ h1 (by rw [dig_byte (by omega)]; omega) (by omega) (by rw [dig_byte (by omega)]; omega)
    rw [h2, dig_byte (by omega)]
    congr 1
    omega
theorem parse32_dec (n : Nat) (h : n < 4294967296) : parseUintB 32 (decDigits n) = .ok n := by
 unfold parseUintB
 rw [if_neg (dec_pos n)]
 exact parseM_dec _ n (by omega) (by omega)
end Go.Proofs.YtnbikkcalcpedaaGreatDoor
namespace Go.Proofs.YtnbikkcalcpedaaGreatDoor
open Go.RowKit
end Go.Proofs.YtnbikkcalcpedaaGreatDoor
namespace Go.Proofs.YtnbikkcalcpedaaGreatDoor
open Go.RowKit Go.Lib
theorem info_number : (Tryz.prog.info? 215).map (·.size) = some 2 := by kernel_rfl
theorem results_n {fn : Func} {p : Tmp} {tmps : Array Value} {w : World} {g : Nat} {cs : Array Value} (h : fn.results = #[.cell p 215]) (hp : tmps.getD p undef = .pointer (some ⟨g, 0, none⟩)) (hg : Blk w g 215 cs) (hs : cs.size = 2) :
  (results fn tmps).run Tryz.prog w = .ok (.agg cs) w :=
 results_cell_row h tmps w g _ cs _ _ hp hg Tryz.underlying215 rfl (by rw [info_number, hs])
theorem signed_any (b : Bool) (A : Option Addr) (k c : Nat) (w : World) :
  Calls Tryz.prog 230 #[.bool b, .slice A k c] w fun e w' => e = .returned (.agg #[.bool (b && decide (0 < k)), .slice A k c]) ∧ Below w.heap.size w w' := by
 have g := Blk.new w 215 #[.bool false, .slice none 0 0]
 have k0 := g.cell 0
 have k1 := g.cell 1
 have f0 := g.frozen 0
 have f1 := g.frozen 1
 have hk : decide ((0 : Int) < (k : Int)) = decide (0 < k) := by simp
 obtain ⟨d, hd⟩ : ∃ d, decide (0 < k) = d := ⟨_, rfl⟩
 rw [hd] at hk ⊢
 cases b
 ·go_enter Tryz.func230, Tryz.ntmps230
  go_wp2
  go_simp
  refine bodyPost_ret (results_n rfl rfl (Blk.new w _ _) rfl) rfl ?_
  exact ⟨rfl, (Below.refl _ _).alloc (Nat.le_refl _) _⟩
 ·go_enter Tryz.func230, Tryz.ntmps230
  go_wp2
  go_simp
  refine bodyPost_ret (results_n rfl rfl (Blk.new w _ _) rfl) rfl ?_
  exact ⟨rfl, (Below.refl _ _).alloc (Nat.le_refl _) _⟩
theorem trimmed_any (A : Option Addr) (c : Nat) (l : List Nat) (hn : l.length ≤ 1000000) (hc : l.length ≤ c) (B : Nat) (w : World) (h : Reads w B 1 A l.length (u32s l)) :
  Calls Tryz.prog 231 #[.slice A l.length c] w fun e w' => ∃ k, e = .returned (.slice A k c) ∧ k ≤ l.length ∧ (∀ j x, k ≤ j → l[j]? = some x → x = 0) ∧ (∀ x, l[k - 1]? = some x → 0 < k → x ≠ 0) ∧ w' = w := by
 obtain ⟨n, hln⟩ : ∃ n, l.length = n := ⟨_, rfl⟩
 have HL := Lib.hid hln
 rw [hln] at hn hc h ⊢
 have HR := Lib.hid h
 clear hln h
 go_enter Tryz.func231, Tryz.ntmps231
 go_wp2
 go_loopw [0] (fun v wr => ∃ k : Nat, v = .slice A k c ∧ k ≤ n ∧ Hid (∀ j x, k ≤ j → l[j]? = some x → x = 0) ∧ wr = w) (fun v _ => (match v with | .slice _ k _ => k | _ => 0))
 case atStart => exact ⟨n, rfl, Nat.le_refl _, fun j x hj hx => by
  have := (List.getElem?_eq_some_iff.1 hx).1
  rw [HL.out] at this; omega, rfl⟩
 case round =>
  obtain ⟨k, rfl, hk, hz, rfl⟩ := hrel
  by_cases h0 : 0 < k
  ·obtain ⟨x, hx⟩ := get_of_lt (xs := l) (k := k - 1) (by rw [HL.out]; omega)
   obtain ⟨b, off, hA, hb, hcell⟩ := HR.out.at_ (u32s_at hx)
   subst hA
   obtain ⟨m, rfl⟩ : ∃ m, k = m + 1 := ⟨k - 1, by omega⟩
   have hi : (0 : Int) < ((m + 1 : Nat) : Int) := by omega
   have hi2 : decide ((0 : Int) < ((m + 1 : Nat) : Int)) = true := decide_eq_true hi
   have hi3 : (((m + 1 : Nat) : Int) - 1) = (m : Int) := by omega
   rw [show m + 1 - 1 = m from rfl] at hx hcell
   by_cases hx0 : x = 0
   ·subst hx0
    go_wp2
    go_roundw
    case rel => exact ⟨m, rfl, by omega, fun j x hj hx' => by
      by_cases hjm : j = m
      ·subst hjm; rw [hx] at hx'; injection hx' with hx'; exact hx'.symm
      ·exact hz.out j x (by omega) hx', trivial⟩
    case measure => simp
   ·have hx1 : ((x : Int) == 0) = false := by simpa using hx0
    go_wp2
    go_ret
    exact ⟨m + 1, rfl, hk, hz.out, fun y hy _ => by rw [show m + 1 - 1 = m from rfl, hx] at hy; injection hy with hy; subst hy; exact hx0, rfl⟩
  ·obtain rfl : k = 0 := by omega
   go_wp2
   go_ret
   exact ⟨0, rfl, by omega, hz.out, fun _ _ h => absurd h (by omega), rfl⟩
end Go.Proofs.YtnbikkcalcpedaaGreatDoor
