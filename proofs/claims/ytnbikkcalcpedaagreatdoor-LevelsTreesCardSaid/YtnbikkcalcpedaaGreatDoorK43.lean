/-
 Texts of this claim, put together: Nat3, Nat2, Nat4, Nat5, Div1, Nat6.
-/
import Derived.Test.YtnbikkcalcpedaaGreatDoorK40
import Derived.Test.YtnbikkcalcpedaaGreatDoorK39
import Derived.Test.YtnbikkcalcpedaaGreatDoorK08
import Derived.Test.YtnbikkcalcpedaaGreatDoorK14
import Derived.Deep.RegionHeld3
set_option maxRecDepth 100000
set_option maxHeartbeats 8000000
namespace Go.Proofs.YtnbikkcalcpedaaGreatDoor
open Go.RowKit Go.Lib
def Tab10 (w : World) : Prop := Lib.TabIs Tryz.prog w "internal/strconv.uint64pow10" .u64 Lib.pow10Tab
theorem Tab10.below {w w' : World} (h : Tab10 w) (hb : Below w.heap.size w w') : Tab10 w' := by
 unfold Tab10 TabIs World.var? at *
 cases hg : Tryz.prog.globalNamed "internal/strconv.uint64pow10" with
 | none => simp [hg] at h
 | some g =>
   simp only [hg, Option.bind_some] at h ⊢
   have hlt : g < w.heap.size := by
    rcases Nat.lt_or_ge g w.heap.size with h' | h'
    ·exact h'
    ·rw [Array.getElem?_eq_none h'] at h; simp at h
   rw [hb.block g hlt]
   exact h
theorem below_grow (w : World) (k : Nat) (os : Array Obj) : Below w.heap.size w (Go.Sort.grow (w.drewN k) os) := ⟨rfl, rfl, rfl, by simp, fun i hi => Go.Sort.heap_grow_old (w.drewN k) os hi⟩
theorem ownsRow_below {w w' : World} {base : Nat} {e : TypeId} {size n : Nat} {v : Value} {xs : List Value} (h : w.ownsRow base e size v n xs) (hb : Below w.heap.size w w') : w'.ownsRow base e size v n xs := by
 have hlt := World.ownsRow.lt h
 obtain ⟨h1, h2⟩ := h
 refine ⟨h1, ?_⟩
 rcases h2 with h2 | ⟨g, cap, cur, hv, hg, hh, r⟩
 ·exact .inl h2
 ·exact .inr ⟨g, cap, cur, hv, hg, (hb.block g (hlt g (by rw [hv]; rfl)).2).trans hh, r⟩
theorem builderAt_below {w w' : World} {T e : TypeId} {B b : Nat} {p : Value} {bs : List Value} (h : BuilderAt T e B b p bs w) (hb : Below w.heap.size w w') : BuilderAt T e B b p bs w' := by
 have hlt := h.lt
 obtain ⟨h1, v, h2, h3, h4⟩ := h
 exact ⟨h1, v, (hb.block b hlt).trans h2, ownsRow_below h3 hb, h4⟩
theorem isBuilder_below {w w' : World} {T e : TypeId} {B b : Nat} {bs : List Value} (h : IsBuilder T e B b bs w) (hb : Below w.heap.size w w') : IsBuilder T e B b bs w' := h.imp (fun h => builderAt_below h hb) (fun h => builderAt_below h hb)
theorem itoaN_any (n : Nat) (h : n < 1000000000) (w : World) (ht : Tab10 w) :
  Calls Tryz.prog 67 #[.int .i64 n] w fun e w' => e = .returned (.string (intS n)) ∧ Below w.heap.size w w' :=
 (lay_strconv_Itoa (n : Int) (by omega) (by omega) w ht).mono fun e w' ⟨h1, k, os, h2⟩ => ⟨h1, by rw [h2]; exact below_grow w k os⟩
theorem intOfN_any (n : Nat) (h : n < 1000000000) (w : World) (ht : Tab10 w) :
  Calls Tryz.prog 19 #[.int .i64 n] w fun e w' => e = .returned (.string (intS n)) ∧ Below w.heap.size w w' := by
 have SC := Lib.hid (itoaN_any n h w ht)
 go_enter Tryz.func19, Tryz.ntmps19
 go_wp2_with fail
 refine (SC.out).mono ?_
 rintro e w' ⟨rfl, hb⟩
 go_wp2
 go_ret
 exact ⟨rfl, hb⟩
theorem intS_len (n : Nat) (h : n < 1000000000) : (intS n).size ≤ 100 ∧ 1 ≤ (intS n).size := by
 rw [← numS_int]
 have h1 := nDig_le 9 n (by omega)
 rw [← decDigits_length] at h1
 have h2 : 0 < (decDigits n).length := List.length_pos_iff.2 (dec_pos n)
 rw [Lib.size_eq]
 show (decDigits n).length ≤ 100 ∧ 1 ≤ (decDigits n).length
 omega
theorem length_any (n : Nat) (w : World) :
  Calls Tryz.prog 234 #[.string (intS n)] w fun e w' => e = .returned (.int .i64 (intS n).size) ∧ w' = w := by
 have hp : Lib.trimPrefix (intS n).data.toList [45] = (intS n).data.toList := by
  rw [← numS_int]
  show Lib.trimPrefix (decDigits n) [45] = decDigits n
  obtain ⟨a, l, hal⟩ := List.exists_cons_of_ne_nil (dec_pos n)
  have ha := dec_dig2 n a (by rw [hal]; simp)
  have hne : ((45 : UInt8) == a) = false := by
   rw [beq_eq_false_iff_ne]
   rintro rfl
   have h45 : (45 : UInt8).toNat = 45 := rfl
   omega
  rw [hal]
  unfold Lib.trimPrefix Lib.hasPrefix
  rw [List.isPrefixOf, hne]
  rfl
 have SC := Lib.hid (lay_strings_TrimPrefix (intS n) ⟨#[45]⟩ w)
 rw [hp] at SC
 obtain ⟨s, hs⟩ : ∃ s, intS n = s := ⟨_, rfl⟩
 rw [hs] at SC ⊢
 have hss : (⟨s.data.toList.toArray⟩ : ByteArray) = s := by cases s; rfl
 rw [hss] at SC
 clear hp hs hss
 go_enter Tryz.func234, Tryz.ntmps234
 go_wp2_with fail
 refine (SC.out).mono ?_
 rintro e w' ⟨rfl, rfl⟩
 go_wp2
 go_ret
 exact ⟨rfl, rfl⟩
theorem textN_any (n : Nat) (h0 : 0 < n) (h : n < 1000000000) (A : Option Addr) (c : Nat) (w : World) (hr : Reads w w.heap.size 1 A 1 (u32s [n])) (ht : Tab10 w) :
  Calls Tryz.prog 290 #[.slice A 1 c] w fun e w' => e = .returned (.string (intS n)) ∧ Below w.heap.size w w' := by
 have hst := intS_len n h
 obtain ⟨b1, o1, rfl, hb1, q1⟩ := hr.at_ (u32s_at (k := 0) (n := n) rfl)
 have hbt : (intS n) = ⟨(decDigits n).toArray⟩ := (numS_int n).symm
 obtain ⟨w0, hw0⟩ : ∃ w0, w.alloc (.cells #[.pointer none, .slice none 0 0] 349) = w0 := ⟨_, rfl⟩
 have hI0 := Lib.hid (fresh_isBuilder 349 5 w)
 rw [hw0] at hI0
 have HB0 : Hid (Below w.heap.size w w0) := by rw [Hid, ← hw0]; exact (Below.refl _ _).alloc (Nat.le_refl _) _
 have HW := Lib.hid hw0
 have IC := Lib.hid (fun (W : World) (hB : Below w.heap.size w W) => itoaN_any n h W (ht.below hB))
 have WC := Lib.hid (fun (W : World) (hB : Below w.heap.size w W) (hI : IsBuilder 349 5 w.heap.size w.heap.size [] W) => lay_Builder_WriteString w.heap.size w.heap.size [] (intS n) W hI (by simp; omega) hB.size)
 have RC := Lib.hid (fun (W : World) (hI : IsBuilder 349 5 w.heap.size w.heap.size (byteCells (decDigits n)) W) => lay_Builder_String w.heap.size w.heap.size (decDigits n) W hI (dec_pos n))
 have hcells : Hid ([] ++ strCells (intS n) = byteCells (decDigits n)) := by rw [Hid, List.nil_append, hbt]; rfl
 rw [← hbt] at RC
 have Q1 := Lib.hid q1
 have u1 : IntKind.i64.wrap (n : Int) = (n : Int) := IntWalk.i64_in _ (by omega)
 obtain ⟨s, hs⟩ : ∃ s, intS n = s := ⟨_, rfl⟩
 rw [hs] at IC WC RC hcells ⊢
 clear hst hbt hs hw0 hr ht q1 h0 h
 go_enter Tryz.func290, Tryz.ntmps290
 go_wp2
 rw [HW.out]
 go_loopw [4] (fun v wr => ∃ z : Int, v = .int .i64 z ∧ Hid (Below w.heap.size w wr) ∧ ((z = 0 ∧ Hid (IsBuilder 349 5 w.heap.size w.heap.size [] wr)) ∨ (z = -1 ∧ Hid (IsBuilder 349 5 w.heap.size w.heap.size (byteCells (decDigits n)) wr)))) (fun v _ => (RowKit.intOf v + 1).toNat)
 case atStart => exact ⟨0, rfl, HB0.out, .inl ⟨rfl, hI0.out⟩⟩
 case round =>
  obtain ⟨z, rfl, hB, ⟨rfl, hI⟩ | ⟨rfl, hI⟩⟩ := hrel
  ·have q1 := (hB.out.cell (p := ⟨b1, o1, none⟩) hb1).trans Q1.out
   go_wp2_with fail
   refine (IC.out _ hB.out).mono ?_
   rintro e w' ⟨rfl, hb⟩
   have hI2 : IsBuilder 349 5 w.heap.size w.heap.size [] w' := isBuilder_below hI.out hb
   have hB2 := hB.out.trans (hb.mono hB.out.size)
   go_wp2_with fail
   refine (WC.out _ hB2 hI2).mono ?_
   rintro e w2 ⟨rfl, hI3, hb2⟩
   rw [hcells.out] at hI3
   go_wp2
   go_roundw
   case rel => exact ⟨-1, by go_num, hB2.trans hb2, .inr ⟨rfl, .inr hI3⟩⟩
   case measure => simp [RowKit.intOf]
  ·go_wp2_with fail
   refine (RC.out _ hI.out).mono ?_
   rintro e w' ⟨rfl, hb⟩
   have hB2 := hB.out.trans hb
   go_wp2
   go_ret
   exact ⟨rfl, hB2⟩
theorem textNum_any (n : Nat) (h0 : 0 < n) (h : n < 1000000000) (A : Option Addr) (c : Nat) (w : World) (hr : Reads w w.heap.size 1 A 1 (u32s [n])) (ht : Tab10 w) :
  Calls Tryz.prog 233 #[.agg #[.bool false, .slice A 1 c]] w fun e w' => e = .returned (.string (intS n)) ∧ Below w.heap.size w w' := by
 have g := Blk.new w 215 #[.bool false, .slice A 1 c]
 have hB : Below w.heap.size w (w.alloc (.cells #[.bool false, .slice A 1 c] 215)) := (Below.refl _ _).alloc (Nat.le_refl _) _
 have k0 := g.cell 0
 have k1 := g.cell 1
 have TC := Lib.hid (fun (W : World) (hB : Below w.heap.size w W) => textN_any n h0 h A c W ((hr.below hB).more hB.size) (ht.below hB))
 clear hr ht h0 h
 go_enter Tryz.func233, Tryz.ntmps233
 go_wp2_with fail
 refine (TC.out _ hB).mono ?_
 rintro e w' ⟨rfl, hb⟩
 have hB := hB.trans (hb.mono hB.size)
 go_wp2
 go_ret
 exact ⟨rfl, hB⟩
theorem resultNum_any (n : Nat) (h0 : 0 < n) (h : n < 1000000000) (A : Option Addr) (c : Nat) (w : World) (hr : Reads w w.heap.size 1 A 1 (u32s [n])) (ht : Tab10 w) :
  Calls Tryz.prog 181 #[.agg #[.bool false, .slice A 1 c]] w fun e w' => e = .returned (.tuple #[.string (intS n), .int .i64 0]) ∧ Below w.heap.size w w' := by
 have g := Blk.new w 215 #[.bool false, .slice A 1 c]
 have hB : Below w.heap.size w (w.alloc (.cells #[.bool false, .slice A 1 c] 215)) := (Below.refl _ _).alloc (Nat.le_refl _) _
 have k0 := g.cell 0
 have k1 := g.cell 1
 have TC := Lib.hid (fun (W : World) (hB : Below w.heap.size w W) => textNum_any n h0 h A c W ((hr.below hB).more hB.size) (ht.below hB))
 have LC := Lib.hid (fun (W : World) => length_any n W)
 have hl := (intS_len n h).1
 have hi : ¬ (1024 : Int) < ((intS n).size : Int) := by omega
 have hi2 : decide ((1024 : Int) < ((intS n).size : Int)) = false := decide_eq_false hi
 obtain ⟨s, hs⟩ : ∃ s, intS n = s := ⟨_, rfl⟩
 rw [hs] at TC LC hi hi2 ⊢
 obtain ⟨z, hz⟩ : ∃ z, s.size = z := ⟨_, rfl⟩
 rw [hz] at LC hi hi2
 clear hr ht h0 h hs hz hl
 go_enter Tryz.func181, Tryz.ntmps181
 go_wp2_with fail
 refine (TC.out _ hB).mono ?_
 rintro e w' ⟨rfl, hb⟩
 have hB := hB.trans (hb.mono hB.size)
 go_wp2_with fail
 refine (LC.out _).mono ?_
 rintro e w' ⟨rfl, rfl⟩
 go_wp2
 go_ret2
 exact ⟨rfl, hB⟩
end Go.Proofs.YtnbikkcalcpedaaGreatDoor
namespace Go.Proofs.YtnbikkcalcpedaaGreatDoor
open Go.RowKit Go.Lib
def OwnU (w : World) (base : Nat) (A : Option Addr) (c : Nat) (l : List Nat) : Prop := w.ownsRow base 209 1 (.slice A l.length c) l.length (u32s l)
section
variable {w w' : World} {base : Nat} {A : Option Addr} {c : Nat} {l : List Nat}
theorem OwnU.nil_ (w : World) (base : Nat) : OwnU w base none 0 [] := World.ownsRow_nil _ _ _ _
theorem OwnU.reads (h : OwnU w base A c l) : Reads w w.heap.size 1 A l.length (u32s l) := Reads.of_own h
theorem OwnU.cap_ (h : OwnU w base A c l) : l.length ≤ c := by
 rcases h.2 with ⟨hv, h0⟩ | ⟨g, cap, cur, hv, _, _, h1, _⟩
 ·omega
 ·injection hv with _ _ e; omega
theorem OwnU.lt (h : OwnU w base A c l) : ∀ k, blockOf A k → base ≤ k ∧ k < w.heap.size := fun k hk => World.ownsRow.lt h k (blockOf_own.2 hk)
end
theorem u32s_snoc (l : List Nat) (n : Nat) : u32s (l ++ [n]) = u32s l ++ [.int .u32 (n : Nat)] := by simp [u32s]
theorem make_u32 (n c : Nat) (hn : n ≤ c) (hc : c ≤ 2) (W : World) : (Instr.makeSlice 213 (.int .i64 (n : Int)) (.int .i64 (c : Int))).run Tryz.prog W =
  .ok (.slice (some ⟨W.heap.size, 0, none⟩) n c) (W.alloc (.cells (madeCells #[.int .u32 0] c) 209)) := by
 obtain ⟨i0, hi, hz0, hz1, hz2⟩ := info_parts info_u32
 have hr := run_make (P := Tryz.prog) W 213 209 i0 (.int .u32 0) Tryz.underlying213 hi hz0 .i64 .i64 n c (by omega) (by omega) (by rw [hz2]; omega) (by omega)
 simp only [Int.toNat_natCast, hz1, Nat.mul_one] at hr
 rw [hr, show (Value.int .u32 0).cells = #[.int .u32 0] from rfl]
theorem Reads.blk {w : World} {g : Nat} {cs : Array Value} {e : TypeId} (h : Blk w g e cs) : Reads w w.heap.size 1 (some ⟨g, 0, none⟩) cs.size cs.toList :=
 ⟨by simp, fun _ => ⟨g, 0, rfl, h.lt, fun j v hv => by
  rw [Nat.zero_add, h.cell j]
  simpa using hv⟩⟩
end Go.Proofs.YtnbikkcalcpedaaGreatDoor
namespace Go.Proofs.YtnbikkcalcpedaaGreatDoor
open Go.RowKit Go.Lib Go.Shelf
theorem checked_two (a b : Nat) (ha : a < 10 ^ 100) (hb : b < 10 ^ 100) (g c : Nat) (w : World) (h : Blk w g 40 #[.string (intS a), .string (intS b)]) :
  Calls Tryz.prog 235 #[.slice (some ⟨g, 0, none⟩) 2 c] w fun e w' => e = .returned (.int .i64 0) ∧ Below w.heap.size w w' := by
 have CA := Lib.hid (fun (W : World) => check_int a ha W)
 have CB := Lib.hid (fun (W : World) => check_int b hb W)
 obtain ⟨s, hs⟩ : ∃ s, intS a = s := ⟨_, rfl⟩
 obtain ⟨t, ht⟩ : ∃ t, intS b = t := ⟨_, rfl⟩
 rw [hs] at CA h
 rw [ht] at CB h
 have HG := Lib.hid h
 have hB0 := Lib.hid (Below.refl w.heap.size w)
 clear hs ht ha hb h
 go_enter Tryz.func235, Tryz.ntmps235
 go_wp2
 go_loopw [8] (fun i wr => ∃ k : Nat, i = .int .i64 k ∧ k ≤ 2 ∧ Hid (Below w.heap.size w wr)) (fun i _ => 2 - (RowKit.intOf i).toNat)
 case atStart => exact ⟨0, rfl, by omega, hB0.out⟩
 case round =>
  obtain ⟨k, rfl, hk, hB⟩ := hrel
  have g := HG.out.next hB.out
  have k0 := g.cell 0
  have k1 := g.cell 1
  have hzz := hB.out.size
  rcases (show k = 0 ∨ k = 1 ∨ k = 2 by omega) with rfl | rfl | rfl
  ·go_wp2_with fail
   refine (CA.out _).mono ?_
   rintro e w' ⟨rfl, hb⟩
   have hB2 := hB.out.trans (hb.mono hzz)
   go_wp2
   go_roundw
   case rel => exact ⟨1, by go_num, by omega, hB2⟩
   case measure => simp [RowKit.intOf]
  ·go_wp2_with fail
   refine (CB.out _).mono ?_
   rintro e w' ⟨rfl, hb⟩
   have hB2 := hB.out.trans (hb.mono hzz)
   go_wp2
   go_roundw
   case rel => exact ⟨2, by go_num, by omega, hB2⟩
   case measure => simp [RowKit.intOf]
  ·go_wp2
   go_ret
   exact ⟨rfl, hB.out⟩
theorem groups_any (s : ByteArray) (w : World) :
  Calls Tryz.prog 229 #[.string s] w fun e w' => e = .returned (.func (.func 288) #[] #[.pointer (some ⟨w.heap.size, 0, none⟩)]) ∧ w.alloc (.cells #[.string s] 9) = w' := by
 have hmf : ∀ (fn : Fn) (first cap : Array Value) (w : World), (Instr.makeFunc fn first cap).run Tryz.prog w = .ok (.func fn first cap) w := fun _ _ _ _ => rfl
 go_enter Tryz.func229, Tryz.ntmps229
 go_wp2
 go_ret
 exact ⟨rfl, rfl⟩
def ArgW (x : Nat) (args : Array Value) (_ : Nat → Prop) (_ : World) : Prop := args = #[.int .u32 (x : Int)]
theorem groups_iter (n : Nat) (hn : n < 1000000000) (bs : Nat) (W0 : World) (h1 : Blk W0 bs 9 #[.string (intS n)]) :
  Iter Tryz.prog 288 #[.pointer (some ⟨bs, 0, none⟩)] ArgW (fun k => k = bs) (fun _ => False) [n] W0 := by
 intro l J Jx C W hL hC hJ hJx hY h0
 have k1 : Blk W bs 9 #[.string (intS n)] := (hL.block bs h1.lt rfl).trans h1
 have hsz := intS_len n hn
 have hnd : (intS n).size ≤ 9 := by
  rw [← numS_int, Lib.size_eq]
  show (decDigits n).length ≤ 9
  rw [decDigits_length]
  exact nDig_le 8 n (by omega)
 have PC := Lib.hid (fun (W : World) => lay_strconv_ParseUint_10_at32_ok (intS n) (by omega) n (by rw [← numS_int]; exact parse32_dec n (by omega)) W)
 have HC := Lib.hid hC
 have HY := Lib.hid hY
 have HJ := Lib.hid hJ
 have H0 := Lib.hid h0
 obtain ⟨s, hs⟩ : ∃ s, intS n = s := ⟨_, rfl⟩
 rw [hs] at k1 hsz hnd PC
 obtain ⟨z, hz⟩ : ∃ z, s.size = z := ⟨_, rfl⟩
 have hsl : ∀ W, (Instr.slice 9 (.string s) (some (.int .i64 0)) (some (.int .i64 (z : Int))) none).run Tryz.prog W = .ok (.string s) W := fun W => by
  rw [run_slice_string W 9 s .i64 .i64 _ _ Tryz.underlying9 (by omega) (by omega) (by omega), show ((z : Int)).toNat = z by omega, show ((0 : Int)).toNat = 0 by omega, ← hz]
  rw [ByteArray.extract_zero_size]
 have c0 := k1.cell 0
 have hbs := k1.lt
 rw [hz] at hsz hnd
 have hp : (0 : Int) < (z : Int) := by omega
 have hm1 : ((z : Int) - 9) ≤ 0 := by omega
 have hmx : max (0 : Int) ((z : Int) - 9) = 0 := by omega
 have u1 : IntKind.u32.wrap (n : Int) = (n : Int) := by rw [IntKind.wrap_u32]; omega
 clear h1 hL hC hY hJ hJx h0 hs
 refine (callsIn_wide (n := 3)).1 ?_
 refine callsIn_of_wp_marks Tryz.func288 rfl trivial ?_
 simp only [Tryz.ntmps288, List.size_toArray, List.length_cons, List.length_nil, Nat.reduceAdd, Nat.reduceSub, Array.replicate_succ, Array.replicate_zero, List.push_toArray, List.append_toArray, List.nil_append, List.cons_append]
 gi_wp2_with fail
 gi_loopw [3] (fun v wl => ∃ zz : Int, v = .int .i64 zz ∧ ((zz = (z : Int) ∧ wl = W) ∨ (zz = (z : Int) - 9 ∧ ∃ C', Hid (J [n] C' wl)))) (fun v _ => (RowKit.intOf v).toNat)
 case atStart => exact ⟨_, rfl, .inl ⟨rfl, rfl⟩⟩
 case round =>
  obtain ⟨zz, rfl, ⟨rfl, rfl⟩ | ⟨rfl, C', IJ⟩⟩ := hrel
  ·gi_wp2_with fail
   refine ⟨trivial, ?_⟩
   refine (inW (PC.out _)).mono ?_
   rintro e w5 ⟨rfl, hW⟩
   have hb5 : Below wr.heap.size wr w5 := by
    rcases hW with rfl | rfl
    ·exact Below.refl _ _
    ·exact bytes_below _ _ _
   obtain ⟨fn, tmps, assign, body, hy, hR⟩ := HY.out [] n C w5 #[.int .u32 (n : Int)] (fun _ => False) (List.prefix_refl _) (HJ.out _ _ _ _ H0.out (Stays.of_new hb5)) hb5.size (fun k hk => Nat.lt_of_lt_of_le (HC.out k hk).1 hb5.size) (fun k hk => hk.elim) rfl
   clear hW hb5
   gi_wp2_with fail
   refine (roundIn_wide hR).mono ?_
   rintro e w6 ⟨C2, b2, ho2, hg2, rfl, hj2, hx2⟩
   cases b2
   ·have HX2 := Lib.hid (hx2 rfl)
    clear hj2 hx2 hR hy
    gi_wp2
    exact ⟨_, results_none rfl _ _ _, ⟨⟨_, rfl⟩, C2, .inr ⟨[n], List.prefix_refl _, HX2.out⟩⟩⟩
   ·have HJ2 := Lib.hid (hj2 rfl)
    clear hj2 hx2 hR hy
    gi_wp2
    go_roundw
    case rel => exact ⟨_, rfl, .inr ⟨by go_num, C2, HJ2.out⟩⟩
    case measure => simp [RowKit.intOf]; omega
  ·gi_wp2
   exact ⟨_, results_none rfl _ _ _, ⟨⟨_, rfl⟩, C', .inl IJ.out⟩⟩
end Go.Proofs.YtnbikkcalcpedaaGreatDoor
namespace Go.Proofs.YtnbikkcalcpedaaGreatDoor
open Go.RowKit Go.Lib Go.Shelf
attribute [local go_sem] Oper.semAt_some
theorem blk_at5 {w : World} {g : Nat} {t : TypeId} {cs : Array Value} (h : w.heap.size = g) : Blk (w.alloc (.cells cs t)) g t cs := by subst h; exact Blk.new w t cs
theorem cut_num (n : Nat) (w : World) : Calls Tryz.prog 123 #[.string (intS n), .string ⟨#[45]⟩] w fun e w' => e = .returned (.tuple #[.string (intS n), .bool false]) ∧ w' = w := by
 refine cutpre_no (intS n) ?_ ?_ w
 ·rw [← numS_int, Lib.size_eq]
  exact List.length_pos_iff.2 (dec_pos n)
 ·rw [← numS_int, extract_toList]
  show ((decDigits n).take 1 == [45]) = false
  obtain ⟨a, l, hal⟩ := List.exists_cons_of_ne_nil (dec_pos n)
  have ha := dec_dig2 n a (by rw [hal]; simp)
  rw [hal]
  simp
  intro hc
  rw [hc] at ha
  have h45 : (45 : UInt8).toNat = 45 := rfl
  omega
theorem trim_words {n k : Nat} (hk : k ≤ [n].length) (hz : ∀ j x, k ≤ j → [n][j]? = some x → x = 0) (hl : ∀ x, [n][k - 1]? = some x → 0 < k → x ≠ 0) : k = (wordsN n).length := by
 have h2 : k ≤ 1 := hk
 unfold wordsN
 rcases (show k = 0 ∨ k = 1 by omega) with rfl | rfl
 ·rw [if_pos (hz 0 n (by omega) rfl)]; rfl
 ·rw [if_neg (hl n rfl (by omega))]; rfl
theorem words_reads {w : World} {B n : Nat} {A : Option Addr} (h : Reads w B 1 A 1 (u32s [n])) : Reads w B 1 A (wordsN n).length (u32s (wordsN n)) := by
 unfold wordsN
 split
 ·exact ⟨by simp [u32s], fun h0 => absurd h0 (by simp)⟩
 ·exact h
theorem read_any (n : Nat) (hn : n < 1000000000) (w : World) :
  Calls Tryz.prog 179 #[.string (intS n)] w fun e w' => ∃ A c, e = .returned (.agg #[.bool false, .slice A (wordsN n).length c]) ∧ Reads w' w'.heap.size 1 A (wordsN n).length (u32s (wordsN n)) ∧ (∀ k, blockOf A k → w.heap.size < k) ∧ Below w.heap.size w w' := by
 have CC := Lib.hid (fun (W : World) => cut_num n W)
 have GC := Lib.hid (fun (W : World) => groups_any (intS n) W)
 have HG := Lib.hid (fun (bs : Nat) (W0 : World) (h1 : Blk W0 bs 9 #[.string (intS n)]) => groups_iter n hn bs W0 h1)
 obtain ⟨s, hs⟩ : ∃ s, intS n = s := ⟨_, rfl⟩
 rw [hs] at CC GC HG ⊢
 obtain ⟨w2, hw2⟩ : ∃ w2, (w.alloc (.cells #[.bool false, .slice none 0 0] 215)).alloc (.cells #[.slice none 0 0] 213) = w2 := ⟨_, rfl⟩
 have hs2 : w2.heap.size = w.heap.size + 2 := by rw [← hw2]; simp
 have r1 : Blk w2 w.heap.size 215 #[.bool false, .slice none 0 0] := by rw [← hw2]; exact (blk_at5 rfl).alloc _
 have r2 : Blk w2 (w.heap.size + 1) 213 #[.slice none 0 0] := by rw [← hw2]; exact blk_at5 (by simp)
 have B2 : Below w.heap.size w w2 := by rw [← hw2]; exact ((Below.refl _ _).alloc (Nat.le_refl _) _).alloc (by simp) _
 have HW2 := Lib.hid hw2
 clear hw2 hs
 refine (callsIn_wide (n := 3)).1 ?_
 refine callsIn_of_wp_marks Tryz.func179 rfl trivial ?_
 simp only [Tryz.ntmps179, List.size_toArray, List.length_cons, List.length_nil, Nat.reduceAdd, Nat.reduceSub, Array.replicate_succ, Array.replicate_zero, List.push_toArray, List.append_toArray, List.nil_append, List.cons_append]
 gi_wp2_with fail
 refine ⟨trivial, ?_⟩
 refine (inW (CC.out _)).mono ?_
 rintro e w1 ⟨rfl, rfl⟩
 gi_wp2_with fail
 rw [HW2.out]
 refine ⟨trivial, ?_⟩
 refine (inW (GC.out _)).mono ?_
 rintro e w4 ⟨rfl, hw4⟩
 have hs4 : w4.heap.size = w2.heap.size + 1 := by rw [← hw4]; simp
 have q1 : Blk w4 w2.heap.size 9 #[.string s] := by rw [← hw4]; exact Blk.new w2 _ _
 have b34 : Below w2.heap.size w2 w4 := by rw [← hw4]; exact (Below.refl _ _).alloc (Nat.le_refl _) _
 have B4 := B2.trans (b34.mono B2.size)
 have r1 := r1.next b34
 have r2 := r2.next b34
 rw [hs2] at q1 hs4
 clear hw4 b34
 gi_wp2_with fail
 refine range_outer (n := 3) (gf := 288) (lb := #[.pointer (some ⟨w.heap.size + 2, 0, none⟩)]) (by first | rfl | rw [hs2]) (enters_of Tryz.func288 (by kernel_rfl) rfl)
  (HG.out (w.heap.size + 2) w4 q1) ?hK (fun k => k = w.heap.size + 1) ?hC
  (fun pre C W => ∃ A c, Blk W (w.heap.size + 1) 213 #[.slice A pre.length c] ∧ OwnU W w.heap.size A c pre ∧ C (w.heap.size + 1) ∧ (∀ k, blockOf A k → C k) ∧ Below w.heap.size w W ∧ Blk W w.heap.size 215 #[.bool false, .slice none 0 0] ∧ (∀ k, C k → k = w.heap.size + 1 ∨ w.heap.size + 3 ≤ k) ∧ w4.heap.size ≤ W.heap.size)
  (fun _ _ _ _ => False) ?hI (fun _ _ _ _ _ h _ => h) ?h0 ?hps ?round ?done (fun _ _ _ _ _ h => h.elim)
 case hK =>
  rintro k rfl
  omega
 case hC =>
  rintro k rfl
  exact ⟨by omega, by omega⟩
 case hI =>
  rintro pre C a b ⟨A, c, i1, i2, i3, i4, i5, i6, i7, i8⟩ hst
  exact ⟨A, c, i1.stays hst (.inl i3), own_kept2 i2 (fun k hk => hst.block k (i2.lt k hk).2 (.inl (i4 k hk))), i3, i4, i5.trans (hst.below (fun k hk => .inr ⟨by omega, id⟩) i5.size), i6.stays hst (.inr ⟨by omega, id⟩), i7, Nat.le_trans i8 hst.size⟩
 case h0 => exact ⟨none, 0, r2, OwnU.nil_ _ _, rfl, (by rintro k ⟨a, h, _⟩; cases h), B4, r1, fun k hk => .inl hk, Nat.le_refl _⟩
 case hps => intro x' args O W' (ha : args = _); subst ha; rfl
 case round =>
  rintro l pre x args C Ob W hpre hI hl hC hOb harg hlW hnC hnO T hT
  obtain ⟨A, c, i1, i2, i3, i4, i5, i6, i7, i8⟩ := hI
  obtain rfl : args = #[.int .u32 (x : Int)] := harg
  have hpl : pre.length < 16384 := by
   obtain ⟨z, hz⟩ := hpre
   have := congrArg List.length hz
   simp at this
   omega
  have hpn := Lib.hid (List.IsPrefix.length_le hpre)
  gi_wp2
  refine hT _ _ (Only.refl _ _) ?_
  intro w5 h5 _
  have hl5 : ∀ k, C k → k ≠ l := fun k hk e => hnC (e ▸ hk)
  have j1 : Blk w5 (w.heap.size + 1) 213 #[.slice A pre.length c] := i1.only h5 (by omega)
  have j2 : OwnU w5 w.heap.size A c pre := own_kept2 i2 fun k hk => h5.block k (i2.lt k hk).2 (hl5 k (i4 k hk))
  have j5 : Below w.heap.size w w5 := i5.trans (h5.below (fun k hk e => by omega) i5.size)
  have j6 := i6.only h5 (by omega)
  have e1 := j1.cell 0
  have hC5 : ∀ k, C k → k < w5.heap.size := fun k hk => Nat.lt_of_lt_of_le (hC k hk) h5.size
  have hs5 := h5.size
  clear i1 i2 i5 i6 hC hpre
  gi_wp2_with (gi_at_builtin; refine append_gi rfl (.tmp 15) (.tmp 17) _ rfl w.heap.size 209 Tryz.underlying213 info_u32 rfl (by omega) A c pre.length (u32s pre) rfl (World.ownsRow.alloc j2 _) _ [.int .u32 (x : Nat)] rfl (Reads.box _ _ _) (by simp [Value.oneCell']) (by omega) (by have := j5.size; simp; omega) ?_; intro A6 c6 w6 hown6 hg6 hb6 hw6; have k1 := (j1.alloc (.cells #[.int .u32 x] 209)).grown hg6 (own_blk_ne j2 j1 (by decide)); have e2 := k1.cell 0; have f2 := k1.frozen 0)
  have hO6 : OwnU w6 w.heap.size A6 c6 (pre ++ [x]) := by
   unfold OwnU
   rw [u32s_snoc, List.length_append]
   exact hown6
  have k3 : Only (fun k => C k ∨ Ob k) w5 w6 := ((Only.refl _ w5).alloc _).grown hg6 fun k hk => .inl (.inl (i4 k (blockOf_own.1 hk)))
  refine ⟨fun k => C k ∨ Ob k ∨ (w5.heap.size ≤ k ∧ k < w6.heap.size), k3.setCell (.inl (.inl i3)) _, fun k hk => ?_, A6, c6, ?_, ?_, .inl i3, ?_, ?_, ?_, ?_, ?_⟩
  ·simpa [World.setCell] using hk
  ·have := k1.set_ 0 (.slice A6 (pre.length + 1) c6)
   simpa using this
  ·exact own_kept2 hO6 (fun k hk => Below.heap_setCell w6 _ _ k (by rintro rfl; exact own_blk_ne hO6 k1 (by decide) (blockOf_own.2 hk).symm))
  ·rintro k hk
   rcases hw6 with e | e
   ·rw [blockOf_own.2 hk] at e
    exact .inl (i4 k (blockOf_own.1 e.symm))
   ·rw [blockOf_own.2 hk] at e
    injection e with e
    have hlt := (hO6.lt k hk).2
    exact .inr (.inr ⟨by rw [e]; simp, hlt⟩)
  ·exact (j5.trans (k3.below (fun k hk e => by
    rcases e with e | e
    ·have := i7 k e; omega
    ·have := (hOb k e).2.2; omega) j5.size)).setCell (by show w.heap.size ≤ w.heap.size + 1; omega) _
  ·exact (j6.only k3 (fun e => by
    rcases e with e | e
    ·have := i7 _ e; omega
    ·have := (hOb _ e).2.2; omega)).far (by show w.heap.size ≠ w.heap.size + 1; omega) _
  ·rintro k (hk | hk | hk)
   ·exact i7 k hk
   ·exact .inr (by have := (hOb k hk).2.2; omega)
   ·exact .inr (by omega)
  ·have := k3.size; simp [World.setCell]; omega
 case done =>
  rintro C W ⟨A, c, i1, i2, i3, i4, i5, i6, i7, i8⟩ hnD hD
  have e1 := i1.cell 0
  have TC := Lib.hid (trimmed_any A c [n] (by simp) i2.cap_ _ W i2.reads)
  have hR := i2.reads
  clear i1 i2 q1
  gi_wp2_with fail
  refine ⟨trivial, ?_⟩
  refine (inW (TC.out)).mono ?_
  rintro e w6 ⟨k, rfl, hk, hz, hl, rfl⟩
  obtain rfl := trim_words hk hz hl
  clear hk hz hl TC
  gi_wp2_with fail
  refine ⟨trivial, ?_⟩
  refine (inW (signed_any false A (wordsN n).length c _)).mono ?_
  rintro e w7 ⟨rfl, hb7⟩
  have i6 := i6.next hb7
  have c0 := i6.cell 0
  have c1 := i6.cell 1
  have f0 := i6.frozen 0
  have f1 := i6.frozen 1
  gi_wp2
  have G := (i6.set_ 0 (.bool false)).set_ 1 (.slice A (wordsN n).length c)
  have O1 : Only (fun k => k = w.heap.size ∨ k = w.heap.size + 2 + 1) w6 w7 := Only.of_new hb7
  have O2 := (O1.setCell (p := ⟨w.heap.size, 0, none⟩) (.inl (.inl rfl)) (.bool false)).setCell (p := ⟨w.heap.size, 1, none⟩) (.inl (.inl rfl)) (.slice A (wordsN n).length c)
  have O3 := O2.putObj (r := w.heap.size + 2 + 1) (.inl (.inr rfl)) (.deferred none)
  rw [hs4] at hD
  have hD7 : w7.heap[w.heap.size + 2 + 1]? = some (.deferred (some [])) := by
   have h3 : w.heap.size + 2 + 1 < w6.heap.size := (Array.getElem?_eq_some_iff.1 hD).1
   exact (hb7.block _ h3).trans hD
  have hD8 : ((w7.setCell ⟨w.heap.size, 0, none⟩ (.bool false)).setCell ⟨w.heap.size, 1, none⟩ (.slice A (wordsN n).length c)).heap[w.heap.size + 2 + 1]? = some (.deferred (some [])) :=
   (Below.heap_setCell _ _ _ _ (by show w.heap.size + 2 + 1 ≠ w.heap.size; omega)).trans ((Below.heap_setCell _ _ _ _ (by show w.heap.size + 2 + 1 ≠ w.heap.size; omega)).trans hD7)
  have hrd := reads_only (words_reads hR) O3 (Nat.le_refl _) (fun k hk hc => by
   have h4 := i4 k hk
   rcases hc with rfl | rfl
   ·have := i7 _ h4; omega
   ·exact hnD (by rw [hs4]; exact h4))
  refine end_mark hD8 (results_n rfl rfl (G.only (Only.put_one _ (w.heap.size + 2 + 1) (.deferred none)) (by omega)) rfl) ⟨A, c, rfl, hrd.more O3.size, (fun k hk => by have := i7 k (i4 k hk); omega), i5.trans (O3.below (fun k hk hc => by omega) i5.size)⟩
end Go.Proofs.YtnbikkcalcpedaaGreatDoor
namespace Go.Proofs.YtnbikkcalcpedaaGreatDoor
open Go.RowKit Go.Lib
theorem made_u32_1 : madeCells #[.int .u32 0] 1 = #[.int .u32 0] := by
 apply Array.toList_inj.1
 rw [toList_madeCells_one]
 rfl
theorem made_u32_0 : madeCells #[.int .u32 0] 0 = #[] := by
 apply Array.toList_inj.1
 rw [toList_madeCells_one]
 rfl
def WordsAt (w : World) (lo : Nat) (A : Option Addr) (n : Nat) : Prop := Reads w w.heap.size 1 A (wordsN n).length (u32s (wordsN n)) ∧ ∀ k, blockOf A k → lo ≤ k
theorem boxU (w : World) (n : Nat) : Reads (w.alloc (.cells #[.int .u32 n] 209)) (w.alloc (.cells #[.int .u32 n] 209)).heap.size 1 (some ⟨w.heap.size, 0, none⟩) 1 (u32s [n]) := (Reads.box w (.int .u32 n) 209).more (by simp)
theorem words_box (w : World) (n : Nat) (lo : Nat) (h : lo ≤ w.heap.size) : WordsAt (w.alloc (.cells #[.int .u32 n] 209)) lo (some ⟨w.heap.size, 0, none⟩) n :=
 ⟨words_reads (boxU w n), by rintro k ⟨a, ha, rfl⟩; injection ha with ha; subst ha; exact h⟩
theorem WordsAt.next {w w' : World} {lo : Nat} {A : Option Addr} {n : Nat} (h : WordsAt w lo A n) (hb : Below w.heap.size w w') : WordsAt w' lo A n := ⟨h.1.next hb, h.2⟩
theorem words_zero (w : World) (lo g : Nat) (h : lo ≤ g) : WordsAt w lo (some ⟨g, 0, none⟩) 0 := ⟨⟨by simp [u32s, wordsN], fun h => absurd h (by simp [wordsN])⟩, by rintro k ⟨a, ha, rfl⟩; injection ha with ha; subst ha; exact h⟩
theorem trim_one (n : Nat) (A : Option Addr) (c : Nat) (hc : 1 ≤ c) (w : World) (h : Reads w w.heap.size 1 A 1 (u32s [n])) :
  Calls Tryz.prog 231 #[.slice A 1 c] w fun e w' => e = .returned (.slice A (wordsN n).length c) ∧ w' = w :=
 (trimmed_any A c [n] (by simp) hc _ w h).mono fun e w' ⟨k, h1, h2, h3, h4, h5⟩ => ⟨by rw [h1, trim_words h2 h3 h4], h5⟩
theorem trim_nil (A : Option Addr) (c : Nat) (w : World) :
  Calls Tryz.prog 231 #[.slice A 0 c] w fun e w' => e = .returned (.slice A 0 c) ∧ w' = w :=
 (trimmed_any A c [] (by simp) (by simp) w.heap.size w ⟨by simp [u32s], fun h => absurd h (by simp)⟩).mono fun e w' ⟨k, h1, h2, _, _, h5⟩ => ⟨by rw [h1, show k = 0 from Nat.le_zero.1 h2], h5⟩
theorem short_any (a d : Nat) (hd : 0 < d) (ha9 : a < 1000000000) (hd9 : d < 1000000000) (A1 : Option Addr) (c1 : Nat) (w : World) (h1 : Reads w w.heap.size 1 A1 (wordsN a).length (u32s (wordsN a))) :
  Calls Tryz.prog 331 #[.slice A1 (wordsN a).length c1, .int .u32 d] w fun e w' => ∃ A c A' c', e = .returned (.tuple #[.slice A (wordsN (a / d)).length c, .slice A' (wordsN (a % d)).length c']) ∧ WordsAt w' w.heap.size A (a / d) ∧ WordsAt w' w.heap.size A' (a % d) ∧ Below w.heap.size w w' := by
 have hq9 : a / d < 1000000000 := Nat.lt_of_le_of_lt (Nat.div_le_self a d) ha9
 have hr9 : a % d < 1000000000 := Nat.lt_trans (Nat.mod_lt a hd) hd9
 by_cases h0 : a = 0
 ·subst h0
  have hmk : ∀ W : World, (Instr.makeSlice 213 (.int .i64 0) (.int .i64 0)).run Tryz.prog W = .ok (.slice (some ⟨W.heap.size, 0, none⟩) 0 0) (W.alloc (.cells #[] 209)) := fun W => by
   have := make_u32 0 0 (by omega) (by omega) W
   rw [made_u32_0] at this
   exact this
  have TN := Lib.hid trim_nil
  have TO := Lib.hid (trim_one 0)
  rw [show 0 / d = 0 from Nat.zero_div d, show 0 % d = 0 from Nat.zero_mod d]
  rw [show (wordsN 0).length = 0 from rfl]
  obtain ⟨w1, hw1⟩ : ∃ w1, w.alloc (.cells #[] 209) = w1 := ⟨_, rfl⟩
  have B1 : Hid (Below w.heap.size w w1) := by rw [Hid, ← hw1]; exact (Below.refl _ _).alloc (Nat.le_refl _) _
  have HW1 := Lib.hid hw1
  have hb0 := Lib.hid (boxU w1 0)
  have hwb := Lib.hid (words_box w1 0 w.heap.size B1.out.size)
  clear h1 hq9 hr9 hw1
  go_enter Tryz.func331, Tryz.ntmps331
  go_wp2
  rw [HW1.out]
  go_loopw [7, 8] (fun r i wr => r = .int .u64 0 ∧ i = .int .i64 (-1) ∧ wr = w1) (fun _ _ _ => 0)
  case atStart => exact ⟨rfl, rfl, rfl⟩
  case round =>
   obtain ⟨rfl, rfl, rfl⟩ := hrel
   go_wp2_with fail
   refine (TN.out _ _ _).mono ?_
   rintro e w' ⟨rfl, rfl⟩
   go_wp2_with fail
   refine (TO.out _ 1 (Nat.le_refl _) _ hb0.out).mono ?_
   rintro e w' ⟨rfl, rfl⟩
   go_wp2
   go_ret2
   exact ⟨_, _, _, _, rfl, words_zero _ _ _ (Nat.le_refl _), hwb.out, B1.out.alloc B1.out.size _⟩
 ·rw [wordsN_pos (show 0 < a by omega)] at h1 ⊢
  have hmk : ∀ W : World, (Instr.makeSlice 213 (.int .i64 1) (.int .i64 1)).run Tryz.prog W = .ok (.slice (some ⟨W.heap.size, 0, none⟩) 1 1) (W.alloc (.cells #[.int .u32 0] 209)) := fun W => by
   have := make_u32 1 1 (by omega) (by omega) W
   rw [made_u32_1] at this
   exact this
  obtain ⟨b1, o1, rfl, hb1, q1⟩ := h1.at_ (u32s_at (k := 0) (n := a) rfl)
  obtain ⟨q, hq⟩ : ∃ q, a / d = q := ⟨_, rfl⟩
  obtain ⟨r, hr⟩ : ∃ r, a % d = r := ⟨_, rfl⟩
  have hdq : Int.tdiv (a : Int) (d : Int) = (q : Int) := by rw [Int.tdiv_eq_ediv_of_nonneg (by omega), ← hq]; simp
  have hdr : Int.tmod (a : Int) (d : Int) = (r : Int) := by rw [Int.tmod_eq_emod_of_nonneg (by omega), ← hr]; simp
  rw [hq] at hq9 ⊢
  rw [hr] at hr9 ⊢
  have ua : IntKind.u64.wrap (a : Int) = (a : Int) := by rw [IntKind.wrap_u64]; omega
  have ud : IntKind.u64.wrap (d : Int) = (d : Int) := by rw [IntKind.wrap_u64]; omega
  have uq : IntKind.u64.wrap (q : Int) = (q : Int) := by rw [IntKind.wrap_u64]; omega
  have ur : IntKind.u64.wrap (r : Int) = (r : Int) := by rw [IntKind.wrap_u64]; omega
  have vq : IntKind.u32.wrap (q : Int) = (q : Int) := by rw [IntKind.wrap_u32]; omega
  have vr : IntKind.u32.wrap (r : Int) = (r : Int) := by rw [IntKind.wrap_u32]; omega
  have hd0 : ((d : Int) == 0) = false := by simp; omega
  have hd1 : ¬ (d : Int) = 0 := by omega
  have TO := Lib.hid trim_one
  have Q1 := Lib.hid q1
  rw [show ([a] : List Nat).length = 1 from rfl]
  have G0 := Lib.hid (Blk.new w 209 #[.int .u32 0])
  have B0 : Hid (Below w.heap.size w (w.alloc (.cells #[.int .u32 0] 209))) := (Below.refl _ _).alloc (Nat.le_refl _) _
  clear h1 hq hr q1 h0
  go_enter Tryz.func331, Tryz.ntmps331
  go_wp2
  go_loopw [7, 8] (fun rs i wr => ∃ (v z : Int), rs = .int .u64 v ∧ i = .int .i64 z ∧ ((v = 0 ∧ z = 0 ∧ Hid (Blk wr w.heap.size 209 #[.int .u32 0])) ∨ (v = (r : Int) ∧ z = -1 ∧ Hid (Blk wr w.heap.size 209 #[.int .u32 (q : Int)]))) ∧ Hid (Below w.heap.size w wr)) (fun _ i _ => (RowKit.intOf i + 1).toNat)
  case atStart => exact ⟨0, 0, rfl, rfl, .inl ⟨rfl, rfl, G0.out⟩, B0.out⟩
  case round =>
   obtain ⟨v, z, rfl, rfl, ⟨rfl, rfl, hG⟩ | ⟨rfl, rfl, hG⟩, hB⟩ := hrel
   ·have q1 := (hB.out.cell (p := ⟨b1, o1, none⟩) hb1).trans Q1.out
    have i0 := hG.out.cell 0
    have j0 := hG.out.frozen 0
    have HG2 := Lib.hid (hG.out.set_ 0 (.int .u32 (q : Int)))
    have HB2 := Lib.hid (hB.out.setCell (p := ⟨w.heap.size, 0, none⟩) (Nat.le_refl _) (.int .u32 (q : Int)))
    go_wp2
    go_roundw
    case rel => exact ⟨r, -1, by go_num, by go_num, .inr ⟨rfl, rfl, HG2.out⟩, HB2.out⟩
    case measure => simp [RowKit.intOf]
   ·have hR : Reads wr wr.heap.size 1 (some ⟨w.heap.size, 0, none⟩) 1 (u32s [q]) := Reads.blk hG.out
    have HR := Lib.hid hR
    have hbx := Lib.hid (boxU wr r)
    have hzz := hB.out.size
    clear hR hG
    go_wp2_with fail
    refine (TO.out q _ 1 (Nat.le_refl _) _ HR.out).mono ?_
    rintro e w' ⟨rfl, rfl⟩
    go_wp2_with fail
    refine (TO.out r _ 1 (Nat.le_refl _) _ hbx.out).mono ?_
    rintro e w' ⟨rfl, rfl⟩
    go_wp2
    go_ret2
    have hn := Below.alloc (Below.refl w'.heap.size w') (Nat.le_refl _) (.cells #[.int .u32 r] 209)
    exact ⟨_, _, _, _, rfl, ⟨(words_reads HR.out).next hn, by rintro k ⟨a, ha, rfl⟩; injection ha with ha; subst ha; exact Nat.le_refl _⟩, words_box _ r _ hzz, hB.out.alloc hzz _⟩
end Go.Proofs.YtnbikkcalcpedaaGreatDoor
namespace Go.Proofs.YtnbikkcalcpedaaGreatDoor
open Go.RowKit Go.Lib
end Go.Proofs.YtnbikkcalcpedaaGreatDoor
