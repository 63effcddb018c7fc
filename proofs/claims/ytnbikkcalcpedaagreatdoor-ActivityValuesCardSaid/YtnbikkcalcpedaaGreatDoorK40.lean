/-
  Texts of this claim, put together: Nat4, Nat5, Nat6, Nat7.
-/
import Derived.Test.YtnbikkcalcpedaaGreatDoorK39
import Derived.Test.YtnbikkcalcpedaaGreatDoorK34
import Derived.Test.YtnbikkcalcpedaaGreatDoorK10
import Derived.Test.YtnbikkcalcpedaaGreatDoorK16
import Derived.Deep.RegionHeld3
/-! integer.checked; groups (the iterator), read: numbers below a billion. -/
namespace Go.Proofs.YtnbikkcalcpedaaGreatDoor
open Go.RowKit Go.Lib Go.Shelf

set_option maxRecDepth 100000 in
set_option maxHeartbeats 2000000 in
theorem checked_two (a b : Nat) (ha : a < 10 ^ 100) (hb : b < 10 ^ 100) (g c : Nat) (w : World) (h : Blk w g 40 #[.string (intS a), .string (intS b)]) :
    Calls Tryz.prog 235 #[.slice (some ⟨g, 0, none⟩) 2 c] w fun e w' => e = .returned (.int .i64 0) ∧ Below w.heap.size w w' := by
  have CA := Lib.hid (fun (W : World) => check_int a ha W)
  have CB := Lib.hid (fun (W : World) => check_int b hb W)
  obtain ⟨s, hs⟩ : ∃ s, intS a = s := ⟨_, rfl⟩
  obtain ⟨t, ht⟩ : ∃ t, intS b = t := ⟨_, rfl⟩
  rw [hs] at CA h
  rw [ht] at CB h
  have HG := Lib.hid h
  have hB0 := Lib.hid (Below.refl w.heap.size w)
  clear hs ht ha hb h
  go_enter Tryz.func235, Tryz.ntmps235
  go_wp2
  go_loopw [8] (fun i wr => ∃ k : Nat, i = .int .i64 k ∧ k ≤ 2 ∧ Hid (Below w.heap.size w wr)) (fun i _ => 2 - (RowKit.intOf i).toNat)
  case atStart => exact ⟨0, rfl, by omega, hB0.out⟩
  case round =>
    obtain ⟨k, rfl, hk, hB⟩ := hrel
    have g := HG.out.next hB.out
    have k0 := g.cell 0
    have k1 := g.cell 1
    have hzz := hB.out.size
    rcases (show k = 0 ∨ k = 1 ∨ k = 2 by omega) with rfl | rfl | rfl
    · go_wp2_with fail
      refine (CA.out _).mono ?_
      rintro e w' ⟨rfl, hb⟩
      have hB2 := hB.out.trans (hb.mono hzz)
      go_wp2
      go_roundw
      case rel => exact ⟨1, by go_num, by omega, hB2⟩
      case measure => simp [RowKit.intOf]
    · go_wp2_with fail
      refine (CB.out _).mono ?_
      rintro e w' ⟨rfl, hb⟩
      have hB2 := hB.out.trans (hb.mono hzz)
      go_wp2
      go_roundw
      case rel => exact ⟨2, by go_num, by omega, hB2⟩
      case measure => simp [RowKit.intOf]
    · go_wp2
      go_ret
      exact ⟨rfl, hB.out⟩
set_option maxHeartbeats 1000000 in
theorem groups_any (s : ByteArray) (w : World) :
    Calls Tryz.prog 229 #[.string s] w fun e w' => e = .returned (.func (.func 288) #[] #[.pointer (some ⟨w.heap.size, 0, none⟩)]) ∧ w.alloc (.cells #[.string s] 9) = w' := by
  have hmf : ∀ (fn : Fn) (first cap : Array Value) (w : World), (Instr.makeFunc fn first cap).run Tryz.prog w = .ok (.func fn first cap) w := fun _ _ _ _ => rfl
  go_enter Tryz.func229, Tryz.ntmps229
  go_wp2
  go_ret
  exact ⟨rfl, rfl⟩
def ArgW (x : Nat) (args : Array Value) (_ : Nat → Prop) (_ : World) : Prop := args = #[.int .u32 (x : Int)]
set_option maxRecDepth 100000 in
set_option maxHeartbeats 8000000 in
theorem groups_iter (n : Nat) (hn : n < 1000000000) (bs : Nat) (W0 : World) (h1 : Blk W0 bs 9 #[.string (intS n)]) :
    Iter Tryz.prog 288 #[.pointer (some ⟨bs, 0, none⟩)] ArgW (fun k => k = bs) (fun _ => False) [n] W0 := by
  intro l J Jx C W hL hC hJ hJx hY h0
  have k1 : Blk W bs 9 #[.string (intS n)] := (hL.block bs h1.lt rfl).trans h1
  have hsz := intS_len n hn
  have hnd : (intS n).size ≤ 9 := by
    rw [← numS_int, Lib.size_eq]
    show (decDigits n).length ≤ 9
    rw [decDigits_length]
    exact nDig_le 8 n (by omega)
  have PC := Lib.hid (fun (W : World) => lay_strconv_ParseUint_10_at32_ok (intS n) (by omega) n (by rw [← numS_int]; exact parse32_dec n (by omega)) W)
  have HC := Lib.hid hC
  have HY := Lib.hid hY
  have HJ := Lib.hid hJ
  have H0 := Lib.hid h0
  obtain ⟨s, hs⟩ : ∃ s, intS n = s := ⟨_, rfl⟩
  rw [hs] at k1 hsz hnd PC
  obtain ⟨z, hz⟩ : ∃ z, s.size = z := ⟨_, rfl⟩
  have hsl : ∀ W, (Instr.slice 9 (.string s) (some (.int .i64 0)) (some (.int .i64 (z : Int))) none).run Tryz.prog W = .ok (.string s) W := fun W => by
    rw [run_slice_string W 9 s .i64 .i64 _ _ Tryz.underlying9 (by omega) (by omega) (by omega), show ((z : Int)).toNat = z by omega, show ((0 : Int)).toNat = 0 by omega, ← hz]
    rw [ByteArray.extract_zero_size]
  have c0 := k1.cell 0
  have hbs := k1.lt
  rw [hz] at hsz hnd
  have hp : (0 : Int) < (z : Int) := by omega
  have hm1 : ((z : Int) - 9) ≤ 0 := by omega
  have hmx : max (0 : Int) ((z : Int) - 9) = 0 := by omega
  have u1 : IntKind.u32.wrap (n : Int) = (n : Int) := by rw [IntKind.wrap_u32]; omega
  clear h1 hL hC hY hJ hJx h0 hs
  refine (callsIn_wide (n := 3)).1 ?_
  refine callsIn_of_wp_marks Tryz.func288 rfl trivial ?_
  simp only [Tryz.ntmps288, List.size_toArray, List.length_cons, List.length_nil, Nat.reduceAdd, Nat.reduceSub, Array.replicate_succ, Array.replicate_zero, List.push_toArray, List.append_toArray, List.nil_append, List.cons_append]
  gi_wp2_with fail
  gi_loopw [3] (fun v wl => ∃ zz : Int, v = .int .i64 zz ∧ ((zz = (z : Int) ∧ wl = W) ∨ (zz = (z : Int) - 9 ∧ ∃ C', Hid (J [n] C' wl)))) (fun v _ => (RowKit.intOf v).toNat)
  case atStart => exact ⟨_, rfl, .inl ⟨rfl, rfl⟩⟩
  case round =>
    obtain ⟨zz, rfl, ⟨rfl, rfl⟩ | ⟨rfl, C', IJ⟩⟩ := hrel
    · gi_wp2_with fail
      refine ⟨trivial, ?_⟩
      refine (inW (PC.out _)).mono ?_
      rintro e w5 ⟨rfl, hW⟩
      have hb5 : Below wr.heap.size wr w5 := by
        rcases hW with rfl | rfl
        · exact Below.refl _ _
        · exact bytes_below _ _ _
      obtain ⟨fn, tmps, assign, body, hy, hR⟩ := HY.out [] n C w5 #[.int .u32 (n : Int)] (fun _ => False) (List.prefix_refl _) (HJ.out _ _ _ _ H0.out (Stays.of_new hb5)) hb5.size (fun k hk => Nat.lt_of_lt_of_le (HC.out k hk).1 hb5.size) (fun k hk => hk.elim) rfl
      clear hW hb5
      gi_wp2_with fail
      refine (roundIn_wide hR).mono ?_
      rintro e w6 ⟨C2, b2, ho2, hg2, rfl, hj2, hx2⟩
      cases b2
      · have HX2 := Lib.hid (hx2 rfl)
        clear hj2 hx2 hR hy
        gi_wp2
        exact ⟨_, results_none rfl _ _ _, ⟨⟨_, rfl⟩, C2, .inr ⟨[n], List.prefix_refl _, HX2.out⟩⟩⟩
      · have HJ2 := Lib.hid (hj2 rfl)
        clear hj2 hx2 hR hy
        gi_wp2
        go_roundw
        case rel => exact ⟨_, rfl, .inr ⟨by go_num, C2, HJ2.out⟩⟩
        case measure => simp [RowKit.intOf]; omega
    · gi_wp2
      exact ⟨_, results_none rfl _ _ _, ⟨⟨_, rfl⟩, C', .inl IJ.out⟩⟩
end Go.Proofs.YtnbikkcalcpedaaGreatDoor

/-! integer.read of a numeral below a billion. -/
namespace Go.Proofs.YtnbikkcalcpedaaGreatDoor
open Go.RowKit Go.Lib Go.Shelf
attribute [local go_sem] Oper.semAt_some

theorem blk_at5 {w : World} {g : Nat} {t : TypeId} {cs : Array Value} (h : w.heap.size = g) : Blk (w.alloc (.cells cs t)) g t cs := by subst h; exact Blk.new w t cs
theorem cut_num (n : Nat) (w : World) : Calls Tryz.prog 123 #[.string (intS n), .string ⟨#[45]⟩] w fun e w' => e = .returned (.tuple #[.string (intS n), .bool false]) ∧ w' = w := by
  refine cutpre_no (intS n) ?_ ?_ w
  · rw [← numS_int, Lib.size_eq]
    exact List.length_pos_iff.2 (dec_pos n)
  · rw [← numS_int, extract_toList]
    show ((decDigits n).take 1 == [45]) = false
    obtain ⟨a, l, hal⟩ := List.exists_cons_of_ne_nil (dec_pos n)
    have ha := dec_dig2 n a (by rw [hal]; simp)
    rw [hal]
    simp
    intro hc
    rw [hc] at ha
    have h45 : (45 : UInt8).toNat = 45 := rfl
    omega
theorem trim_words {n k : Nat} (hk : k ≤ [n].length) (hz : ∀ j x, k ≤ j → [n][j]? = some x → x = 0) (hl : ∀ x, [n][k - 1]? = some x → 0 < k → x ≠ 0) : k = (wordsN n).length := by
  have h2 : k ≤ 1 := hk
  unfold wordsN
  rcases (show k = 0 ∨ k = 1 by omega) with rfl | rfl
  · rw [if_pos (hz 0 n (by omega) rfl)]; rfl
  · rw [if_neg (hl n rfl (by omega))]; rfl
theorem words_reads {w : World} {B n : Nat} {A : Option Addr} (h : Reads w B 1 A 1 (u32s [n])) : Reads w B 1 A (wordsN n).length (u32s (wordsN n)) := by
  unfold wordsN
  split
  · exact ⟨by simp [u32s], fun h0 => absurd h0 (by simp)⟩
  · exact h
set_option maxRecDepth 100000 in
set_option maxHeartbeats 8000000 in
theorem read_any (n : Nat) (hn : n < 1000000000) (w : World) :
    Calls Tryz.prog 179 #[.string (intS n)] w fun e w' => ∃ A c, e = .returned (.agg #[.bool false, .slice A (wordsN n).length c]) ∧ Reads w' w'.heap.size 1 A (wordsN n).length (u32s (wordsN n)) ∧ (∀ k, blockOf A k → w.heap.size < k) ∧ Below w.heap.size w w' := by
  have CC := Lib.hid (fun (W : World) => cut_num n W)
  have GC := Lib.hid (fun (W : World) => groups_any (intS n) W)
  have HG := Lib.hid (fun (bs : Nat) (W0 : World) (h1 : Blk W0 bs 9 #[.string (intS n)]) => groups_iter n hn bs W0 h1)
  obtain ⟨s, hs⟩ : ∃ s, intS n = s := ⟨_, rfl⟩
  rw [hs] at CC GC HG ⊢
  obtain ⟨w2, hw2⟩ : ∃ w2, (w.alloc (.cells #[.bool false, .slice none 0 0] 215)).alloc (.cells #[.slice none 0 0] 213) = w2 := ⟨_, rfl⟩
  have hs2 : w2.heap.size = w.heap.size + 2 := by rw [← hw2]; simp
  have r1 : Blk w2 w.heap.size 215 #[.bool false, .slice none 0 0] := by rw [← hw2]; exact (blk_at5 rfl).alloc _
  have r2 : Blk w2 (w.heap.size + 1) 213 #[.slice none 0 0] := by rw [← hw2]; exact blk_at5 (by simp)
  have B2 : Below w.heap.size w w2 := by rw [← hw2]; exact ((Below.refl _ _).alloc (Nat.le_refl _) _).alloc (by simp) _
  have HW2 := Lib.hid hw2
  clear hw2 hs
  refine (callsIn_wide (n := 3)).1 ?_
  refine callsIn_of_wp_marks Tryz.func179 rfl trivial ?_
  simp only [Tryz.ntmps179, List.size_toArray, List.length_cons, List.length_nil, Nat.reduceAdd, Nat.reduceSub, Array.replicate_succ, Array.replicate_zero, List.push_toArray, List.append_toArray, List.nil_append, List.cons_append]
  gi_wp2_with fail
  refine ⟨trivial, ?_⟩
  refine (inW (CC.out _)).mono ?_
  rintro e w1 ⟨rfl, rfl⟩
  gi_wp2_with fail
  rw [HW2.out]
  refine ⟨trivial, ?_⟩
  refine (inW (GC.out _)).mono ?_
  rintro e w4 ⟨rfl, hw4⟩
  have hs4 : w4.heap.size = w2.heap.size + 1 := by rw [← hw4]; simp
  have q1 : Blk w4 w2.heap.size 9 #[.string s] := by rw [← hw4]; exact Blk.new w2 _ _
  have b34 : Below w2.heap.size w2 w4 := by rw [← hw4]; exact (Below.refl _ _).alloc (Nat.le_refl _) _
  have B4 := B2.trans (b34.mono B2.size)
  have r1 := r1.next b34
  have r2 := r2.next b34
  rw [hs2] at q1 hs4
  clear hw4 b34
  gi_wp2_with fail
  refine range_outer (n := 3) (gf := 288) (lb := #[.pointer (some ⟨w.heap.size + 2, 0, none⟩)]) (by first | rfl | rw [hs2]) (enters_of Tryz.func288 (by kernel_rfl) rfl)
    (HG.out (w.heap.size + 2) w4 q1) ?hK (fun k => k = w.heap.size + 1) ?hC
    (fun pre C W => ∃ A c, Blk W (w.heap.size + 1) 213 #[.slice A pre.length c] ∧ OwnU W w.heap.size A c pre ∧ C (w.heap.size + 1) ∧ (∀ k, blockOf A k → C k) ∧ Below w.heap.size w W ∧ Blk W w.heap.size 215 #[.bool false, .slice none 0 0] ∧ (∀ k, C k → k = w.heap.size + 1 ∨ w.heap.size + 3 ≤ k) ∧ w4.heap.size ≤ W.heap.size)
    (fun _ _ _ _ => False) ?hI (fun _ _ _ _ _ h _ => h) ?h0 ?hps ?round ?done (fun _ _ _ _ _ h => h.elim)
  case hK =>
    rintro k rfl
    omega
  case hC =>
    rintro k rfl
    exact ⟨by omega, by omega⟩
  case hI =>
    rintro pre C a b ⟨A, c, i1, i2, i3, i4, i5, i6, i7, i8⟩ hst
    exact ⟨A, c, i1.stays hst (.inl i3), own_kept2 i2 (fun k hk => hst.block k (i2.lt k hk).2 (.inl (i4 k hk))), i3, i4, i5.trans (hst.below (fun k hk => .inr ⟨by omega, id⟩) i5.size), i6.stays hst (.inr ⟨by omega, id⟩), i7, Nat.le_trans i8 hst.size⟩
  case h0 => exact ⟨none, 0, r2, OwnU.nil_ _ _, rfl, (by rintro k ⟨a, h, _⟩; cases h), B4, r1, fun k hk => .inl hk, Nat.le_refl _⟩
  case hps => intro x' args O W' (ha : args = _); subst ha; rfl
  case round =>
    rintro l pre x args C Ob W hpre hI hl hC hOb harg hlW hnC hnO T hT
    obtain ⟨A, c, i1, i2, i3, i4, i5, i6, i7, i8⟩ := hI
    obtain rfl : args = #[.int .u32 (x : Int)] := harg
    have hpl : pre.length < 16384 := by
      obtain ⟨z, hz⟩ := hpre
      have := congrArg List.length hz
      simp at this
      omega
    have hpn := Lib.hid (List.IsPrefix.length_le hpre)
    gi_wp2
    refine hT _ _ (Only.refl _ _) ?_
    intro w5 h5 _
    have hl5 : ∀ k, C k → k ≠ l := fun k hk e => hnC (e ▸ hk)
    have j1 : Blk w5 (w.heap.size + 1) 213 #[.slice A pre.length c] := i1.only h5 (by omega)
    have j2 : OwnU w5 w.heap.size A c pre := own_kept2 i2 fun k hk => h5.block k (i2.lt k hk).2 (hl5 k (i4 k hk))
    have j5 : Below w.heap.size w w5 := i5.trans (h5.below (fun k hk e => by omega) i5.size)
    have j6 := i6.only h5 (by omega)
    have e1 := j1.cell 0
    have hC5 : ∀ k, C k → k < w5.heap.size := fun k hk => Nat.lt_of_lt_of_le (hC k hk) h5.size
    have hs5 := h5.size
    clear i1 i2 i5 i6 hC hpre
    gi_wp2_with (gi_at_builtin; refine append_gi rfl (.tmp 15) (.tmp 17) _ rfl w.heap.size 209 Tryz.underlying213 info_u32 rfl (by omega) A c pre.length (u32s pre) rfl (World.ownsRow.alloc j2 _) _ [.int .u32 (x : Nat)] rfl (Reads.box _ _ _) (by simp [Value.oneCell']) (by omega) (by have := j5.size; simp; omega) ?_; intro A6 c6 w6 hown6 hg6 hb6 hw6; have k1 := (j1.alloc (.cells #[.int .u32 x] 209)).grown hg6 (own_blk_ne j2 j1 (by decide)); have e2 := k1.cell 0; have f2 := k1.frozen 0)
    have hO6 : OwnU w6 w.heap.size A6 c6 (pre ++ [x]) := by
      unfold OwnU
      rw [u32s_snoc, List.length_append]
      exact hown6
    have k3 : Only (fun k => C k ∨ Ob k) w5 w6 := ((Only.refl _ w5).alloc _).grown hg6 fun k hk => .inl (.inl (i4 k (blockOf_own.1 hk)))
    refine ⟨fun k => C k ∨ Ob k ∨ (w5.heap.size ≤ k ∧ k < w6.heap.size), k3.setCell (.inl (.inl i3)) _, fun k hk => ?_, A6, c6, ?_, ?_, .inl i3, ?_, ?_, ?_, ?_, ?_⟩
    · simpa [World.setCell] using hk
    · have := k1.set_ 0 (.slice A6 (pre.length + 1) c6)
      simpa using this
    · exact own_kept2 hO6 (fun k hk => Below.heap_setCell w6 _ _ k (by rintro rfl; exact own_blk_ne hO6 k1 (by decide) (blockOf_own.2 hk).symm))
    · rintro k hk
      rcases hw6 with e | e
      · rw [blockOf_own.2 hk] at e
        exact .inl (i4 k (blockOf_own.1 e.symm))
      · rw [blockOf_own.2 hk] at e
        injection e with e
        have hlt := (hO6.lt k hk).2
        exact .inr (.inr ⟨by rw [e]; simp, hlt⟩)
    · exact (j5.trans (k3.below (fun k hk e => by
        rcases e with e | e
        · have := i7 k e; omega
        · have := (hOb k e).2.2; omega) j5.size)).setCell (by show w.heap.size ≤ w.heap.size + 1; omega) _
    · exact (j6.only k3 (fun e => by
        rcases e with e | e
        · have := i7 _ e; omega
        · have := (hOb _ e).2.2; omega)).far (by show w.heap.size ≠ w.heap.size + 1; omega) _
    · rintro k (hk | hk | hk)
      · exact i7 k hk
      · exact .inr (by have := (hOb k hk).2.2; omega)
      · exact .inr (by omega)
    · have := k3.size; simp [World.setCell]; omega
  case done =>
    rintro C W ⟨A, c, i1, i2, i3, i4, i5, i6, i7, i8⟩ hnD hD
    have e1 := i1.cell 0
    have TC := Lib.hid (trimmed_any A c [n] (by simp) i2.cap_ _ W i2.reads)
    have hR := i2.reads
    clear i1 i2 q1
    gi_wp2_with fail
    refine ⟨trivial, ?_⟩
    refine (inW (TC.out)).mono ?_
    rintro e w6 ⟨k, rfl, hk, hz, hl, rfl⟩
    obtain rfl := trim_words hk hz hl
    clear hk hz hl TC
    gi_wp2_with fail
    refine ⟨trivial, ?_⟩
    refine (inW (signed_any false A (wordsN n).length c _)).mono ?_
    rintro e w7 ⟨rfl, hb7⟩
    have i6 := i6.next hb7
    have c0 := i6.cell 0
    have c1 := i6.cell 1
    have f0 := i6.frozen 0
    have f1 := i6.frozen 1
    gi_wp2
    have G := (i6.set_ 0 (.bool false)).set_ 1 (.slice A (wordsN n).length c)
    have O1 : Only (fun k => k = w.heap.size ∨ k = w.heap.size + 2 + 1) w6 w7 := Only.of_new hb7
    have O2 := (O1.setCell (p := ⟨w.heap.size, 0, none⟩) (.inl (.inl rfl)) (.bool false)).setCell (p := ⟨w.heap.size, 1, none⟩) (.inl (.inl rfl)) (.slice A (wordsN n).length c)
    have O3 := O2.putObj (r := w.heap.size + 2 + 1) (.inl (.inr rfl)) (.deferred none)
    rw [hs4] at hD
    have hD7 : w7.heap[w.heap.size + 2 + 1]? = some (.deferred (some [])) := by
      have h3 : w.heap.size + 2 + 1 < w6.heap.size := (Array.getElem?_eq_some_iff.1 hD).1
      exact (hb7.block _ h3).trans hD
    have hD8 : ((w7.setCell ⟨w.heap.size, 0, none⟩ (.bool false)).setCell ⟨w.heap.size, 1, none⟩ (.slice A (wordsN n).length c)).heap[w.heap.size + 2 + 1]? = some (.deferred (some [])) :=
      (Below.heap_setCell _ _ _ _ (by show w.heap.size + 2 + 1 ≠ w.heap.size; omega)).trans ((Below.heap_setCell _ _ _ _ (by show w.heap.size + 2 + 1 ≠ w.heap.size; omega)).trans hD7)
    have hrd := reads_only (words_reads hR) O3 (Nat.le_refl _) (fun k hk hc => by
      have h4 := i4 k hk
      rcases hc with rfl | rfl
      · have := i7 _ h4; omega
      · exact hnD (by rw [hs4]; exact h4))
    refine end_mark hD8 (results_n rfl rfl (G.only (Only.put_one _ (w.heap.size + 2 + 1) (.deferred none)) (by omega)) rfl) ⟨A, c, rfl, hrd.more O3.size, (fun k hk => by have := i7 k (i4 k hk); omega), i5.trans (O3.below (fun k hk hc => by omega) i5.size)⟩
end Go.Proofs.YtnbikkcalcpedaaGreatDoor

/-! integer: product and sum of numbers; Mul, Add, Pow below a billion. -/
namespace Go.Proofs.YtnbikkcalcpedaaGreatDoor
open Go.RowKit Go.Lib

set_option maxRecDepth 100000 in
set_option maxHeartbeats 4000000 in
theorem product_any (a b : Nat) (ha : 0 < a) (hb : 0 < b) (hab : a * b < 1000000000) (A1 : Option Addr) (c1 : Nat) (A2 : Option Addr) (c2 : Nat) (w : World) (h1 : Reads w w.heap.size 1 A1 1 (u32s [a])) (h2 : Reads w w.heap.size 1 A2 1 (u32s [b])) :
    Calls Tryz.prog 180 #[.agg #[.bool false, .slice A1 1 c1], .agg #[.bool false, .slice A2 1 c2]] w fun e w' => ∃ A c, e = .returned (.agg #[.bool false, .slice A 1 c]) ∧ Reads w' w'.heap.size 1 A 1 (u32s [a * b]) ∧ (∀ k, blockOf A k → w.heap.size ≤ k) ∧ Below w.heap.size w w' := by
  have TC := Lib.hid (fun (W : World) (hB : Below w.heap.size w W) => times_any a b ha hb hab A1 c1 A2 c2 W ((h1.below hB).more hB.size) ((h2.below hB).more hB.size))
  obtain ⟨w3, hw3⟩ : ∃ w3, ((w.alloc (.cells #[.bool false, .slice A1 1 c1] 215)).alloc (.cells #[.bool false, .slice A2 1 c2] 215)).alloc (.cells #[.bool false, .slice none 0 0] 215) = w3 := ⟨_, rfl⟩
  have r1 : Blk w3 w.heap.size 215 #[.bool false, .slice A1 1 c1] := by rw [← hw3]; exact ((Blk.new w _ _).alloc _).alloc _
  have r2 : Blk w3 (w.heap.size + 1) 215 #[.bool false, .slice A2 1 c2] := by rw [← hw3]; exact (blk_at5 (by simp)).alloc _
  have r3 : Blk w3 (w.heap.size + 2) 215 #[.bool false, .slice none 0 0] := by rw [← hw3]; exact blk_at5 (by simp)
  have hs3 : Hid (w3.heap.size = w.heap.size + 3) := by rw [Hid, ← hw3]; simp
  have B3 : Below w.heap.size w w3 := by rw [← hw3]; exact (((Below.refl _ _).alloc (Nat.le_refl _) _).alloc (by simp) _).alloc (by simp; omega) _
  have HW := Lib.hid hw3
  have k0 := r1.cell 0
  have k1 := r1.cell 1
  have k2 := r2.cell 0
  have k3 := r2.cell 1
  have TS := Lib.hid (signed_any false)
  have hn1 : ¬ w.heap.size = w.heap.size + 1 + 1 := by omega
  have hn2 : ¬ w.heap.size + 1 + 1 = w.heap.size := by omega
  clear hw3 h1 h2 ha hb hab
  go_enter Tryz.func180, Tryz.ntmps180
  go_wp2
  rw [HW.out]
  go_region_held3 (fun W => W.cell? ⟨w.heap.size, 0, none⟩ = some (.bool false) ∧ W.cell? ⟨w.heap.size, 1, none⟩ = some (.slice A1 1 c1) ∧ W.cell? ⟨w.heap.size + 1, 0, none⟩ = some (.bool false) ∧ W.cell? ⟨w.heap.size + 1, 1, none⟩ = some (.slice A2 1 c2)) (go_keep) (first
    | (go_at_call 232; refine (TC.out _ B3.drew).mono ?_; rintro e w5 ⟨A5, c5, rfl, o5, n5, hb5⟩; have q1 := (r1.drew).next hb5; have q2 := (r2.drew).next hb5; have q3 := (r3.drew).next hb5; have B5 := B3.drew.trans (hb5.mono B3.size); have k0 := q1.cell 0; have k1 := q1.cell 1; have k2 := q2.cell 0; have k3 := q2.cell 1; have c0 := q3.cell 0; have c1' := q3.cell 1; have f0 := q3.frozen 0; have f1 := q3.frozen 1)
    | (go_at_call 230; refine (TS.out _ _ _ _).mono ?_; rintro e w6 ⟨rfl, hb6⟩; have q1 := q1.next hb6; have q2 := q2.next hb6; have q3 := q3.next hb6; have o5 := o5.next hb6; have B5 := B5.trans (hb6.mono B5.size); have k0 := q1.cell 0; have k1 := q1.cell 1; have k2 := q2.cell 0; have k3 := q2.cell 1; have c0 := q3.cell 0; have c1' := q3.cell 1; have f0 := q3.frozen 0; have f1 := q3.frozen 1))
  go_wp2
  refine bodyPost_ret (results_n rfl rfl ((q3.set_ 0 _).set_ 1 _) rfl) rfl ?_
  have O := ((Only.refl (fun k => k = w.heap.size + 2) w6).setCell (p := ⟨w.heap.size + 2, 0, none⟩) (.inl rfl) (.bool false)).setCell (p := ⟨w.heap.size + 2, 1, none⟩) (.inl rfl) (.slice A5 1 c5)
  have hn5 : ∀ k, blockOf A5 k → w.heap.size + 3 ≤ k := fun k hk => by have := n5 k hk; have := hs3.out; simp at *; omega
  exact ⟨A5, c5, rfl, (reads_only o5 O (Nat.le_refl _) (fun k hk hc => by have := hn5 k hk; omega)).more O.size, fun k hk => by have := hn5 k hk; omega, B5.trans (O.below (fun k hk hc => by omega) B5.size)⟩
set_option maxRecDepth 100000 in
set_option maxHeartbeats 4000000 in
theorem sum_any (a b : Nat) (hb : 0 < b) (hab : a + b < 1000000000) (A1 : Option Addr) (c1 : Nat) (A2 : Option Addr) (c2 : Nat) (w : World) (h1 : Reads w w.heap.size 1 A1 (wordsN a).length (u32s (wordsN a))) (h2 : Reads w w.heap.size 1 A2 1 (u32s [b])) :
    Calls Tryz.prog 183 #[.agg #[.bool false, .slice A1 (wordsN a).length c1], .agg #[.bool false, .slice A2 1 c2]] w fun e w' => ∃ A c, e = .returned (.agg #[.bool false, .slice A 1 c]) ∧ Reads w' w'.heap.size 1 A 1 (u32s [a + b]) ∧ (∀ k, blockOf A k → w.heap.size ≤ k) ∧ Below w.heap.size w w' := by
  have TC := Lib.hid (fun (W : World) (hB : Below w.heap.size w W) => plus_any a b hb hab A1 c1 A2 c2 W ((h1.below hB).more hB.size) ((h2.below hB).more hB.size))
  obtain ⟨w3, hw3⟩ : ∃ w3, ((w.alloc (.cells #[.bool false, .slice A1 (wordsN a).length c1] 215)).alloc (.cells #[.bool false, .slice A2 1 c2] 215)).alloc (.cells #[.bool false, .slice none 0 0] 215) = w3 := ⟨_, rfl⟩
  have r1 : Blk w3 w.heap.size 215 #[.bool false, .slice A1 (wordsN a).length c1] := by rw [← hw3]; exact ((Blk.new w _ _).alloc _).alloc _
  have r2 : Blk w3 (w.heap.size + 1) 215 #[.bool false, .slice A2 1 c2] := by rw [← hw3]; exact (blk_at5 (by simp)).alloc _
  have r3 : Blk w3 (w.heap.size + 2) 215 #[.bool false, .slice none 0 0] := by rw [← hw3]; exact blk_at5 (by simp)
  have hs3 : Hid (w3.heap.size = w.heap.size + 3) := by rw [Hid, ← hw3]; simp
  have B3 : Below w.heap.size w w3 := by rw [← hw3]; exact (((Below.refl _ _).alloc (Nat.le_refl _) _).alloc (by simp) _).alloc (by simp; omega) _
  have HW := Lib.hid hw3
  have k0 := r1.cell 0
  have k1 := r1.cell 1
  have k2 := r2.cell 0
  have k3 := r2.cell 1
  have TS := Lib.hid (signed_any false)
  have hn1 : ¬ w.heap.size = w.heap.size + 1 + 1 := by omega
  have hn2 : ¬ w.heap.size + 1 + 1 = w.heap.size := by omega
  clear hw3 h1 h2 hb hab
  go_enter Tryz.func183, Tryz.ntmps183
  go_wp2
  rw [HW.out]
  go_region_held3 (fun W => W.cell? ⟨w.heap.size, 0, none⟩ = some (.bool false) ∧ W.cell? ⟨w.heap.size, 1, none⟩ = some (.slice A1 (wordsN a).length c1) ∧ W.cell? ⟨w.heap.size + 1, 0, none⟩ = some (.bool false) ∧ W.cell? ⟨w.heap.size + 1, 1, none⟩ = some (.slice A2 1 c2)) (go_keep) (first
    | (go_at_call 236; refine (TC.out _ B3.drew).mono ?_; rintro e w5 ⟨A5, c5, rfl, o5, n5, hb5⟩; have q1 := (r1.drew).next hb5; have q2 := (r2.drew).next hb5; have q3 := (r3.drew).next hb5; have B5 := B3.drew.trans (hb5.mono B3.size); have k0 := q1.cell 0; have k1 := q1.cell 1; have k2 := q2.cell 0; have k3 := q2.cell 1; have c0 := q3.cell 0; have c1' := q3.cell 1; have f0 := q3.frozen 0; have f1 := q3.frozen 1)
    | (go_at_call 230; refine (TS.out _ _ _ _).mono ?_; rintro e w6 ⟨rfl, hb6⟩; have q1 := q1.next hb6; have q2 := q2.next hb6; have q3 := q3.next hb6; have o5 := o5.next hb6; have B5 := B5.trans (hb6.mono B5.size); have k0 := q1.cell 0; have k1 := q1.cell 1; have k2 := q2.cell 0; have k3 := q2.cell 1; have c0 := q3.cell 0; have c1' := q3.cell 1; have f0 := q3.frozen 0; have f1 := q3.frozen 1))
  go_wp2
  refine bodyPost_ret (results_n rfl rfl ((q3.set_ 0 _).set_ 1 _) rfl) rfl ?_
  have O := ((Only.refl (fun k => k = w.heap.size + 2) w6).setCell (p := ⟨w.heap.size + 2, 0, none⟩) (.inl rfl) (.bool false)).setCell (p := ⟨w.heap.size + 2, 1, none⟩) (.inl rfl) (.slice A5 1 c5)
  have hn5 : ∀ k, blockOf A5 k → w.heap.size + 3 ≤ k := fun k hk => by have := n5 k hk; have := hs3.out; simp at *; omega
  exact ⟨A5, c5, rfl, (reads_only o5 O (Nat.le_refl _) (fun k hk hc => by have := hn5 k hk; omega)).more O.size, fun k hk => by have := hn5 k hk; omega, B5.trans (O.below (fun k hk hc => by omega) B5.size)⟩
end Go.Proofs.YtnbikkcalcpedaaGreatDoor

/-! integer.both, Mul, Add and Pow below a billion. -/
namespace Go.Proofs.YtnbikkcalcpedaaGreatDoor
open Go.RowKit Go.Lib

set_option maxRecDepth 100000 in
set_option maxHeartbeats 4000000 in
theorem bothN_any (a b r f : Nat) (ha : a < 1000000000) (hb : b < 1000000000) (hr0 : 0 < r) (hr : r < 1000000000) (eg : ∀ args w, (callFunc f args).run Tryz.prog w = .ok (.enter f args) w)
    (HF : ∀ (A1 : Option Addr) (c1 : Nat) (A2 : Option Addr) (c2 : Nat) (W : World), Reads W W.heap.size 1 A1 (wordsN a).length (u32s (wordsN a)) → Reads W W.heap.size 1 A2 (wordsN b).length (u32s (wordsN b)) →
      Calls Tryz.prog f #[.agg #[.bool false, .slice A1 (wordsN a).length c1], .agg #[.bool false, .slice A2 (wordsN b).length c2]] W fun e w' => ∃ A c, e = .returned (.agg #[.bool false, .slice A 1 c]) ∧ Reads w' w'.heap.size 1 A 1 (u32s [r]) ∧ (∀ k, blockOf A k → W.heap.size ≤ k) ∧ Below W.heap.size W w')
    (w : World) (ht : Tab10 w) :
    Calls Tryz.prog 182 #[.string (intS a), .string (intS b), .func (.func f) #[] #[]] w fun e w' => e = .returned (.tuple #[.string (intS r), .int .i64 0]) ∧ Below w.heap.size w w' := by
  have g := Blk.new w 40 #[.string (intS a), .string (intS b)]
  have hB : Below w.heap.size w (w.alloc (.cells #[.string (intS a), .string (intS b)] 40)) := (Below.refl _ _).alloc (Nat.le_refl _) _
  have CC := Lib.hid (checked_two a b (by omega) (by omega) w.heap.size 2 _ g)
  have RA := Lib.hid (read_any a ha)
  have RB := Lib.hid (read_any b hb)
  have FC := Lib.hid HF
  have RC := Lib.hid (fun (A : Option Addr) (c : Nat) (W : World) (hB : Below w.heap.size w W) (h : Reads W W.heap.size 1 A 1 (u32s [r])) => resultNum_any r hr0 hr A c W h (ht.below hB))
  obtain ⟨s, hs⟩ : ∃ s, intS a = s := ⟨_, rfl⟩
  obtain ⟨t, htt⟩ : ∃ t, intS b = t := ⟨_, rfl⟩
  obtain ⟨u, hu⟩ : ∃ u, intS r = u := ⟨_, rfl⟩
  obtain ⟨la, hla⟩ : ∃ l, wordsN a = l := ⟨_, rfl⟩
  obtain ⟨lb, hlb⟩ : ∃ l, wordsN b = l := ⟨_, rfl⟩
  rw [hs, htt] at hB CC ⊢
  rw [hs, hla] at RA
  rw [htt, hlb] at RB
  rw [hla, hlb] at FC
  rw [hu] at RC ⊢
  clear hs htt hu ha hb hr hr0 ht g hla hlb HF
  go_enter Tryz.func182, Tryz.ntmps182
  go_wp2_with fail
  refine (CC.out).mono ?_
  rintro e w1 ⟨rfl, hb⟩
  have hB := hB.trans (hb.mono hB.size)
  clear hb
  go_wp2_with fail
  refine (RA.out _).mono ?_
  rintro e w2 ⟨A1, c1, rfl, r1, n1, hb⟩
  have hB := hB.trans (hb.mono hB.size)
  clear hb n1
  go_wp2_with fail
  refine (RB.out _).mono ?_
  rintro e w3 ⟨A2, c2, rfl, r2, n2, hb⟩
  have r1 := r1.next hb
  have hB := hB.trans (hb.mono hB.size)
  clear hb n2
  go_wp2_with fail
  refine (FC.out _ _ _ _ _ r1 r2).mono ?_
  rintro e w4 ⟨A3, c3, rfl, r3, n3, hb⟩
  have hB := hB.trans (hb.mono hB.size)
  clear hb n3 r1 r2
  go_wp2_with fail
  refine (RC.out _ _ _ hB r3).mono ?_
  rintro e w5 ⟨rfl, hb⟩
  have hB := hB.trans (hb.mono hB.size)
  clear hb
  go_wp2
  go_ret2
  exact ⟨rfl, hB⟩
set_option maxHeartbeats 1000000 in
theorem mulN_any (a b : Nat) (ha : 0 < a) (hb : 0 < b) (hab : a * b < 1000000000) (w : World) (ht : Tab10 w) :
    Calls Tryz.prog 125 #[.string (intS a), .string (intS b)] w fun e w' => e = .returned (.tuple #[.string (intS (a * b : Nat)), .int .i64 0]) ∧ Below w.heap.size w w' := by
  have hla : a ≤ a * b := Nat.le_mul_of_pos_right a hb
  have hlb : b ≤ a * b := Nat.le_mul_of_pos_left b ha
  have BC := Lib.hid (bothN_any a b (a * b) 180 (by omega) (by omega) (by omega) hab (enters_of Tryz.func180 (by kernel_rfl) rfl)
    (by rw [wordsN_pos ha, wordsN_pos hb]; exact fun A1 c1 A2 c2 W h1 h2 => product_any a b ha hb hab A1 c1 A2 c2 W h1 h2) w ht)
  obtain ⟨s, hs⟩ : ∃ s, intS a = s := ⟨_, rfl⟩
  obtain ⟨t, htt⟩ : ∃ t, intS b = t := ⟨_, rfl⟩
  obtain ⟨u, hu⟩ : ∃ u, intS (a * b : Nat) = u := ⟨_, rfl⟩
  rw [hs, htt, hu] at BC
  rw [hs, htt, hu]
  clear hs htt hu hla hlb ha hb hab ht
  go_enter Tryz.func125, Tryz.ntmps125
  go_wp2_with fail
  refine (BC.out).mono ?_
  rintro e w1 ⟨rfl, hb⟩
  go_wp2
  go_ret2
  exact ⟨rfl, hb⟩
set_option maxHeartbeats 1000000 in
theorem add_any (a b : Nat) (hb : 0 < b) (hab : a + b < 1000000000) (w : World) (ht : Tab10 w) :
    Calls Tryz.prog 126 #[.string (intS a), .string (intS b)] w fun e w' => e = .returned (.tuple #[.string (intS (a + b : Nat)), .int .i64 0]) ∧ Below w.heap.size w w' := by
  have BC := Lib.hid (bothN_any a b (a + b) 183 (by omega) (by omega) (by omega) hab (enters_of Tryz.func183 (by kernel_rfl) rfl)
    (by rw [wordsN_pos hb]; exact fun A1 c1 A2 c2 W h1 h2 => sum_any a b hb hab A1 c1 A2 c2 W h1 h2) w ht)
  obtain ⟨s, hs⟩ : ∃ s, intS a = s := ⟨_, rfl⟩
  obtain ⟨t, htt⟩ : ∃ t, intS b = t := ⟨_, rfl⟩
  obtain ⟨u, hu⟩ : ∃ u, intS (a + b : Nat) = u := ⟨_, rfl⟩
  rw [hs, htt, hu] at BC
  rw [hs, htt, hu]
  clear hs htt hu hb hab ht
  go_enter Tryz.func126, Tryz.ntmps126
  go_wp2_with fail
  refine (BC.out).mono ?_
  rintro e w1 ⟨rfl, hb⟩
  go_wp2
  go_ret2
  exact ⟨rfl, hb⟩
end Go.Proofs.YtnbikkcalcpedaaGreatDoor

