/-
  ref18.Out and MaySet; ref23.Blocking.
-/
import Derived.Test.YthbannpmfdflaaaMayP
import Derived.Test.YthbannpmfdflaaaRBurn
import Derived.Deep.RegionHeld3
namespace Go.Proofs.Ythbannpmfdflaaa
open Go.RowKit

theorem outTo_bd {N : Int} {es : List E3} (hok : ∀ e ∈ es, okE N e) (S : List Int) (v : Int) : ∀ k, 0 ≤ outTo es S v k ∧ outTo es S v k ≤ 50 * k
  | 0 => by simp [outTo]
  | k + 1 => by
    have := outTo_bd hok S v k
    have := btw_bd hok v k
    rw [outTo]
    split <;> omega
theorem mayFrom_at {es : List E3} {cs S : List Int} {n k : Nat} {v : Int} (sum : Int) (h : S[k]? = some v) :
    mayFrom es cs S n (S.drop k) sum = if cs.getD v.toNat 0 < outTo es S v n then false else mayFrom es cs S n (S.drop (k + 1)) (sum + outTo es S v n) := by
  obtain ⟨l1, e1⟩ := List.getElem?_eq_some_iff.1 h
  rw [List.drop_eq_getElem_cons l1, e1, mayFrom]

set_option maxHeartbeats 2000000 in
theorem rout_any (n : Nat) (hn12 : n ≤ 12) (A : Option Addr) (c : Nat) (es : List E3) (hn : es.length ≤ 1048576) (N : Int) (hok : ∀ e ∈ es, okE N e) (D : Option Addr) (f : Nat) (S : List Int) (hs : S.length ≤ 1048576) (v : Int) (w : World)
    (h : Reads w w.heap.size 3 A es.length (edgeCells es)) (h'' : Reads w w.heap.size 1 D S.length (ints S)) :
    Calls Try.prog 158 #[.agg #[.int .i64 n, .slice A es.length c], .slice D S.length f, .int .i64 v] w fun e w' => e = .returned (.int .i64 (outTo es S v n)) ∧ Below w.heap.size w w' := by
  have g0 := Blk.new w 24 #[.int .i64 n, .slice A es.length c]
  have hb0 : Below w.heap.size w (w.alloc (.cells #[.int .i64 n, .slice A es.length c] 24)) := (Below.refl _ _).alloc (Nat.le_refl _) _
  have HB := Lib.hid (outTo_bd hok S v)
  have BB := Lib.hid (fun k : Nat => btw_bd hok v k)
  have BC := Lib.hid (fun (k : Nat) w h => between_any n A c es hn v k w h)
  have HC := Lib.hid (fun (k : Nat) w h => holds_any D f S hs k w h)
  obtain ⟨F, hF⟩ : ∃ F, outTo es S v = F := ⟨_, rfl⟩
  have hF0 : F 0 = 0 := by rw [← hF]; rfl
  have HFS : Hid (∀ k, F (k + 1) = F k + if (k : Int) ∈ S then 0 else btw es v k) := by rw [← hF]; exact fun k => rfl
  rw [hF] at HB ⊢
  clear hF hok
  go_enter Try.func158, Try.ntmps158
  go_wp2
  go_loopw [7, 8] (fun s i wr => ∃ (k : Nat) (x : Int), k ≤ n ∧ i = .int .i64 k ∧ s = .int .i64 x ∧ Hid (x = F k) ∧ 0 ≤ x ∧ x ≤ 600 ∧ Below w.heap.size w wr ∧ Blk wr w.heap.size 24 #[.int .i64 n, .slice A es.length c]) (fun _ i _ => n - (intOf i).toNat)
  case atStart => exact ⟨0, 0, by omega, rfl, rfl, hF0.symm, by omega, by omega, hb0, g0⟩
  case round =>
    obtain ⟨k, x, hk, rfl, rfl, HX, hx0, hx1, hbel, g1⟩ := hrel
    clear hb0 g0 hF0
    have hsz := hbel.size
    have c0 := g1.cell 0
    have c1 := g1.cell 1
    by_cases hlt : k < n
    · have hi : (k : Int) < (n : Int) := by omega
      have hfs := HFS.out k
      have hbd := HB.out (k + 1)
      have HK := HC.out k wr ((h''.below hbel).more hsz)
      by_cases hm : (k : Int) ∈ S
      · rw [if_pos hm, Int.add_zero, ← HX.out] at hfs
        rw [decide_eq_true hm] at HK
        have HK := Lib.hid HK
        have HFK := Lib.hid hfs
        clear hm hfs hbd
        go_wp2_with fail
        refine (HK.out).mono ?_
        rintro e w3 ⟨rfl, rfl⟩
        go_wp2
        go_roundw
        case rel => exact ⟨k + 1, x, by omega, by go_num, rfl, HFK.out.symm, by omega, by omega, hbel, g1⟩
        case measure => simp [intOf]; omega
      · rw [if_neg hm, ← HX.out] at hfs
        rw [hfs] at hbd
        rw [decide_eq_false hm] at HK
        have HK := Lib.hid HK
        have HFK := Lib.hid hfs
        have KC := BC.out k wr ((h.below hbel).more hsz)
        obtain ⟨y, hy⟩ : ∃ y, btw es v k = y := ⟨_, rfl⟩
        rw [hy] at HFK hbd KC
        have KC := Lib.hid KC
        have hy0 := BB.out k
        rw [hy] at hy0
        have hy1 : 0 ≤ y := hy0.1
        have hy2 : y ≤ 50 := hy0.2
        have hxy : x + y ≤ 600 := by omega
        clear hm hfs hbd hy hy0
        go_wp2_with fail
        refine (HK.out).mono ?_
        rintro e w3 ⟨rfl, rfl⟩
        go_wp2_with fail
        refine (KC.out).mono ?_
        rintro e w3 ⟨rfl, hb3⟩
        go_wp2
        go_roundw
        case rel => exact ⟨k + 1, x + y, by omega, by go_num, by go_num, HFK.out.symm, by omega, by omega, hbel.trans (hb3.mono hsz), g1.next hb3⟩
        case measure => simp [intOf]; omega
    · obtain rfl : k = n := by omega
      go_wp2
      go_ret
      exact ⟨ret_int HX.out, hbel⟩

set_option maxRecDepth 100000 in
set_option maxHeartbeats 4000000 in
theorem rmayset_any (n : Nat) (hn12 : n ≤ 12) (A : Option Addr) (c : Nat) (es : List E3) (hn : es.length ≤ 1048576) (hG : RightG n es) (B : Option Addr) (d : Nat) (cs : List Int) (hcl : cs.length = n) (D : Option Addr) (f : Nat) (S : List Int) (hs : S.length ≤ 1000) (hS : ∀ v ∈ S, 0 ≤ v ∧ v < n) (w : World)
    (h : Reads w w.heap.size 3 A es.length (edgeCells es)) (h' : Reads w w.heap.size 1 B cs.length (ints cs)) (h'' : Reads w w.heap.size 1 D S.length (ints S)) :
    Calls Try.prog 130 #[.agg #[.int .i64 n, .slice A es.length c], .slice B cs.length d, .slice D S.length f] w fun e w' => e = .returned (.bool (legB es cs S)) ∧ Below w.heap.size w w' := by
  have g0 := Blk.new w 24 #[.int .i64 n, .slice A es.length c]
  have hb0 : Below w.heap.size w (w.alloc (.cells #[.int .i64 n, .slice A es.length c] 24)) := (Below.refl _ _).alloc (Nat.le_refl _) _
  have HO := Lib.hid (fun v => (outTo_bd hG.ok S v n))
  have OC := Lib.hid (fun v w h h'' => rout_any n hn12 A c es hn n hG.ok D f S (by omega) v w h h'')
  have HS := Lib.hid hS
  have HCL := Lib.hid hcl
  have HL := may_leg hG cs S
  obtain ⟨r, hr⟩ : ∃ r, legB es cs S = r := ⟨_, rfl⟩
  rw [hr] at HL ⊢
  have HM0 : Hid (r = mayFrom es cs S n (S.drop 0) 0) := HL.symm
  clear hG hr HL hcl hS
  go_enter Try.func130, Try.ntmps130
  go_wp2
  go_loopw [7, 8, 9] (fun s i _ wr => ∃ (k : Nat) (x : Int), k ≤ S.length ∧ i = .int .i64 k ∧ s = .int .i64 x ∧ Hid (r = mayFrom es cs S n (S.drop k) x) ∧ 0 ≤ x ∧ x ≤ 600 * k ∧ Below w.heap.size w wr ∧ Blk wr w.heap.size 24 #[.int .i64 n, .slice A es.length c]) (fun _ i _ _ => S.length - (intOf i).toNat)
  case atStart => exact ⟨0, 0, by omega, rfl, rfl, HM0, by omega, by omega, hb0, g0⟩
  case round =>
    obtain ⟨k, x, hk, rfl, rfl, HX, hx0, hx1, hbel, g1⟩ := hrel
    clear hb0 g0 HM0
    have hsz := hbel.size
    have c0 := g1.cell 0
    have c1 := g1.cell 1
    have hgl := g1.lt
    by_cases hlt : k < S.length
    · obtain ⟨v0, hv⟩ := get_of_lt hlt
      have hvb := HS.out v0 (List.mem_of_getElem? hv)
      obtain ⟨v, rfl⟩ := Int.eq_ofNat_of_zero_le hvb.1
      have hvn : v < n := by omega
      obtain ⟨y, hy⟩ := get_of_lt (xs := cs) (k := v) (by have := HCL.out; omega)
      obtain ⟨b, off, rfl, hb, hcell⟩ := (h''.below hbel).at_ (ints_at hv)
      obtain ⟨bc, offc, rfl, hbc, hcy⟩ := (h'.below hbel).at_ (ints_at hy)
      have hi : (k : Int) < (S.length : Int) := by omega
      have hvi : (v : Int) < (cs.length : Int) := by have := HCL.out; omega
      have hma := mayFrom_at (es := es) (cs := cs) (n := n) x hv
      rw [← HX.out, Int.toNat_natCast, getD_at hy] at hma
      have KC := Lib.hid (OC.out (v : Int))
      have hob := HO.out (v : Int)
      have RG := Lib.hid ((h.below hbel).more hsz)
      have RT := Lib.hid ((h''.below hbel).more hsz)
      obtain ⟨z, hz⟩ : ∃ z, outTo es S v n = z := ⟨_, rfl⟩
      rw [hz] at KC hob hma
      have hz0 : 0 ≤ z := hob.1
      have hz1 : z ≤ 600 := by omega
      have hxz : x + z ≤ 1000000 := by omega
      by_cases hyz : y < z
      · rw [if_pos hyz] at hma
        have HMA := Lib.hid hma
        clear hma hv hy hvb hz hob
        go_wp2
        go_region_held3 (fun W => W.cell? ⟨w.heap.size, 0, none⟩ = some (.int .i64 n) ∧ W.cell? ⟨w.heap.size, 1, none⟩ = some (.slice A es.length c) ∧ W.cell? ⟨b, off + k, none⟩ = some (.int .i64 v)) (go_keep)
          (first | (go_at_call 158; refine (KC.out _ (by exact RG.out) (by exact RT.out)).mono ?_; rintro e w5 ⟨rfl, hb5⟩
                    have k0 := (hb5.cell (p := ⟨w.heap.size, 0, none⟩) (by exact hgl)).trans c0
                    have k1 := (hb5.cell (p := ⟨w.heap.size, 1, none⟩) (by exact hgl)).trans c1
                    have k2 := (hb5.cell (p := ⟨b, off + k, none⟩) (by show b < wr.heap.size; omega)).trans hcell
                    have k3 := (hb5.cell (p := ⟨bc, offc + v, none⟩) (by show bc < wr.heap.size; omega)).trans hcy))
        all_goals (
          have hb5' : Below wr.heap.size wr w5 := (Below.refl _ _).drew.trans hb5
          go_wp2
          go_ret
          exact ⟨ret_bool HMA.out.symm, hbel.trans (hb5'.mono hsz)⟩)
      · rw [if_neg hyz] at hma
        have HMA := Lib.hid hma
        clear hma hv hy hvb hz hob
        go_wp2
        go_region_held3 (fun W => W.cell? ⟨w.heap.size, 0, none⟩ = some (.int .i64 n) ∧ W.cell? ⟨w.heap.size, 1, none⟩ = some (.slice A es.length c) ∧ W.cell? ⟨b, off + k, none⟩ = some (.int .i64 v)) (go_keep)
          (first | (go_at_call 158; refine (KC.out _ (by exact RG.out) (by exact RT.out)).mono ?_; rintro e w5 ⟨rfl, hb5⟩
                    have k0 := (hb5.cell (p := ⟨w.heap.size, 0, none⟩) (by exact hgl)).trans c0
                    have k1 := (hb5.cell (p := ⟨w.heap.size, 1, none⟩) (by exact hgl)).trans c1
                    have k2 := (hb5.cell (p := ⟨b, off + k, none⟩) (by show b < wr.heap.size; omega)).trans hcell
                    have k3 := (hb5.cell (p := ⟨bc, offc + v, none⟩) (by show bc < wr.heap.size; omega)).trans hcy))
        all_goals (
          have hb5' : Below wr.heap.size wr w5 := (Below.refl _ _).drew.trans hb5
          go_wp2
          go_roundw
          case rel => exact ⟨k + 1, x + z, by omega, by go_num, by go_num, HMA.out, by omega, by omega, hbel.trans (hb5'.mono hsz), g1.next hb5'⟩
          case measure => simp [intOf]; omega)
    · obtain rfl : k = S.length := by omega
      have hend : r = decide (0 < x) := by rw [HX.out, List.drop_length]; rfl
      have HE := Lib.hid hend
      clear hend HX
      go_wp2
      go_ret
      exact ⟨ret_bool HE.out.symm, hbel⟩

set_option maxRecDepth 100000 in
set_option maxHeartbeats 2000000 in
theorem rblocking_any (n : Nat) (hn12 : n ≤ 12) (A : Option Addr) (c : Nat) (es : List E3) (hn : es.length ≤ 1048576) (hG : RightG n es) (q : Int) (B : Option Addr) (d : Nat) (cs : List Int) (hcl : cs.length = n) (D : Option Addr) (f : Nat) (S : List Int) (hs : S.length ≤ 1000) (hS : ∀ v ∈ S, 0 ≤ v ∧ v < n) (w : World)
    (h : Reads w w.heap.size 3 A es.length (edgeCells es)) (h' : Reads w w.heap.size 1 B cs.length (ints cs)) (h'' : Reads w w.heap.size 1 D S.length (ints S)) :
    Calls Try.prog 80 #[.agg #[.int .i64 n, .slice A es.length c], .int .i64 q, .slice B cs.length d, .slice D S.length f] w fun e w' => e = .returned (.bool (legB es cs S && !decide (q ∈ S))) ∧ Below w.heap.size w w' := by
  have g0 := Blk.new w 24 #[.int .i64 n, .slice A es.length c]
  have hb0 : Below w.heap.size w (w.alloc (.cells #[.int .i64 n, .slice A es.length c] 24)) := (Below.refl _ _).alloc (Nat.le_refl _) _
  have c0 := g0.cell 0
  have c1 := g0.cell 1
  have h1 := (h.below hb0).more hb0.size
  have h2 := (h'.below hb0).more hb0.size
  have h3 := (h''.below hb0).more hb0.size
  by_cases h0 : S.length = 0
  · have hl : legB es cs S = false := by
      rw [← Bool.not_eq_true]
      exact fun hc => leg_nonempty hc (List.length_eq_zero_iff.1 h0)
    rw [hl, Bool.false_and]
    clear hl
    go_enter Try.func80, Try.ntmps80
    go_wp2
    go_ret
    exact ⟨rfl, hb0⟩
  · have hi : (0 : Int) < (S.length : Int) := by omega
    have HK := holds_any D f S (by omega) q _ h3
    have MC := Lib.hid (rmayset_any n hn12 A c es hn hG B d cs hcl D f S hs hS _ h1 h2 h3)
    by_cases hq : q ∈ S
    · rw [decide_eq_true hq] at HK ⊢
      rw [Bool.not_true, Bool.and_false]
      have HK := Lib.hid HK
      clear hq hS hcl
      go_enter Try.func80, Try.ntmps80
      go_wp2_with fail
      refine (HK.out).mono ?_
      rintro e w2 ⟨rfl, rfl⟩
      go_wp2
      go_ret
      exact ⟨rfl, hb0⟩
    · rw [decide_eq_false hq] at HK ⊢
      rw [Bool.not_false, Bool.and_true]
      have HK := Lib.hid HK
      clear hq hS hcl
      go_enter Try.func80, Try.ntmps80
      go_wp2_with fail
      refine (HK.out).mono ?_
      rintro e w2 ⟨rfl, rfl⟩
      go_wp2_with fail
      refine (MC.out).mono ?_
      rintro e w2 ⟨rfl, hb2⟩
      go_wp2
      go_ret
      exact ⟨rfl, hb0.trans (hb2.mono hb0.size)⟩
end Go.Proofs.Ythbannpmfdflaaa
