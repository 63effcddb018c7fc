/-
  Texts of this claim, put together: RBlk, RWaves, BurnE, RBurnE.
-/
import Derived.Test.YtghigdcpinengaaGreatK48
import Derived.Test.YtghigdcpinengaaGreatK42
import Derived.Deep.RegionHeld3
import Derived.Test.YtghigdcpinengaaGreatK36
import Derived.Test.YtghigdcpinengaaGreatK23
/-! ref18.Out and MaySet; ref23.Blocking. -/
namespace Go.Proofs.YtghigdcpinengaaGreat
open Go.RowKit

theorem outTo_bd {N : Int} {es : List E3} (hok : ∀ e ∈ es, okE N e) (S : List Int) (v : Int) : ∀ k, 0 ≤ outTo es S v k ∧ outTo es S v k ≤ 50 * k
  | 0 => by simp [outTo]
  | k + 1 => by
    have := outTo_bd hok S v k
    have := btw_bd hok v k
    rw [outTo]
    split <;> omega
theorem mayFrom_at {es : List E3} {cs S : List Int} {n k : Nat} {v : Int} (sum : Int) (h : S[k]? = some v) :
    mayFrom es cs S n (S.drop k) sum = if cs.getD v.toNat 0 < outTo es S v n then false else mayFrom es cs S n (S.drop (k + 1)) (sum + outTo es S v n) := by
  obtain ⟨l1, e1⟩ := List.getElem?_eq_some_iff.1 h
  rw [List.drop_eq_getElem_cons l1, e1, mayFrom]

set_option maxHeartbeats 2000000 in
theorem rout_any (n : Nat) (hn12 : n ≤ 12) (A : Option Addr) (c : Nat) (es : List E3) (hn : es.length ≤ 1048576) (N : Int) (hok : ∀ e ∈ es, okE N e) (D : Option Addr) (f : Nat) (S : List Int) (hs : S.length ≤ 1048576) (v : Int) (w : World)
    (h : Reads w w.heap.size 3 A es.length (edgeCells es)) (h'' : Reads w w.heap.size 1 D S.length (ints S)) :
    Calls Tryz.prog 126 #[.agg #[.int .i64 n, .slice A es.length c], .slice D S.length f, .int .i64 v] w fun e w' => e = .returned (.int .i64 (outTo es S v n)) ∧ Below w.heap.size w w' := by
  have g0 := Blk.new w 24 #[.int .i64 n, .slice A es.length c]
  have hb0 : Below w.heap.size w (w.alloc (.cells #[.int .i64 n, .slice A es.length c] 24)) := (Below.refl _ _).alloc (Nat.le_refl _) _
  have HB := Lib.hid (outTo_bd hok S v)
  have BB := Lib.hid (fun k : Nat => btw_bd hok v k)
  have BC := Lib.hid (fun (k : Nat) w h => between_any n A c es hn v k w h)
  have HC := Lib.hid (fun (k : Nat) w h => holds_any D f S hs k w h)
  obtain ⟨F, hF⟩ : ∃ F, outTo es S v = F := ⟨_, rfl⟩
  have hF0 : F 0 = 0 := by rw [← hF]; rfl
  have HFS : Hid (∀ k, F (k + 1) = F k + if (k : Int) ∈ S then 0 else btw es v k) := by rw [← hF]; exact fun k => rfl
  rw [hF] at HB ⊢
  clear hF hok
  go_enter Tryz.func126, Tryz.ntmps126
  go_wp2
  go_loopw [7, 8] (fun s i wr => ∃ (k : Nat) (x : Int), k ≤ n ∧ i = .int .i64 k ∧ s = .int .i64 x ∧ Hid (x = F k) ∧ 0 ≤ x ∧ x ≤ 600 ∧ Below w.heap.size w wr ∧ Blk wr w.heap.size 24 #[.int .i64 n, .slice A es.length c]) (fun _ i _ => n - (intOf i).toNat)
  case atStart => exact ⟨0, 0, by omega, rfl, rfl, hF0.symm, by omega, by omega, hb0, g0⟩
  case round =>
    obtain ⟨k, x, hk, rfl, rfl, HX, hx0, hx1, hbel, g1⟩ := hrel
    clear hb0 g0 hF0
    have hsz := hbel.size
    have c0 := g1.cell 0
    have c1 := g1.cell 1
    by_cases hlt : k < n
    · have hi : (k : Int) < (n : Int) := by omega
      have hfs := HFS.out k
      have hbd := HB.out (k + 1)
      have HK := HC.out k wr ((h''.below hbel).more hsz)
      by_cases hm : (k : Int) ∈ S
      · rw [if_pos hm, Int.add_zero, ← HX.out] at hfs
        rw [decide_eq_true hm] at HK
        have HK := Lib.hid HK
        have HFK := Lib.hid hfs
        clear hm hfs hbd
        go_wp2_with fail
        refine (HK.out).mono ?_
        rintro e w3 ⟨rfl, rfl⟩
        go_wp2
        go_roundw
        case rel => exact ⟨k + 1, x, by omega, by go_num, rfl, HFK.out.symm, by omega, by omega, hbel, g1⟩
        case measure => simp [intOf]; omega
      · rw [if_neg hm, ← HX.out] at hfs
        rw [hfs] at hbd
        rw [decide_eq_false hm] at HK
        have HK := Lib.hid HK
        have HFK := Lib.hid hfs
        have KC := BC.out k wr ((h.below hbel).more hsz)
        obtain ⟨y, hy⟩ : ∃ y, btw es v k = y := ⟨_, rfl⟩
        rw [hy] at HFK hbd KC
        have KC := Lib.hid KC
        have hy0 := BB.out k
        rw [hy] at hy0
        have hy1 : 0 ≤ y := hy0.1
        have hy2 : y ≤ 50 := hy0.2
        have hxy : x + y ≤ 600 := by omega
        clear hm hfs hbd hy hy0
        go_wp2_with fail
        refine (HK.out).mono ?_
        rintro e w3 ⟨rfl, rfl⟩
        go_wp2_with fail
        refine (KC.out).mono ?_
        rintro e w3 ⟨rfl, hb3⟩
        go_wp2
        go_roundw
        case rel => exact ⟨k + 1, x + y, by omega, by go_num, by go_num, HFK.out.symm, by omega, by omega, hbel.trans (hb3.mono hsz), g1.next hb3⟩
        case measure => simp [intOf]; omega
    · obtain rfl : k = n := by omega
      go_wp2
      go_ret
      exact ⟨ret_int HX.out, hbel⟩

set_option maxRecDepth 100000 in
set_option maxHeartbeats 4000000 in
theorem rmayset_any (n : Nat) (hn12 : n ≤ 12) (A : Option Addr) (c : Nat) (es : List E3) (hn : es.length ≤ 1048576) (hG : RightG n es) (B : Option Addr) (d : Nat) (cs : List Int) (hcl : cs.length = n) (D : Option Addr) (f : Nat) (S : List Int) (hs : S.length ≤ 1000) (hS : ∀ v ∈ S, 0 ≤ v ∧ v < n) (w : World)
    (h : Reads w w.heap.size 3 A es.length (edgeCells es)) (h' : Reads w w.heap.size 1 B cs.length (ints cs)) (h'' : Reads w w.heap.size 1 D S.length (ints S)) :
    Calls Tryz.prog 97 #[.agg #[.int .i64 n, .slice A es.length c], .slice B cs.length d, .slice D S.length f] w fun e w' => e = .returned (.bool (legB es cs S)) ∧ Below w.heap.size w w' := by
  have g0 := Blk.new w 24 #[.int .i64 n, .slice A es.length c]
  have hb0 : Below w.heap.size w (w.alloc (.cells #[.int .i64 n, .slice A es.length c] 24)) := (Below.refl _ _).alloc (Nat.le_refl _) _
  have HO := Lib.hid (fun v => (outTo_bd hG.ok S v n))
  have OC := Lib.hid (fun v w h h'' => rout_any n hn12 A c es hn n hG.ok D f S (by omega) v w h h'')
  have HS := Lib.hid hS
  have HCL := Lib.hid hcl
  have HL := may_leg hG cs S
  obtain ⟨r, hr⟩ : ∃ r, legB es cs S = r := ⟨_, rfl⟩
  rw [hr] at HL ⊢
  have HM0 : Hid (r = mayFrom es cs S n (S.drop 0) 0) := HL.symm
  clear hG hr HL hcl hS
  go_enter Tryz.func97, Tryz.ntmps97
  go_wp2
  go_loopw [7, 8, 9] (fun s i _ wr => ∃ (k : Nat) (x : Int), k ≤ S.length ∧ i = .int .i64 k ∧ s = .int .i64 x ∧ Hid (r = mayFrom es cs S n (S.drop k) x) ∧ 0 ≤ x ∧ x ≤ 600 * k ∧ Below w.heap.size w wr ∧ Blk wr w.heap.size 24 #[.int .i64 n, .slice A es.length c]) (fun _ i _ _ => S.length - (intOf i).toNat)
  case atStart => exact ⟨0, 0, by omega, rfl, rfl, HM0, by omega, by omega, hb0, g0⟩
  case round =>
    obtain ⟨k, x, hk, rfl, rfl, HX, hx0, hx1, hbel, g1⟩ := hrel
    clear hb0 g0 HM0
    have hsz := hbel.size
    have c0 := g1.cell 0
    have c1 := g1.cell 1
    have hgl := g1.lt
    by_cases hlt : k < S.length
    · obtain ⟨v0, hv⟩ := get_of_lt hlt
      have hvb := HS.out v0 (List.mem_of_getElem? hv)
      obtain ⟨v, rfl⟩ := Int.eq_ofNat_of_zero_le hvb.1
      have hvn : v < n := by omega
      obtain ⟨y, hy⟩ := get_of_lt (xs := cs) (k := v) (by have := HCL.out; omega)
      obtain ⟨b, off, rfl, hb, hcell⟩ := (h''.below hbel).at_ (ints_at hv)
      obtain ⟨bc, offc, rfl, hbc, hcy⟩ := (h'.below hbel).at_ (ints_at hy)
      have hi : (k : Int) < (S.length : Int) := by omega
      have hvi : (v : Int) < (cs.length : Int) := by have := HCL.out; omega
      have hma := mayFrom_at (es := es) (cs := cs) (n := n) x hv
      rw [← HX.out, Int.toNat_natCast, getD_at hy] at hma
      have KC := Lib.hid (OC.out (v : Int))
      have hob := HO.out (v : Int)
      have RG := Lib.hid ((h.below hbel).more hsz)
      have RT := Lib.hid ((h''.below hbel).more hsz)
      obtain ⟨z, hz⟩ : ∃ z, outTo es S v n = z := ⟨_, rfl⟩
      rw [hz] at KC hob hma
      have hz0 : 0 ≤ z := hob.1
      have hz1 : z ≤ 600 := by omega
      have hxz : x + z ≤ 1000000 := by omega
      by_cases hyz : y < z
      · rw [if_pos hyz] at hma
        have HMA := Lib.hid hma
        clear hma hv hy hvb hz hob
        go_wp2
        go_region_held3 (fun W => W.cell? ⟨w.heap.size, 0, none⟩ = some (.int .i64 n) ∧ W.cell? ⟨w.heap.size, 1, none⟩ = some (.slice A es.length c) ∧ W.cell? ⟨b, off + k, none⟩ = some (.int .i64 v)) (go_keep)
          (first | (go_at_call 126; refine (KC.out _ (by exact RG.out) (by exact RT.out)).mono ?_; rintro e w5 ⟨rfl, hb5⟩
                    have k0 := (hb5.cell (p := ⟨w.heap.size, 0, none⟩) (by exact hgl)).trans c0
                    have k1 := (hb5.cell (p := ⟨w.heap.size, 1, none⟩) (by exact hgl)).trans c1
                    have k2 := (hb5.cell (p := ⟨b, off + k, none⟩) (by show b < wr.heap.size; omega)).trans hcell
                    have k3 := (hb5.cell (p := ⟨bc, offc + v, none⟩) (by show bc < wr.heap.size; omega)).trans hcy))
        all_goals (
          have hb5' : Below wr.heap.size wr w5 := (Below.refl _ _).drew.trans hb5
          go_wp2
          go_ret
          exact ⟨ret_bool HMA.out.symm, hbel.trans (hb5'.mono hsz)⟩)
      · rw [if_neg hyz] at hma
        have HMA := Lib.hid hma
        clear hma hv hy hvb hz hob
        go_wp2
        go_region_held3 (fun W => W.cell? ⟨w.heap.size, 0, none⟩ = some (.int .i64 n) ∧ W.cell? ⟨w.heap.size, 1, none⟩ = some (.slice A es.length c) ∧ W.cell? ⟨b, off + k, none⟩ = some (.int .i64 v)) (go_keep)
          (first | (go_at_call 126; refine (KC.out _ (by exact RG.out) (by exact RT.out)).mono ?_; rintro e w5 ⟨rfl, hb5⟩
                    have k0 := (hb5.cell (p := ⟨w.heap.size, 0, none⟩) (by exact hgl)).trans c0
                    have k1 := (hb5.cell (p := ⟨w.heap.size, 1, none⟩) (by exact hgl)).trans c1
                    have k2 := (hb5.cell (p := ⟨b, off + k, none⟩) (by show b < wr.heap.size; omega)).trans hcell
                    have k3 := (hb5.cell (p := ⟨bc, offc + v, none⟩) (by show bc < wr.heap.size; omega)).trans hcy))
        all_goals (
          have hb5' : Below wr.heap.size wr w5 := (Below.refl _ _).drew.trans hb5
          go_wp2
          go_roundw
          case rel => exact ⟨k + 1, x + z, by omega, by go_num, by go_num, HMA.out, by omega, by omega, hbel.trans (hb5'.mono hsz), g1.next hb5'⟩
          case measure => simp [intOf]; omega)
    · obtain rfl : k = S.length := by omega
      have hend : r = decide (0 < x) := by rw [HX.out, List.drop_length]; rfl
      have HE := Lib.hid hend
      clear hend HX
      go_wp2
      go_ret
      exact ⟨ret_bool HE.out.symm, hbel⟩

set_option maxRecDepth 100000 in
set_option maxHeartbeats 2000000 in
theorem rblocking_any (n : Nat) (hn12 : n ≤ 12) (A : Option Addr) (c : Nat) (es : List E3) (hn : es.length ≤ 1048576) (hG : RightG n es) (q : Int) (B : Option Addr) (d : Nat) (cs : List Int) (hcl : cs.length = n) (D : Option Addr) (f : Nat) (S : List Int) (hs : S.length ≤ 1000) (hS : ∀ v ∈ S, 0 ≤ v ∧ v < n) (w : World)
    (h : Reads w w.heap.size 3 A es.length (edgeCells es)) (h' : Reads w w.heap.size 1 B cs.length (ints cs)) (h'' : Reads w w.heap.size 1 D S.length (ints S)) :
    Calls Tryz.prog 68 #[.agg #[.int .i64 n, .slice A es.length c], .int .i64 q, .slice B cs.length d, .slice D S.length f] w fun e w' => e = .returned (.bool (legB es cs S && !decide (q ∈ S))) ∧ Below w.heap.size w w' := by
  have g0 := Blk.new w 24 #[.int .i64 n, .slice A es.length c]
  have hb0 : Below w.heap.size w (w.alloc (.cells #[.int .i64 n, .slice A es.length c] 24)) := (Below.refl _ _).alloc (Nat.le_refl _) _
  have c0 := g0.cell 0
  have c1 := g0.cell 1
  have h1 := (h.below hb0).more hb0.size
  have h2 := (h'.below hb0).more hb0.size
  have h3 := (h''.below hb0).more hb0.size
  by_cases h0 : S.length = 0
  · have hl : legB es cs S = false := by
      rw [← Bool.not_eq_true]
      exact fun hc => leg_nonempty hc (List.length_eq_zero_iff.1 h0)
    rw [hl, Bool.false_and]
    clear hl
    go_enter Tryz.func68, Tryz.ntmps68
    go_wp2
    go_ret
    exact ⟨rfl, hb0⟩
  · have hi : (0 : Int) < (S.length : Int) := by omega
    have HK := holds_any D f S (by omega) q _ h3
    have MC := Lib.hid (rmayset_any n hn12 A c es hn hG B d cs hcl D f S hs hS _ h1 h2 h3)
    by_cases hq : q ∈ S
    · rw [decide_eq_true hq] at HK ⊢
      rw [Bool.not_true, Bool.and_false]
      have HK := Lib.hid HK
      clear hq hS hcl
      go_enter Tryz.func68, Tryz.ntmps68
      go_wp2_with fail
      refine (HK.out).mono ?_
      rintro e w2 ⟨rfl, rfl⟩
      go_wp2
      go_ret
      exact ⟨rfl, hb0⟩
    · rw [decide_eq_false hq] at HK ⊢
      rw [Bool.not_false, Bool.and_true]
      have HK := Lib.hid HK
      clear hq hS hcl
      go_enter Tryz.func68, Tryz.ntmps68
      go_wp2_with fail
      refine (HK.out).mono ?_
      rintro e w2 ⟨rfl, rfl⟩
      go_wp2_with fail
      refine (MC.out).mono ?_
      rintro e w2 ⟨rfl, hb2⟩
      go_wp2
      go_ret
      exact ⟨rfl, hb0.trans (hb2.mono hb0.size)⟩
end Go.Proofs.YtghigdcpinengaaGreat

/-! ref23.Rounds, Waves, Is, Superstable, Burn. -/
namespace Go.Proofs.YtghigdcpinengaaGreat
open Go.RowKit

end Go.Proofs.YtghigdcpinengaaGreat

/-! burning.Waves with its errors. -/
namespace Go.Proofs.YtghigdcpinengaaGreat
open Go.RowKit Go.Shelf

end Go.Proofs.YtghigdcpinengaaGreat

/-! ref23.Waves, Is, Superstable, Burn. -/
namespace Go.Proofs.YtghigdcpinengaaGreat
open Go.RowKit

set_option maxRecDepth 100000 in
set_option maxHeartbeats 4000000 in
theorem ris_any (n : Nat) (hn6 : n ≤ 6) (A : Option Addr) (c : Nat) (es : List E3) (hn : es.length ≤ 1048576) (hG : RightG n es) (q : Int) (B : Option Addr) (d : Nat) (cs : List Int) (hcl : cs.length = n) (w : World)
    (h : Reads w w.heap.size 3 A es.length (edgeCells es)) (h' : Reads w w.heap.size 1 B cs.length (ints cs)) :
    Calls Tryz.prog 36 #[.agg #[.int .i64 n, .slice A es.length c], .int .i64 q, .slice B cs.length d] w fun e w' => e = .returned (.bool (!((subsL n (2 ^ n)).any fun S => bloB es q cs S))) ∧ Below w.heap.size w w' := by
  have g0 := Blk.new w 24 #[.int .i64 n, .slice A es.length c]
  have hb0 : Below w.heap.size w (w.alloc (.cells #[.int .i64 n, .slice A es.length c] 24)) := (Below.refl _ _).alloc (Nat.le_refl _) _
  have c0 := g0.cell 0
  have c1 := g0.cell 1
  have SC := Lib.hid (fun w => subsets_any n hn6 A c es.length w)
  have KC : Hid (∀ (k : Nat) (D : Option Addr) (f : Nat) (S : List Int) (w : World), natsI (bitsL n k) = S → Reads w w.heap.size 3 A es.length (edgeCells es) → Reads w w.heap.size 1 B cs.length (ints cs) → Reads w w.heap.size 1 D S.length (ints S) →
      Calls Tryz.prog 68 #[.agg #[.int .i64 n, .slice A es.length c], .int .i64 q, .slice B cs.length d, .slice D S.length f] w fun e w' => e = .returned (.bool (bloB es q cs S)) ∧ Below w.heap.size w w') := by
    intro k D f S w hS h h' h''
    have hl : (natsI (bitsL n k)).length ≤ 1000 := by rw [natsI_length]; have := bitsL_length n k; omega
    refine rblocking_any n (by omega) A c es hn hG q B d cs hcl D f S (by rw [← hS]; exact hl) (fun v hv => ?_) w h h' h''
    rw [← hS] at hv
    obtain ⟨u, hu, rfl⟩ := List.mem_map.1 hv
    have := bits_lt u hu
    omega
  have hmm := Nat.le_trans (Nat.pow_le_pow_right (n := 2) (by omega) hn6) (show 2 ^ 6 ≤ 64 by decide)
  have HR : Hid (∀ k, ((subsL n (2 ^ n)).take (k + 1)).any (fun S => bloB es q cs S) = (((subsL n (2 ^ n)).take k).any (fun S => bloB es q cs S) || (if k < 2 ^ n then bloB es q cs (natsI (bitsL n k)) else false))) := by
    intro k
    by_cases hk : k < 2 ^ n
    · have hx : (subsL n (2 ^ n))[k]? = some (natsI (bitsL n k)) := by unfold subsL; rw [List.getElem?_map, List.getElem?_range hk]; rfl
      rw [take_snoc hx, List.any_append, if_pos hk]; simp
    · rw [if_neg hk, List.take_of_length_le (by rw [subsL_length]; omega), List.take_of_length_le (by rw [subsL_length]; omega), Bool.or_false]
  obtain ⟨P, hP⟩ : ∃ P : Nat → Bool, ∀ k, ((subsL n (2 ^ n)).take k).any (fun S => bloB es q cs S) = P k := ⟨_, fun _ => rfl⟩
  have hP0 : P 0 = false := by rw [← hP]; rfl
  have hPe : ((subsL n (2 ^ n)).any fun S => bloB es q cs S) = P (2 ^ n) := by rw [← hP, List.take_of_length_le (by rw [subsL_length]; omega)]
  simp only [hP] at HR
  rw [hPe]
  have hmono : ∀ j k, j ≤ k → P j = true → P k = true := by
    intro j k hjk hj
    induction hjk with
    | refl => exact hj
    | step _ ih => rw [HR.out, ih]; rfl
  have HMO := Lib.hid hmono
  clear hG hcl hP hPe hmono
  go_enter Tryz.func36, Tryz.ntmps36
  go_wp2_with fail
  refine (SC.out _).mono ?_
  rintro e w4 ⟨A4, c4, vs, rfl, o4, hb4⟩
  have g4 := g0.next hb4
  have hB4 := hb0.trans (hb4.mono hb0.size)
  have r4 := o4.reads
  clear g0 hb0 hb4 o4 c0 c1
  obtain ⟨M, hM⟩ : ∃ M, 2 ^ n = M := ⟨_, rfl⟩
  rw [hM] at r4 hmm HR ⊢
  have HM := Lib.hid hM
  clear hM
  have HP0 := Lib.hid hP0
  clear hP0
  go_wp2
  go_loopw [8] (fun i wr => ∃ k : Nat, k ≤ M ∧ i = .int .i64 k ∧ Hid (P k = false) ∧ Below w.heap.size w wr ∧ Blk wr w.heap.size 24 #[.int .i64 n, .slice A es.length c] ∧ RowsR wr wr.heap.size A4 (subsL n M)) (fun i _ => M - (intOf i).toNat)
  case atStart => exact ⟨0, by omega, rfl, HP0.out, hB4, g4, r4⟩
  case round =>
    obtain ⟨k, hk, rfl, HPk, hbel, g5, r5⟩ := hrel
    clear hB4 g4 r4 HP0
    have hsz := hbel.size
    by_cases hlt : k < M
    · have hx : (subsL n M)[k]? = some (natsI (bitsL n k)) := by unfold subsL; rw [List.getElem?_map, List.getElem?_range hlt]; rfl
      obtain ⟨b, off, A', c', rfl, hb, hcell, hrd⟩ := r5.at_ hx
      have hPn := HR.out k
      rw [if_pos hlt, HPk.out, Bool.false_or] at hPn
      obtain ⟨S, hS⟩ : ∃ S, natsI (bitsL n k) = S := ⟨_, rfl⟩
      rw [hS] at hcell hrd hPn
      have KS := Lib.hid (fun W r1 r2 r3 => KC.out k A' c' S W hS r1 r2 r3)
      have RG := Lib.hid ((h.below hbel).more hsz)
      have RD := Lib.hid ((h'.below hbel).more hsz)
      have RS := Lib.hid hrd
      have hi : (k : Int) < (M : Int) := by omega
      have c0 := g5.cell 0
      have c1 := g5.cell 1
      have hgl := g5.lt
      have hSl : (subsL n M).length = M := subsL_length n M
      have hsli : (k : Int) < ((subsL n M).length : Int) := by omega
      obtain ⟨z, hz⟩ : ∃ z, bloB es q cs S = z := ⟨_, rfl⟩
      rw [hz] at KS hPn
      have HPN := Lib.hid hPn
      clear hx hS hrd hz hPn
      go_wp2
      go_region_held3 (fun W => W.cell? ⟨w.heap.size, 0, none⟩ = some (.int .i64 n) ∧ W.cell? ⟨w.heap.size, 1, none⟩ = some (.slice A es.length c) ∧ W.cell? ⟨b, off + k, none⟩ = some (.slice A' S.length c')) (go_keep)
        (first | (go_at_call 68; refine (KS.out _ (by exact RG.out) (by exact RD.out) (by exact RS.out)).mono ?_; rintro e w5 ⟨rfl, hb5⟩
                  have k0 := (hb5.cell (p := ⟨w.heap.size, 0, none⟩) (by exact hgl)).trans c0
                  have k1 := (hb5.cell (p := ⟨w.heap.size, 1, none⟩) (by exact hgl)).trans c1
                  have k2 := (hb5.cell (p := ⟨b, off + k, none⟩) (by show b < wr.heap.size; omega)).trans hcell))
      all_goals (
        have hb5' : Below wr.heap.size wr w5 := (Below.refl _ _).drew.trans hb5
        cases z
        · go_wp2
          go_roundw
          case rel => exact ⟨k + 1, by omega, by go_num, HPN.out, hbel.trans (hb5'.mono hsz), g5.next hb5', r5.next hb5'⟩
          case measure => simp [intOf]; omega
        · go_wp2
          go_ret
          exact ⟨ret_bool (by rw [HM.out, HMO.out (k + 1) M (by omega) HPN.out]; rfl), hbel.trans (hb5'.mono hsz)⟩)
    · obtain rfl : k = M := by omega
      go_wp2
      go_ret
      exact ⟨ret_bool (by rw [HM.out, HPk.out]; rfl), hbel⟩

end Go.Proofs.YtghigdcpinengaaGreat

