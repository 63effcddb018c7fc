/-
  For every list of ints the law ParkingBurns answers true: preferences are a parking function exactly if they are a superstable configuration of the complete graph. There are no conditions.
-/
import Derived.Test.YtjeggocindcgaaaLaw
import Derived.Test.YtjeggocindcgaaaAwake
import Derived.Test.YtjeggocindcgaaaSuper
import Derived.Test.YtjeggocindcgaaaBurnsP
import Derived.Test.YtjeggocindcgaaaGSame
import Derived.Test.YtjeggocindcgaaaDEqual
namespace Go.Proofs.Ytjeggocindcgaaa
open Go.RowKit

theorem pburns_bad (w : World) (A : Option Addr) (c : Nat) (xs : List Int) (hbad : (withinS xs 0 != 0) = true) (h : Reads w w.heap.size 1 A xs.length (ints xs)) :
    Calls Try.prog 8 #[.slice A xs.length c] w fun e w' => e = .returned (.bool true) ∧ Below w.heap.size w w' := by
  go_enter Try.func8, Try.ntmps8
  go_wp2_with first
    | (go_at_call 25; refine (rcheck_any A c xs _ h).mono ?_; rintro e w' ⟨rfl, rfl⟩)
    | (go_at_call 11; refine (awake_any _).mono ?_; rintro e w' ⟨rfl, hb⟩)
  go_ret
  exact ⟨rfl, hb⟩

theorem compl_burnErr {xs : List Int} (hn : 1 ≤ xs.length) (hn12 : xs.length < 12) (hx : ∀ x ∈ xs, 0 ≤ x ∧ x < xs.length) : burnErr ((xs.length + 1 : Nat) : Int) (compl (xs.length + 1)) ((0 : Nat) : Int) (0 :: xs) = 0 := by
  have h1 := compl_ok (xs.length + 1) (by omega) (by omega)
  have hG := right_of h1
  have h2 : connB (xs.length + 1) (compl (xs.length + 1)) = true := by
    rw [connB_iff hG]
    intro v hv
    rcases Nat.eq_zero_or_pos v with h0 | h0
    · subst h0; exact .refl
    · refine Conn.refl.step ((adj_btw hG 0 v).1 ?_)
      rw [compl_btw (xs.length + 1) (by omega) 0 (by omega) v hv, if_neg (by omega)]
      omega
  have h3 : rootErr ((xs.length + 1 : Nat) : Int) (compl (xs.length + 1)) ((0 : Nat) : Int) = 0 := by
    unfold rootErr
    rw [h1, Int.toNat_natCast, h2]
    simp [vertB]
  have h4 : divErr (0 :: xs) ((xs.length + 1 : Nat) : Int) = 0 := by
    unfold divErr
    rw [if_neg (by omega), if_neg (by simp), if_pos]
    rw [List.all_eq_true]
    intro x hx'
    rw [chipB_true]
    rcases List.mem_cons.1 hx' with rfl | hx'
    · omega
    · have := hx x hx'; omega
  have h5 : debtTo (0 :: xs) ((0 : Nat) : Int) (0 :: xs).length = false := by
    unfold debtTo
    rw [List.any_eq_false]
    intro v hv
    rw [List.mem_range] at hv
    obtain ⟨x, hx'⟩ := get_of_lt hv
    rw [getD_at hx']
    have hm := List.mem_of_getElem? hx'
    have : 0 ≤ x := by
      rcases List.mem_cons.1 hm with rfl | hm
      · omega
      · exact (hx x hm).1
    simp
    intro _
    exact this
  unfold burnErr confErr
  rw [h3, h4, h5]
  rfl

set_option maxRecDepth 100000 in
set_option maxHeartbeats 4000000 in
theorem pburns_ok (w : World) (A : Option Addr) (c : Nat) (xs : List Int) (hok : withinS xs 0 = 0) (h : Reads w w.heap.size 1 A xs.length (ints xs)) :
    Calls Try.prog 8 #[.slice A xs.length c] w fun e w' => e = .returned (.bool true) ∧ Below w.heap.size w w' := by
  obtain ⟨hn, hx⟩ := within_zero hok
  have hn1 : 1 ≤ xs.length := by omega
  have hck := rcheck_any A c xs w h
  rw [hok] at hck
  have HCK := Lib.hid hck
  have HX := Lib.hid hx
  have HOK := Lib.hid hok
  clear hck hx hok
  go_enter Try.func8, Try.ntmps8
  go_wp2_with (go_at_call 25; refine (HCK.out).mono ?_; rintro e w' ⟨rfl, rfl⟩)
  go_loopw [25] (fun i wr => ∃ (a : Nat) (A' : Option Addr) (c' : Nat), a ≤ xs.length + 1 ∧ i = .int .i64 a ∧ Blk wr w.heap.size 52 #[.int .i64 ((xs.length : Int) + 1), .slice A' (complTo (xs.length + 1) a).length c'] ∧
    OwnE wr w.heap.size A' c' (complTo (xs.length + 1) a) ∧ Below w.heap.size w wr) (fun i _ => xs.length + 1 - (intOf i).toNat)
  case atStart => exact ⟨0, none, 0, by omega, rfl, Blk.new _ _ _, OwnE.nil_ _ _, (Below.refl _ _).alloc (Nat.le_refl _) _⟩
  case round =>
    obtain ⟨a, A', c', ha, rfl, g1, hown, hbel⟩ := hrel
    have hz2 := hbel.size
    by_cases hlt : a < xs.length + 1
    · have hi : (a : Int) < (xs.length : Int) + 1 := by omega
      obtain ⟨wo, rfl⟩ : ∃ wo : World, wo = wr := ⟨_, rfl⟩
      go_wp2
      go_loopw [6] (fun i wr => ∃ (b : Nat) (A' : Option Addr) (c' : Nat), a + 1 ≤ b ∧ b ≤ xs.length + 1 ∧ i = .int .i64 b ∧ Blk wr w.heap.size 52 #[.int .i64 ((xs.length : Int) + 1), .slice A' (complTo (xs.length + 1) a ++ rowTo a b).length c'] ∧
        OwnE wr w.heap.size A' c' (complTo (xs.length + 1) a ++ rowTo a b) ∧ Below w.heap.size w wr) (fun i _ => xs.length + 1 - (intOf i).toNat)
      case atStart =>
        refine ⟨a + 1, A', c', by omega, by omega, by go_num, ?_, ?_, hbel⟩
        · rw [rowTo_none (Nat.le_refl _), List.append_nil]; exact g1
        · rw [rowTo_none (Nat.le_refl _), List.append_nil]; exact hown
      case round =>
        clear g1 hown hbel hz2
        obtain ⟨b, A', c', hab, hb, rfl, g1, hown, hbel⟩ := hrel
        have q1 := g1.cell 1
        have hz2 := hbel.size
        have hlen := complTo_length (xs.length + 1) a
        have hlen2 := rowTo_length a b
        have hl13 : (complTo (xs.length + 1) a ++ rowTo a b).length ≤ 1048000 := by
          have : a * (xs.length + 1) ≤ 12 * 12 := Nat.mul_le_mul (by omega) (by omega)
          rw [List.length_append]; omega
        clear hlen hlen2
        obtain ⟨es, hes⟩ : ∃ es, complTo (xs.length + 1) a ++ rowTo a b = es := ⟨_, rfl⟩
        rw [hes] at g1 hown hl13 q1
        have HES := Lib.hid hes
        clear hes
        by_cases hlt2 : b < xs.length + 1
        · have hi2 : (b : Int) ≤ (xs.length : Int) := by omega
          go_wp2_with (at_builtin; refine push_edge rfl (.tmp 36) (.tmp 40) _ rfl Try.underlying50 w.heap.size A' c' es a b 1 rfl hown rfl rfl hl13 hz2 ?_; intro A3 c3 w3 hown3 hg3 hb3; have g3 := (g1.alloc _).grown hg3 (own_blk_ne hown g1 (by decide)); have p1 := g3.cell 1; have f3 := g3.frozen)
          have HR : complTo (xs.length + 1) a ++ rowTo a (b + 1) = es ++ [((a : Int), (b : Int), (1 : Int))] := by rw [rowTo_succ hab, ← List.append_assoc, HES.out]
          have HR := Lib.hid HR
          go_roundw
          case rel =>
            refine ⟨b + 1, A3, c3, by omega, by omega, by go_num, ?_, ?_, ?_⟩
            · rw [HR.out, List.length_append]; exact g3.set_ 1 _
            · rw [HR.out]; exact hown3.set_blk g3 (by decide) 1 _
            · exact (hbel.trans hb3).setCell (Nat.le_refl _) _
          case measure => simp [intOf]; omega
        · have hi2 : ¬ (b : Int) ≤ (xs.length : Int) := by omega
          go_wp2
          have HR : es = complTo (xs.length + 1) (a + 1) := by rw [complTo_succ, ← HES.out, show b = xs.length + 1 from by omega]
          have HR := Lib.hid HR
          go_roundw
          case rel =>
            refine ⟨a + 1, A', c', by omega, by go_num, ?_, ?_, hbel⟩
            · rw [← HR.out]; exact g1
            · rw [← HR.out]; exact hown
          case measure => simp [intOf]; omega
    · have hi : ¬ (a : Int) < (xs.length : Int) + 1 := by omega
      obtain rfl : a = xs.length + 1 := by omega
      have hl13 : (complTo (xs.length + 1) (xs.length + 1)).length ≤ 1048000 := by
        have := complTo_length (xs.length + 1) (xs.length + 1)
        have : (xs.length + 1) * (xs.length + 1) ≤ 12 * 12 := Nat.mul_le_mul (by omega) (by omega)
        omega
      have hbe := compl_burnErr hn1 (by omega) HX.out
      have hbi := burns_iff hn1 (by omega)
      have hpi := parked_iff (xs := xs) (by omega) (fun x hx' => by have := HX.out x hx'; omega)
      have hcg := fun w h => pconfig_ok A c xs (w := w) (h := h)
      have hcb := fun w hb h => pconfig_bad A c xs hb w h
      have hcomp : compl (xs.length + 1) = complTo (xs.length + 1) (xs.length + 1) := rfl
      rw [hcomp] at hbe hbi hcg
      obtain ⟨es, hes⟩ : ∃ es, complTo (xs.length + 1) (xs.length + 1) = es := ⟨_, rfl⟩
      rw [hes] at g1 hown hl13 hbe hbi hcg
      clear hes hcomp
      have SC := fun A4 c4 w h h' => superstable_ok (xs.length + 1) A' c' es (by omega) 0 A4 c4 (0 :: xs) (by simp; omega) hbe w h h'
      rw [show ((xs.length + 1 : Nat) : Int) = (xs.length : Int) + 1 from by omega, show ((0 : Nat) : Int) = 0 from rfl] at SC
      have hdd : decide (restL (xs.length + 1) (burntL es (0 :: xs) (xs.length + 1) 0) = []) = isR xs := by rw [Bool.eq_iff_iff, ← hbi]; simp
      have hdp : decide ((parkedS xs).length = xs.length) = isR xs := by rw [Bool.eq_iff_iff, ← hpi]; simp
      have htk : (takenS xs).2 = if isR xs = true then 0 else 15 := by
        unfold takenS
        rw [if_pos HOK.out]
        by_cases hr : isR xs = true
        · rw [if_pos (hpi.2 hr), if_pos hr]
        · rw [if_neg (fun e => hr (hpi.1 e)), if_neg hr]
      have IC := fun w h => is_ok A c xs HOK.out w h
      simp only [hdd] at SC
      simp only [hdp] at IC
      obtain ⟨r, hr⟩ : ∃ r, isR xs = r := ⟨_, rfl⟩
      rw [hr] at SC IC htk
      have SC := Lib.hid SC
      have IC := Lib.hid IC
      have TK := Lib.hid htk
      have CG := Lib.hid hcg
      have CB := Lib.hid hcb
      have hr2 := h.below hbel
      have hown0 : (wr.alloc (.cells #[.int .i64 0] 3)).ownsRow wr.heap.size 3 1 (.slice (some ⟨wr.heap.size, 0, none⟩) 1 1) 1 [.int .i64 0] := OwnI.of_blk (l := [0]) (Blk.new wr 3 (intCells [0])) (Nat.le_refl _) (by decide)
      have hr3 : Reads (wr.alloc (.cells #[.int .i64 0] 3)) w.heap.size 1 A xs.length (ints xs) := hr2.below ((Below.refl _ _).alloc (by omega) _)
      have hl4 : 1 + xs.length ≤ 1048576 := by omega
      have hz4 : wr.heap.size ≤ (wr.alloc (.cells #[.int .i64 0] 3)).heap.size := by simp
      clear hbe hbi hpi hcg hcb hdd hdp hr htk
      go_wp2_with (at_builtin; refine append_go2 rfl (.tmp 44) (.tmp 45) _ _ rfl wr.heap.size 3 3 Try.underlying53 Try.underlying22 info_int rfl (by omega) (some ⟨wr.heap.size, 0, none⟩) 1 1 [.int .i64 0] rfl hown0 w.heap.size (ints xs) rfl hr3 ints_one hl4 hz4 ?_; intro A4 c4 w4 hown4 hg4 hb4 _; rw [Nat.add_comm 1 xs.length] at hown4 ⊢)
      have gB : Below wr.heap.size wr w4 := ((Below.refl _ _).alloc (Nat.le_refl _) _).trans ⟨hb4.os, hb4.tape, hb4.output, hb4.size, hb4.block⟩
      have hI : OwnI w4 wr.heap.size A4 c4 (0 :: xs) := hown4
      have g4 := g1.next gB
      have hE4 := hown.next gB
      have hB4 : Below w.heap.size w w4 := hbel.trans (gB.mono hz2)
      have hr4 := (h.below hB4).more hB4.size
      clear hown4 hg4 hb4 hown0 hr3 g1 hown hr2 hz4
      refine (IC.out w4 hr4).mono ?_
      rintro e w5 ⟨rfl, b5⟩
      have g5 := g4.next b5
      have q0 := g5.cell 0
      have q1 := g5.cell 1
      have hI5 := hI.next b5
      have hE5 := hE4.next b5
      have hB5 := hB4.trans (b5.mono hB4.size)
      go_wp2_with fail
      refine (SC.out A4 c4 w5 hE5.reads hI5.reads).mono ?_
      rintro e w6 ⟨rfl, b6⟩
      have g6 := g5.next b6
      have hI6 := hI5.next b6
      have hE6 := hE5.next b6
      have hB6 := hB5.trans (b6.mono hB5.size)
      have hr6 := (h.below hB6).more hB6.size
      clear g4 g5 q0 q1 hI hE4 hI5 hE5 hr4 hB4 hB5
      cases r
      · have TK2 : (takenS xs).2 = 15 := by simpa using TK.out
        have CB2 := CB.out w6 (by rw [TK2]; rfl) hr6
        rw [TK2] at CB2
        have CB2 := Lib.hid CB2
        clear TK2
        go_wp2_with fail
        refine (CB2.out).mono ?_
        rintro e w7 ⟨rfl, b7⟩
        have hB7 := hB6.trans (b7.mono hB6.size)
        go_wp2_with fail
        refine (awake_any _).mono ?_
        rintro e w8 ⟨rfl, b8⟩
        go_wp2
        go_ret
        exact ⟨rfl, (hB7.alloc hB7.size _).trans (b8.mono (by have := hB7.size; simp; omega))⟩
      · have TK2 : (takenS xs).2 = 0 := by simpa using TK.out
        have CG2 := Lib.hid (CG.out w6 hr6 TK2)
        clear TK2
        go_wp2_with fail
        refine (CG2.out).mono ?_
        rintro e w7 ⟨A1, c1, A2, c2, rfl, oE, oI, b7⟩
        have hB7 := hB6.trans (b7.mono hB6.size)
        have hz7 := hB7.size
        have g7 := (g6.next b7).alloc (.cells #[.int .i64 ((xs.length : Int) + 1), .slice A1 es.length c1] 52)
        have q0 := g7.cell 0
        have q1 := g7.cell 1
        have hE7 := (hE6.next b7).alloc (.cells #[.int .i64 ((xs.length : Int) + 1), .slice A1 es.length c1] 52)
        have hI7 := (hI6.next b7).alloc (.cells #[.int .i64 ((xs.length : Int) + 1), .slice A1 es.length c1] 52)
        have oE7 := oE.alloc (.cells #[.int .i64 ((xs.length : Int) + 1), .slice A1 es.length c1] 52)
        have oI7 := oI.alloc (.cells #[.int .i64 ((xs.length : Int) + 1), .slice A1 es.length c1] 52)
        have GS := gsame_any ((xs.length : Int) + 1) ((xs.length : Int) + 1) A' c' es A1 c1 es (by omega) _ hE7.reads oE7.reads
        rw [show decide ((xs.length : Int) + 1 = (xs.length : Int) + 1 ∧ es = es) = true from by simp] at GS
        have GS := Lib.hid GS
        have hB8 := hB7.alloc hz7 (.cells #[.int .i64 ((xs.length : Int) + 1), .slice A1 es.length c1] 52)
        go_wp2_with fail
        refine (GS.out).mono ?_
        rintro e w9 ⟨rfl, b9⟩
        have hB9 := hB8.trans (b9.mono hB8.size)
        have DE := dequal_any A4 c4 (0 :: xs) A2 c2 (0 :: xs) (by simp; omega) w9 (hI7.next b9).reads (oI7.next b9).reads
        rw [show decide ((0 :: xs) = (0 :: xs)) = true from by simp] at DE
        have DE := Lib.hid DE
        go_wp2_with fail
        refine (DE.out).mono ?_
        rintro e w10 ⟨rfl, b10⟩
        have hB10 := hB9.trans (b10.mono hB9.size)
        go_wp2_with fail
        refine (awake_any _).mono ?_
        rintro e w11 ⟨rfl, b11⟩
        go_wp2
        go_ret
        exact ⟨rfl, hB10.trans (b11.mono hB10.size)⟩

theorem parkingBurns_walk (w : World) (A : Option Addr) (c : Nat) (xs : List Int) (_hm : xs.length ≤ maxLen) (_hw : ∀ n ∈ xs, (Lit.int .i64 n).wf = true) (h : Reads w w.heap.size 1 A xs.length (ints xs)) :
    Calls Try.prog 8 #[.slice A xs.length c] w fun e w' => e = .returned (.bool true) ∧ Below w.heap.size w w' := by
  by_cases hok : withinS xs 0 = 0
  · exact pburns_ok w A c xs hok h
  · exact pburns_bad w A c xs (by simpa using hok) h

namespace lawParkingBurns
open Go.ChangeShapes Go.WideShapes Go.ChangeAt Go.RowKit
set_option linter.unusedVariables false
set_option maxRecDepth 100000 in
theorem lifted (os : Os) (started : os.Started) (H : Type) (enc : TypeId × Value → H) :
    ReturnsInHanded {} Try.checked os 8 .any (Rows.parkingBurnsSpec.pre6 enc Try.prog Try.f8 Rows.parkingBurnsRow.domain false) (Rows.parkingBurnsSpec.post enc Try.prog Try.f8 false true false false) := by
  refine returnsInHanded_of_change (C := Try.checked) own started (by kernel_rfl) Try.func8
    (ChangeSpec.witness6 (enc := enc) (C := Try.checked) false ⟨#[], #[.slice none 0 0], []⟩ 8 (by kernel_rfl) (by kernel_rfl) (by kernel_rfl) (by kernel_rfl)) ?_
  intro W base args ds gs before hval0 hW hcnd _
  have hval : ∀ (j : Nat) t v, Try.f8.params[j]? = some t → args[j]? = some v → Value.okWide Try.prog W .any base t v := hval0
  have hW' := hW
  obtain ⟨p, q, hA0, hV, rfl, hfz, hnd⟩ := hW
  have hA : DataW.TrodAll enc Try.prog W 0 (fun _ => true) true Try.f8.params.toList args.toList ds p := hA0
  rw [Try.params8] at hA hval
  obtain ⟨v0, vs0, d0, ds0, p0, q0, hargs, rfl, rfl, h0, r0⟩ := trodAll_cons hA
  obtain ⟨rfl, rfl, rfl⟩ := trodAll_nil r0
  obtain rfl : args = #[v0] := by cases args; simp_all
  obtain ⟨rfl, rfl⟩ := trodVars_none hV
  obtain ⟨a0, len0, cap0, rfl⟩ := okWide_slice Try.underlying22 (hval 0 22 v0 rfl rfl)
  have k0 := h0
  have lt0 : ∀ x ∈ p0, x.block < W.heap.size := by obtain ⟨m, hm⟩ := k0; exact DataW.trod_lt m _ _ _ hm
  obtain ⟨z0, w0⟩ : ∃ zs, IsRow .i64 W a0 len0 cap0 zs := by
    obtain ⟨fuel, hf⟩ := h0
    rcases open_ints Try.underlying22 Try.underlying3 (by kernel_rfl) hf with ⟨hcs, _⟩ | ⟨x, l, c, zs, hcs, _, hl, hm, hz, _, hcell, hwz⟩
    · simp [Value.cells] at hcs
      obtain ⟨rfl, rfl, rfl⟩ := hcs
      exact ⟨[], .inl ⟨rfl, rfl, rfl, rfl⟩⟩
    · simp [Value.cells] at hcs
      obtain ⟨rfl, rfl, rfl⟩ := hcs
      exact ⟨zs, .inr ⟨_, rfl, hl, hm, by simpa using hz, hcell, hwz⟩⟩
  obtain ⟨xs0, rfl, hm0, hr0, hw0⟩ := w0.reads
  clear hA0 hval0
  refine (parkingBurns_walk W a0 cap0 xs0 hm0 hw0 hr0).mono fun e W' ⟨he, bel⟩ => ?_
  subst he
  exact ⟨_, rfl, _, _, _, [], _, [], hW', trodAll_mk1 (shut_bool Try.underlying4 _), (trodAll_cons_mk (Below.trod laidOut (by kernel_rfl) (of_decide_eq_true (by kernel_rfl)) k0 bel lt0) trodAll_mk0), rfl, bel.frame _, fun h => by cases h⟩

theorem over : Rows.parkingBurnsRow.holds Try.pinned (OpenSpec.ofChange Rows.parkingBurnsSpec) :=
  OpenClaim.holds_of_wide 8 Try.f8 rfl rfl rfl rfl rfl rfl rfl ⟨rfl, rfl, rfl, rfl, rfl⟩ rfl rfl rfl rfl rfl (by kernel_rfl) Try.func8 (by kernel_rfl)
    (of_decide_eq_true (by kernel_rfl)) (by unfold Func.isWrapper; first | (rw [if_pos (by decide +kernel)]; kernel_rfl) | (rw [if_neg (by decide +kernel)]; exact ⟨rfl, rfl⟩))
    (fun os started H enc _ => lifted os started H enc)

/-- For every list of ints the law ParkingBurns answers true: preferences are a parking function exactly if they are a superstable configuration of the complete graph. There are no conditions. -/
theorem proved : Rows.ParkingBurnsSaid := over
#print axioms proved
end lawParkingBurns

end Go.Proofs.Ytjeggocindcgaaa
