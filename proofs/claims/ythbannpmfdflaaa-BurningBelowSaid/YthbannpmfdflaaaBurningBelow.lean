/-
  For every graph, sink and divisor the law BurningBelow answers true: each set that blocks is unburnt; with fewer chips no more vertices are unburnt. There are no conditions.
-/
import Derived.Test.YthbannpmfdflaaaAwakeB
import Derived.Test.YthbannpmfdflaaaLawG
import Derived.Test.YthbannpmfdflaaaRight
import Derived.Test.YthbannpmfdflaaaBelowP
import Derived.Test.YthbannpmfdflaaaOwnSet
import Derived.Laws.EntriesVeiled
namespace Go.Proofs.Ythbannpmfdflaaa
open Go.RowKit

section
variable (gU : Nat) (A : Option Addr) (c : Nat) (us : List Int) (hn : us.length ≤ 1048576)
include hn
set_option maxHeartbeats 1000000 in
theorem notin1_any (x : Int) (w : World) (hU : Blk w gU 25 #[.slice A us.length c]) (hr : Reads w w.heap.size 1 A us.length (ints us)) :
    Calls Try.prog 23 #[.int .i64 x, .pointer (some ⟨gU, 0, none⟩)] w fun e w' => e = .returned (.bool (!decide (x ∈ us))) ∧ w = w' := by
  have c0 := hU.cell 0
  have HC := Lib.hid (contains_any A c us hn x w hr)
  go_enter Try.func23, Try.ntmps23
  go_wp2_with fail
  refine (HC.out).mono ?_
  rintro e w1 ⟨rfl, rfl⟩
  go_wp2
  go_ret
  exact ⟨rfl, rfl⟩
set_option maxHeartbeats 1000000 in
theorem notin2_any (x : Int) (w : World) (hU : Blk w gU 25 #[.slice A us.length c]) (hr : Reads w w.heap.size 1 A us.length (ints us)) :
    Calls Try.prog 26 #[.int .i64 x, .pointer (some ⟨gU, 0, none⟩)] w fun e w' => e = .returned (.bool (!decide (x ∈ us))) ∧ w = w' := by
  have c0 := hU.cell 0
  have HC := Lib.hid (contains_any A c us hn x w hr)
  go_enter Try.func26, Try.ntmps26
  go_wp2_with fail
  refine (HC.out).mono ?_
  rintro e w1 ⟨rfl, rfl⟩
  go_wp2
  go_ret
  exact ⟨rfl, rfl⟩
theorem out1_any (B : Option Addr) (d : Nat) (xs : List Int) (hx : xs.length ≤ 1048576) (w : World) (hU : Blk w gU 25 #[.slice A us.length c]) (hr : Reads w w.heap.size 1 A us.length (ints us)) (h : Reads w w.heap.size 1 B xs.length (ints xs)) :
    Calls Try.prog 22 #[.slice B xs.length d, .func (.func 23) #[] #[.pointer (some ⟨gU, 0, none⟩)]] w fun e w' => e = .returned (.bool (xs.any fun x => !decide (x ∈ us))) ∧ ∃ m, w' = w.drewN m :=
  containsf_any 23 (.pointer (some ⟨gU, 0, none⟩)) (enters_of (P := Try.prog) Try.func23 (by kernel_rfl) rfl) (fun x => !decide (x ∈ us)) B d xs hx w h fun x _ m =>
    (notin1_any gU A c us hn x (w.drewN m) (hU.drewN m) (by exact hr)).mono fun _ _ h => ⟨h.1, m, h.2.symm⟩
theorem out2_any (B : Option Addr) (d : Nat) (xs : List Int) (hx : xs.length ≤ 1048576) (w : World) (hU : Blk w gU 25 #[.slice A us.length c]) (hr : Reads w w.heap.size 1 A us.length (ints us)) (h : Reads w w.heap.size 1 B xs.length (ints xs)) :
    Calls Try.prog 22 #[.slice B xs.length d, .func (.func 26) #[] #[.pointer (some ⟨gU, 0, none⟩)]] w fun e w' => e = .returned (.bool (xs.any fun x => !decide (x ∈ us))) ∧ ∃ m, w' = w.drewN m :=
  containsf_any 26 (.pointer (some ⟨gU, 0, none⟩)) (enters_of (P := Try.prog) Try.func26 (by kernel_rfl) rfl) (fun x => !decide (x ∈ us)) B d xs hx w h fun x _ m =>
    (notin2_any gU A c us hn x (w.drewN m) (hU.drewN m) (by exact hr)).mono fun _ _ h => ⟨h.1, m, h.2.symm⟩
end

set_option maxRecDepth 100000 in
set_option maxHeartbeats 4000000 in
theorem burningBelow_walk (w : World) (n : Int) (A : Option Addr) (c : Nat) (es : List E3) (_hm : es.length ≤ maxLen) (_hw : (Lit.int .i64 n).wf = true) (h : Reads w w.heap.size 3 A es.length (edgeCells es)) (q : Int) (_hq : (Lit.int .i64 q).wf = true)
    (B : Option Addr) (d : Nat) (cs : List Int) (_hm' : cs.length ≤ maxLen) (_hw' : ∀ x ∈ cs, (Lit.int .i64 x).wf = true) (h' : Reads w w.heap.size 1 B cs.length (ints cs)) :
    Calls Try.prog 4 #[.agg #[.int .i64 n, .slice A es.length c], .int .i64 q, .slice B cs.length d] w fun e w' => e = .returned (.bool true) ∧ Below w.heap.size w w' := by
  have RC := Lib.hid (fun w h h' => right_any n A c es q B d cs w h h')
  have g0 := Blk.new w 24 #[.int .i64 n, .slice A es.length c]
  have hb0 : Below w.heap.size w (w.alloc (.cells #[.int .i64 n, .slice A es.length c] 24)) := (Below.refl _ _).alloc (Nat.le_refl _) _
  cases hf : rightB n es q cs
  · have HF := Lib.hid hf
    clear hf
    go_enter Try.func4, Try.ntmps4
    go_wp2_with fail
    refine (RC.out _ ((h.alloc (Nat.le_refl _) _).more (by simp)) ((h'.alloc (Nat.le_refl _) _).more (by simp))).mono ?_
    rintro e w1 ⟨he, hb1⟩
    rw [HF.out] at he
    subst he
    have hB1 := hb0.trans (hb1.mono hb0.size)
    go_wp2_with fail
    refine (awake_any w1).mono ?_
    rintro e w2 ⟨rfl, hb2⟩
    go_wp2
    go_ret
    exact ⟨rfl, hB1.trans (hb2.mono hB1.size)⟩
  · obtain ⟨h1, h2, h6, _, hz⟩ := right_parts hf
    obtain ⟨hG, _, hq0, hqn, hlen, _⟩ := conf_zero (burn_zero hz).1
    have hlo := hG.lo
    obtain ⟨m, rfl⟩ := Int.eq_ofNat_of_zero_le (show 0 ≤ n by omega)
    obtain ⟨p, rfl⟩ := Int.eq_ofNat_of_zero_le hq0
    have BC := Lib.hid (fun w h h' => burn_ok m A c es (by omega) p B d cs (by omega) hz w h h')
    have SC := Lib.hid (fun w => subsets_any m (by omega) A c es.length w)
    have KC : Hid (∀ (k : Nat) (D : Option Addr) (f : Nat) (S : List Int) (w : World), natsI (bitsL m k) = S → Reads w w.heap.size 3 A es.length (edgeCells es) → Reads w w.heap.size 1 B cs.length (ints cs) → Reads w w.heap.size 1 D S.length (ints S) →
        Calls Try.prog 21 #[.agg #[.int .i64 m, .slice A es.length c], .int .i64 p, .slice B cs.length d, .slice D S.length f] w fun e w' => e = .returned (.tuple #[.bool (blkB m es p cs S), .int .i64 0]) ∧ Below w.heap.size w w') := by
      intro k D f S w hS h h' h''
      have hl : (natsI (bitsL m k)).length ≤ 1048576 := by rw [natsI_length]; have := bitsL_length m k; omega
      have hb := blocks_any m A c es (by omega) p B d cs (by omega) D f S (by rw [← hS]; exact hl) w h h' h''
      rw [← hS] at hb ⊢
      rw [bits_blk hz k] at hb
      exact hb
    have CC := Lib.hid (fun w h => dclone_any B d cs (by omega) w h)
    obtain ⟨us, hus⟩ : ∃ us, natI (restL m (burntL es cs m p)) = us := ⟨_, rfl⟩
    have hul : us.length ≤ 1048576 := by rw [← hus, natI_length]; have := restL_length m (burntL es cs m p); omega
    have SP : Hid (∀ k, blkB m es p cs (natsI (bitsL m k)) = true → ((natsI (bitsL m k)).any fun x => !decide (x ∈ us)) = false) := by rw [← hus]; exact fun k hk => below_sets hz k hk
    have FP : Hid (∀ (v : Nat) (k : Int), cs[v]? = some k → k ≠ 0 → burnErr m es p (cs.set v (k - 1)) = 0 ∧ -1048576 ≤ k ∧ k ≤ 1048576 ∧ ((natI (restL m (burntL es (cs.set v (k - 1)) m p))).any fun x => !decide (x ∈ us)) = false) := by rw [← hus]; exact fun v k hv hk => below_fewer hz hv hk
    have HUS := Lib.hid hus
    have HF := Lib.hid hf
    have HL := Lib.hid hlen
    have hmm := Nat.le_trans (Nat.pow_le_pow_right (n := 2) (by omega) (show m ≤ 6 by omega)) (show 2 ^ 6 ≤ 64 by decide)
    have hmf : ∀ (fn : Fn) (first cap : Array Value) (w : World), (Instr.makeFunc fn first cap).run Try.prog w = .ok (.func fn first cap) w := fun _ _ _ _ => rfl
    clear hf hz hG hus hlen
    go_enter Try.func4, Try.ntmps4
    go_wp2_with fail
    refine (RC.out _ ((h.alloc (Nat.le_refl _) _).more (by simp)) ((h'.alloc (Nat.le_refl _) _).more (by simp))).mono ?_
    rintro e w1 ⟨he, hb1⟩
    rw [HF.out] at he
    subst he
    have g1 := g0.next hb1
    have c0 := g1.cell 0
    have c1 := g1.cell 1
    have hB1 := hb0.trans (hb1.mono hb0.size)
    clear RC HF hb0 g0 hb1
    go_wp2_with fail
    refine (BC.out _ ((h.below hB1).more hB1.size) ((h'.below hB1).more hB1.size)).mono ?_
    rintro e w2 ⟨A1, c1', A2, c2, rfl, _, o2, hb2⟩
    rw [HUS.out] at o2
    obtain ⟨ul, hul2⟩ : ∃ ul, (restL m (burntL es cs m p)).length = ul := ⟨_, rfl⟩
    rw [hul2]
    have hul3 : ul = us.length := by rw [← hul2, ← natI_length, HUS.out]
    subst hul3
    have hB2 := hB1.trans (hb2.mono hB1.size)
    have hs2 := hB2.size
    have U3 := Blk.new w2 25 #[.slice A2 us.length c2]
    have g3 := (g1.next hb2).alloc (.cells #[.slice A2 us.length c2] 25)
    have o3 := (OwnI.alloc o2 (.cells #[.slice A2 us.length c2] 25)).mono (base' := w.heap.size) hB1.size
    have hB3 := hB2.alloc hs2 (.cells #[.slice A2 us.length c2] 25)
    have c0 := g3.cell 0
    have c1 := g3.cell 1
    clear g1 hb2 o2 hB1 hul2
    go_wp2_with fail
    refine (SC.out _).mono ?_
    rintro e w4 ⟨A4, c4, vs, rfl, o4, hb4⟩
    have g4 := g3.next hb4
    have U4 := U3.next hb4
    have o5 := o3.next hb4
    have hB4 := hB3.trans (hb4.mono hB3.size)
    have r4 := o4.reads
    have hgu := U4.lt
    obtain ⟨gU, hgU⟩ : ∃ gU, w2.heap.size = gU := ⟨_, rfl⟩
    rw [hgU] at U4 hgu ⊢
    clear g3 U3 o3 hb4 hB3 o4 c0 c1
    obtain ⟨M, hM⟩ : ∃ M, 2 ^ m = M := ⟨_, rfl⟩
    rw [hM] at r4 hmm ⊢
    have hMl := subsL_length m M
    clear hM hgU hs2 hB2
    go_wp2
    go_loopw [11, 12, 13, 39] (fun t11 t12 t13 i wr => ∃ k : Nat, k ≤ M ∧ i = .int .i64 k ∧ Below w.heap.size w wr ∧ Blk wr w.heap.size 24 #[.int .i64 m, .slice A es.length c] ∧ Blk wr gU 25 #[.slice A2 us.length c2] ∧ OwnI wr w.heap.size A2 c2 us ∧ RowsR wr wr.heap.size A4 (subsL m M)) (fun _ _ _ i _ => M - (intOf i).toNat)
    case atStart => exact ⟨0, by omega, rfl, hB4, g4, U4, o5, r4⟩
    case round =>
      obtain ⟨k, hk, rfl, hbel, g5, U5, o5, r5⟩ := hrel
      clear hB4 g4 U4 r4
      have hsz := hbel.size
      by_cases hlt : k < M
      · have hx : (subsL m M)[k]? = some (natsI (bitsL m k)) := by unfold subsL; rw [List.getElem?_map, List.getElem?_range hlt]; rfl
        obtain ⟨b, off, A', c', rfl, hb, hcell, hrd⟩ := r5.at_ hx
        have SPk := SP.out k
        obtain ⟨S, hS⟩ : ∃ S, natsI (bitsL m k) = S := ⟨_, rfl⟩
        have hSl : S.length ≤ 1048576 := by rw [← hS, natsI_length]; have := bitsL_length m k; omega
        rw [hS] at hcell hrd SPk
        have KS := Lib.hid (KC.out k A' c' S _ hS ((h.below hbel).more hsz) ((h'.below hbel).more hsz) hrd)
        have HRD := Lib.hid hrd
        have hi : (k : Int) < (M : Int) := by omega
        have c0 := g5.cell 0
        have c1 := g5.cell 1
        clear hx hS hrd
        cases hbk : blkB m es p cs S
        · rw [hbk] at KS
          clear SPk hbk
          go_wp2_with fail
          refine (KS.out).mono ?_
          rintro e w6 ⟨rfl, hb6⟩
          go_wp2
          go_roundw
          case rel => exact ⟨k + 1, by omega, by go_num, hbel.trans (hb6.mono hsz), g5.next hb6, U5.next hb6, o5.next hb6, r5.next hb6⟩
          case measure => simp [intOf]; omega
        · rw [hbk] at KS
          have HSP := Lib.hid (SPk hbk)
          clear SPk hbk
          go_wp2_with fail
          refine (KS.out).mono ?_
          rintro e w6 ⟨rfl, hb6⟩
          have U6 := U5.next hb6
          have o6 := o5.next hb6
          go_wp2_with fail
          refine (out1_any gU A2 c2 us hul A' c' S hSl w6 U6 o6.reads (HRD.out.next hb6)).mono ?_
          rintro e w7 ⟨he, m7, rfl⟩
          rw [HSP.out] at he
          subst he
          go_wp2
          go_roundw
          case rel => exact ⟨k + 1, by omega, by go_num, below_drewN (hbel.trans (hb6.mono hsz)) _, (g5.next hb6).drewN _, U6.drewN _, o6.drewN _, r5.next (below_drewN hb6 _)⟩
          case measure => simp [intOf]; omega
      · obtain rfl : k = M := by omega
        clear SP KC r5 hMl SC
        go_wp2
        go_loopw [14, 15, 16, 17, 18, 19, 64] (fun t14 t15 t16 t17 t18 t19 i wr => ∃ k : Nat, k ≤ cs.length ∧ i = .int .i64 k ∧ Below w.heap.size w wr ∧ Blk wr w.heap.size 24 #[.int .i64 m, .slice A es.length c] ∧ Blk wr gU 25 #[.slice A2 us.length c2] ∧ OwnI wr w.heap.size A2 c2 us) (fun _ _ _ _ _ _ i _ => cs.length - (intOf i).toNat)
        case atStart => exact ⟨0, by omega, rfl, hbel, g5, U5, o5⟩
        clear g5 U5 o5 hbel hsz
        case round =>
          obtain ⟨v, hv, rfl, hbel, g5, U5, o5⟩ := hrel
          have hsz := hbel.size
          have c0 := g5.cell 0
          have c1 := g5.cell 1
          by_cases hlt : v < cs.length
          · obtain ⟨x, hx⟩ := get_of_lt hlt
            obtain ⟨b, off, rfl, hb, hcell⟩ := (h'.below hbel).at_ (ints_at hx)
            have hi : (v : Int) < (cs.length : Int) := by omega
            by_cases hx0 : x = 0
            · subst hx0
              clear hx
              go_wp2
              go_roundw
              case rel => exact ⟨v + 1, by omega, by go_num, hbel, g5, U5, o5⟩
              case measure => simp [intOf]; omega
            · obtain ⟨f1, f2, f3, f4⟩ := FP.out v x hx hx0
              have hxb : (x == 0) = false := by simpa using hx0
              have hsl : (cs.set v (x - 1)).length = cs.length := by simp
              have BX : Hid (∀ (D : Option Addr) (f : Nat) (W : World), Reads W W.heap.size 3 A es.length (edgeCells es) → Reads W W.heap.size 1 D (cs.set v (x - 1)).length (ints (cs.set v (x - 1))) → Calls Try.prog 19 #[.agg #[.int .i64 m, .slice A es.length c], .int .i64 p, .slice D cs.length f] W fun e w' => ∃ A1 n1 c1 A2 zs c2,
                  e = .returned (.tuple #[.slice A1 n1 c1, .slice A2 zs.length c2, .int .i64 0]) ∧ OwnI w' W.heap.size A2 c2 zs ∧ zs.length ≤ 1048576 ∧ Hid ((zs.any fun x => !decide (x ∈ us)) = false) ∧ Below W.heap.size W w') := by
                intro D f W r1 r2
                have hb := burn_ok m A c es (by omega) p D f (cs.set v (x - 1)) (by rw [hsl]; omega) f1 W r1 r2
                rw [hsl] at hb
                refine hb.mono ?_
                rintro e w' ⟨A1, k1, A2, k2, he, _, o2, hB⟩
                refine ⟨A1, _, k1, A2, natI (restL m (burntL es (cs.set v (x - 1)) m p)), k2, by rw [natI_length]; exact he, o2, ?_, f4, hB⟩
                rw [natI_length]; have := restL_length m (burntL es (cs.set v (x - 1)) m p); omega
              have HX := Lib.hid hx
              obtain ⟨ds, hds⟩ : ∃ ds, cs.set v (x - 1) = ds := ⟨_, rfl⟩
              rw [hds] at BX hsl
              have HDS := Lib.hid hds
              have HSL := Lib.hid hsl
              clear hx f1 f4 hds hsl
              go_wp2_with fail
              refine (CC.out _ ((h'.below hbel).more hsz)).mono ?_
              rintro e w6 ⟨C6, c6, rfl, o6, hb6⟩
              have g6 := g5.next hb6
              have U6 := U5.next hb6
              have O6 := o5.next hb6
              obtain ⟨g, rfl, hg, hf6, hc6⟩ := o6.block (by omega)
              have ff := hf6 v
              have cc := hc6 v x HX.out
              have hB6 := hbel.trans (hb6.mono hsz)
              have o7 := o6.put v (x - 1)
              rw [HDS.out] at o7
              have g7 := g6.far (p := ⟨g, v, none⟩) (by have := g5.lt; show w.heap.size ≠ g; omega) (.int .i64 (x - 1))
              have U7 := U6.far (p := ⟨g, v, none⟩) (by have := U5.lt; show gU ≠ g; omega) (.int .i64 (x - 1))
              have hgA : ∀ k, blockOf A2 k → k ≠ g := fun k hk => by have := (own_lt o5 hk).2; omega
              have O7 : OwnI (w6.setCell ⟨g, v, none⟩ (.int .i64 (x - 1))) w.heap.size A2 c2 us := own_kept O6 fun k hk => Below.heap_setCell w6 ⟨g, v, none⟩ _ k (hgA k hk)
              have hB7 := hB6.setCell (p := ⟨g, v, none⟩) (by show w.heap.size ≤ g; omega) (.int .i64 (x - 1))
              have r7 := o7.reads
              have c0 := g7.cell 0
              have c1 := g7.cell 1
              clear g6 U6 O6 o6 hB6 hf6 hc6 hgA hb6
              go_wp2_with fail
              refine (BX.out _ _ _ ((h.below hB7).more hB7.size) r7).mono ?_
              rintro e w8 ⟨A8, n8, c8, A9, zs, c9, rfl, o9, hzl, HZ, hb8⟩
              have g8 := g7.next hb8
              have U8 := U7.next hb8
              have O8 := O7.next hb8
              have hB8 := hB7.trans (hb8.mono hB7.size)
              clear g7 U7 O7 hB7 hb8 r7 o7 BX
              go_wp2_with fail
              refine (out2_any gU A2 c2 us hul A9 c9 zs hzl w8 U8 O8.reads o9.reads).mono ?_
              rintro e w9 ⟨he, m9, rfl⟩
              rw [HZ.out] at he
              subst he
              go_wp2
              go_roundw
              case rel => exact ⟨v + 1, by omega, by go_num, below_drewN hB8 _, g8.drewN _, U8.drewN _, O8.drewN _⟩
              case measure => simp [intOf]; omega
          · go_wp2_with fail
            refine (awake_any _).mono ?_
            rintro e w6 ⟨rfl, hb6⟩
            go_wp2
            go_ret
            exact ⟨rfl, hbel.trans (hb6.mono hsz)⟩

namespace lawBurningBelow
open Go.ChangeShapes Go.WideShapes Go.ChangeAt Go.RowKit
set_option linter.unusedVariables false
set_option maxRecDepth 100000 in
theorem lifted (os : Os) (started : os.Started) (H : Type) (enc : TypeId × Value → H) :
    ReturnsInHanded {} Try.checked os 4 .any (Rows.burningBelowSpec.pre6 enc Try.prog Try.f4 Rows.burningBelowRow.domain false) (Rows.burningBelowSpec.post enc Try.prog Try.f4 false true false false) := by
  refine returnsInHanded_of_change (C := Try.checked) own started (by kernel_rfl) Try.func4
    (ChangeSpec.witness6 (enc := enc) (C := Try.checked) false ⟨#[], #[.agg #[.int .i64 0, .slice none 0 0], .int .i64 0, .slice none 0 0], []⟩ 8 (by kernel_rfl) (by kernel_rfl) (by kernel_rfl) (by kernel_rfl)) ?_
  intro W base args ds gs before hval0 hW hcnd _
  have hval : ∀ (j : Nat) t v, Try.f4.params[j]? = some t → args[j]? = some v → Value.okWide Try.prog W .any base t v := hval0
  have hW' := hW
  obtain ⟨p, q, hA0, hV, rfl, hfz, hnd⟩ := hW
  have hA : DataW.TrodAll enc Try.prog W 0 (fun _ => true) true Try.f4.params.toList args.toList ds p := hA0
  rw [Try.params4] at hA hval
  obtain ⟨v0, vs0, d0, ds0, p0, q0, hargs, rfl, rfl, h0, r0⟩ := trodAll_cons hA
  obtain ⟨v1, vs1, d1, ds1, p1, q1, rfl, rfl, rfl, h1, r1⟩ := trodAll_cons r0
  obtain ⟨v2, vs2, d2, ds2, p2, q2, rfl, rfl, rfl, h2, r2⟩ := trodAll_cons r1
  obtain ⟨rfl, rfl, rfl⟩ := trodAll_nil r2
  obtain rfl : args = #[v0, v1, v2] := by cases args; simp_all
  obtain ⟨rfl, rfl⟩ := trodVars_none hV
  obtain ⟨cs0, rfl, _⟩ := okWide_struct Try.underlying24 (hval 0 24 v0 rfl rfl)
  have k0 := h0
  have lt0 : ∀ x ∈ p0, x.block < W.heap.size := by obtain ⟨m, hm⟩ := k0; exact DataW.trod_lt m _ _ _ hm
  obtain ⟨_, hf0⟩ := h0
  obtain ⟨n0, a0, cap0, xs0, hcs0, hm0, hr0, hw0⟩ := open_graph hf0
  obtain rfl : cs0 = #[.int .i64 n0, .slice a0 xs0.length cap0] := Array.toList_inj.1 hcs0
  obtain ⟨a1, rfl, rfl, rfl, w1⟩ := open_int Try.underlying3 (hval 1 3 v1 rfl rfl) h1
  obtain ⟨b2, len2, c2, rfl⟩ := okWide_slice Try.underlying26 (hval 2 26 v2 rfl rfl)
  have k2 := h2
  have lt2 : ∀ x ∈ p2, x.block < W.heap.size := by obtain ⟨m, hm⟩ := k2; exact DataW.trod_lt m _ _ _ hm
  obtain ⟨_, hf2⟩ := h2
  obtain ⟨a2, cap2, xs2, hcs2, hm2, hr2, hw2⟩ := open_row Try.underlying26 hf2
  obtain ⟨rfl, rfl, rfl⟩ : b2 = a2 ∧ len2 = xs2.length ∧ c2 = cap2 := by simpa [Value.cells] using hcs2
  clear hA0 hval0
  refine (burningBelow_walk W n0 a0 cap0 xs0 hm0 hw0 hr0 a1 w1 b2 c2 xs2 hm2 hw2 hr2).mono fun e W' ⟨he, bel⟩ => ?_
  subst he
  exact ⟨_, rfl, _, _, _, [], _, [], hW', trodAll_mk1 (shut_bool Try.underlying4 _), (trodAll_cons_mk (Below.trod laidOut (by kernel_rfl) (of_decide_eq_true (by kernel_rfl)) k0 bel lt0) (trodAll_cons_mk (shut_int Try.underlying3 w1) (trodAll_cons_mk (Below.trod laidOut (by kernel_rfl) (of_decide_eq_true (by kernel_rfl)) k2 bel lt2) trodAll_mk0))), rfl, bel.frame _, fun h => by cases h⟩

theorem over : Rows.burningBelowRow.holds Try.pinned (OpenSpec.ofChange Rows.burningBelowSpec) :=
  OpenClaim.holds_of_wide 4 Try.f4 rfl rfl rfl rfl rfl rfl rfl ⟨rfl, rfl, rfl, rfl, rfl⟩ rfl rfl rfl rfl rfl (by kernel_rfl) Try.func4 (by kernel_rfl)
    (of_decide_eq_true (by kernel_rfl)) (by unfold Func.isWrapper; first | (rw [if_pos (by decide +kernel)]; kernel_rfl) | (rw [if_neg (by decide +kernel)]; exact ⟨rfl, rfl⟩))
    (fun os started H enc _ => lifted os started H enc)

/-- For every graph, sink and divisor the law BurningBelow answers true. -/
theorem proved : Rows.BurningBelowSaid := over
#print axioms proved
end lawBurningBelow
end Go.Proofs.Ythbannpmfdflaaa
