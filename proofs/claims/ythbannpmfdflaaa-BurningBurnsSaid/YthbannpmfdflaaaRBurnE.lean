/-
  ref23.Waves, Is, Superstable, Burn.
-/
import Derived.Test.YthbannpmfdflaaaRWaves
import Derived.Test.YthbannpmfdflaaaBurnE
import Derived.Test.YthbannpmfdflaaaRBurn2
namespace Go.Proofs.Ythbannpmfdflaaa
open Go.RowKit

set_option maxRecDepth 100000 in
set_option maxHeartbeats 2000000 in
theorem rwaves_any (n : Int) (A : Option Addr) (c : Nat) (es : List E3) (hn : es.length ≤ 1048576) (q : Int) (B : Option Addr) (d : Nat) (cs : List Int) (hm : cs.length ≤ 1048000) (w : World) (h : Reads w w.heap.size 3 A es.length (edgeCells es)) (h' : Reads w w.heap.size 1 B cs.length (ints cs)) :
    Calls Try.prog 34 #[.agg #[.int .i64 n, .slice A es.length c], .int .i64 q, .slice B cs.length d] w fun e w' => ∃ C c' vs, e = .returned (.tuple #[.slice C (wavesE n es q cs).1.length c', .int .i64 (wavesE n es q cs).2]) ∧ OwnRows w' w.heap.size C c' vs (wavesE n es q cs).1 ∧ Below w.heap.size w w' := by
  have g0 := Blk.new w 24 #[.int .i64 n, .slice A es.length c]
  have hb0 : Below w.heap.size w (w.alloc (.cells #[.int .i64 n, .slice A es.length c] 24)) := (Below.refl _ _).alloc (Nat.le_refl _) _
  have hbc := rbcheck_any n A c es hn q B d cs (by omega)
  by_cases hz : burnErr n es q cs = 0
  · obtain ⟨hG, _, hq0, hqn, hlen, _⟩ := conf_zero (burn_zero hz).1
    have hlo := hG.lo
    have hhi := hG.hi
    obtain ⟨m, rfl⟩ := Int.eq_ofNat_of_zero_le (show 0 ≤ n by omega)
    obtain ⟨p, rfl⟩ := Int.eq_ofNat_of_zero_le hq0
    have hE : wavesE m es p cs = (([p] :: roundsL es cs m m [p]).map natsI, 0) := by unfold wavesE; rw [if_pos hz]; simp
    rw [hE]
    have RC := Lib.hid (fun w h h' => rounds_any m (by omega) A c es hn m hG.ok p (by omega) B d cs (by omega) w h h')
    obtain ⟨F, hF⟩ : ∃ F, ([p] :: roundsL es cs m m [p]).map natsI = F := ⟨_, rfl⟩
    rw [hF] at RC ⊢
    rw [hz] at hbc
    have BC := Lib.hid hbc
    clear hz hE hbc hG hF hlen
    go_enter Try.func34, Try.ntmps34
    go_wp2_with fail
    refine (BC.out _ ((h.alloc (Nat.le_refl _) _).more (by simp)) ((h'.alloc (Nat.le_refl _) _).more (by simp))).mono ?_
    rintro e w1 ⟨rfl, hb1⟩
    have g1 := g0.next hb1
    have c0 := g1.cell 0
    have c1 := g1.cell 1
    have hB1 := hb0.trans (hb1.mono hb0.size)
    go_wp2_with fail
    refine (RC.out _ ((h.below hB1).more hB1.size) ((h'.below hB1).more hB1.size)).mono ?_
    rintro e w2 ⟨C, c', vs, xss, rfl, rfl, ho, hb2⟩
    go_wp2
    go_ret2
    exact ⟨C, c', vs, rfl, ho.mono hB1.size, hB1.trans (hb2.mono hB1.size)⟩
  · have hE : wavesE n es q cs = ([], burnErr n es q cs) := by unfold wavesE; rw [if_neg hz]
    rw [hE]
    obtain ⟨z, hzz⟩ : ∃ z, burnErr n es q cs = z := ⟨_, rfl⟩
    rw [hzz] at hbc hz ⊢
    have hb : (z != 0) = true := by simpa using hz
    have BC := Lib.hid hbc
    clear hz hE hbc hzz
    go_enter Try.func34, Try.ntmps34
    go_wp2_with fail
    refine (BC.out _ ((h.alloc (Nat.le_refl _) _).more (by simp)) ((h'.alloc (Nat.le_refl _) _).more (by simp))).mono ?_
    rintro e w1 ⟨rfl, hb1⟩
    go_wp2
    go_ret2
    exact ⟨none, 0, [], rfl, OwnRows.nil_ _ _, hb0.trans (hb1.mono hb0.size)⟩

set_option maxRecDepth 100000 in
set_option maxHeartbeats 4000000 in
theorem ris_any (n : Nat) (hn6 : n ≤ 6) (A : Option Addr) (c : Nat) (es : List E3) (hn : es.length ≤ 1048576) (hG : RightG n es) (q : Int) (B : Option Addr) (d : Nat) (cs : List Int) (hcl : cs.length = n) (w : World)
    (h : Reads w w.heap.size 3 A es.length (edgeCells es)) (h' : Reads w w.heap.size 1 B cs.length (ints cs)) :
    Calls Try.prog 84 #[.agg #[.int .i64 n, .slice A es.length c], .int .i64 q, .slice B cs.length d] w fun e w' => e = .returned (.bool (!((subsL n (2 ^ n)).any fun S => bloB es q cs S))) ∧ Below w.heap.size w w' := by
  have g0 := Blk.new w 24 #[.int .i64 n, .slice A es.length c]
  have hb0 : Below w.heap.size w (w.alloc (.cells #[.int .i64 n, .slice A es.length c] 24)) := (Below.refl _ _).alloc (Nat.le_refl _) _
  have c0 := g0.cell 0
  have c1 := g0.cell 1
  have SC := Lib.hid (fun w => subsets_any n hn6 A c es.length w)
  have KC : Hid (∀ (k : Nat) (D : Option Addr) (f : Nat) (S : List Int) (w : World), natsI (bitsL n k) = S → Reads w w.heap.size 3 A es.length (edgeCells es) → Reads w w.heap.size 1 B cs.length (ints cs) → Reads w w.heap.size 1 D S.length (ints S) →
      Calls Try.prog 80 #[.agg #[.int .i64 n, .slice A es.length c], .int .i64 q, .slice B cs.length d, .slice D S.length f] w fun e w' => e = .returned (.bool (bloB es q cs S)) ∧ Below w.heap.size w w') := by
    intro k D f S w hS h h' h''
    have hl : (natsI (bitsL n k)).length ≤ 1000 := by rw [natsI_length]; have := bitsL_length n k; omega
    refine rblocking_any n (by omega) A c es hn hG q B d cs hcl D f S (by rw [← hS]; exact hl) (fun v hv => ?_) w h h' h''
    rw [← hS] at hv
    obtain ⟨u, hu, rfl⟩ := List.mem_map.1 hv
    have := bits_lt u hu
    omega
  have hmm := Nat.le_trans (Nat.pow_le_pow_right (n := 2) (by omega) hn6) (show 2 ^ 6 ≤ 64 by decide)
  have HR : Hid (∀ k, ((subsL n (2 ^ n)).take (k + 1)).any (fun S => bloB es q cs S) = (((subsL n (2 ^ n)).take k).any (fun S => bloB es q cs S) || (if k < 2 ^ n then bloB es q cs (natsI (bitsL n k)) else false))) := by
    intro k
    by_cases hk : k < 2 ^ n
    · have hx : (subsL n (2 ^ n))[k]? = some (natsI (bitsL n k)) := by unfold subsL; rw [List.getElem?_map, List.getElem?_range hk]; rfl
      rw [take_snoc hx, List.any_append, if_pos hk]; simp
    · rw [if_neg hk, List.take_of_length_le (by rw [subsL_length]; omega), List.take_of_length_le (by rw [subsL_length]; omega), Bool.or_false]
  obtain ⟨P, hP⟩ : ∃ P : Nat → Bool, ∀ k, ((subsL n (2 ^ n)).take k).any (fun S => bloB es q cs S) = P k := ⟨_, fun _ => rfl⟩
  have hP0 : P 0 = false := by rw [← hP]; rfl
  have hPe : ((subsL n (2 ^ n)).any fun S => bloB es q cs S) = P (2 ^ n) := by rw [← hP, List.take_of_length_le (by rw [subsL_length]; omega)]
  simp only [hP] at HR
  rw [hPe]
  have hmono : ∀ j k, j ≤ k → P j = true → P k = true := by
    intro j k hjk hj
    induction hjk with
    | refl => exact hj
    | step _ ih => rw [HR.out, ih]; rfl
  have HMO := Lib.hid hmono
  clear hG hcl hP hPe hmono
  go_enter Try.func84, Try.ntmps84
  go_wp2_with fail
  refine (SC.out _).mono ?_
  rintro e w4 ⟨A4, c4, vs, rfl, o4, hb4⟩
  have g4 := g0.next hb4
  have hB4 := hb0.trans (hb4.mono hb0.size)
  have r4 := o4.reads
  clear g0 hb0 hb4 o4 c0 c1
  obtain ⟨M, hM⟩ : ∃ M, 2 ^ n = M := ⟨_, rfl⟩
  rw [hM] at r4 hmm HR ⊢
  have HM := Lib.hid hM
  clear hM
  have HP0 := Lib.hid hP0
  clear hP0
  go_wp2
  go_loopw [8] (fun i wr => ∃ k : Nat, k ≤ M ∧ i = .int .i64 k ∧ Hid (P k = false) ∧ Below w.heap.size w wr ∧ Blk wr w.heap.size 24 #[.int .i64 n, .slice A es.length c] ∧ RowsR wr wr.heap.size A4 (subsL n M)) (fun i _ => M - (intOf i).toNat)
  case atStart => exact ⟨0, by omega, rfl, HP0.out, hB4, g4, r4⟩
  case round =>
    obtain ⟨k, hk, rfl, HPk, hbel, g5, r5⟩ := hrel
    clear hB4 g4 r4 HP0
    have hsz := hbel.size
    by_cases hlt : k < M
    · have hx : (subsL n M)[k]? = some (natsI (bitsL n k)) := by unfold subsL; rw [List.getElem?_map, List.getElem?_range hlt]; rfl
      obtain ⟨b, off, A', c', rfl, hb, hcell, hrd⟩ := r5.at_ hx
      have hPn := HR.out k
      rw [if_pos hlt, HPk.out, Bool.false_or] at hPn
      obtain ⟨S, hS⟩ : ∃ S, natsI (bitsL n k) = S := ⟨_, rfl⟩
      rw [hS] at hcell hrd hPn
      have KS := Lib.hid (fun W r1 r2 r3 => KC.out k A' c' S W hS r1 r2 r3)
      have RG := Lib.hid ((h.below hbel).more hsz)
      have RD := Lib.hid ((h'.below hbel).more hsz)
      have RS := Lib.hid hrd
      have hi : (k : Int) < (M : Int) := by omega
      have c0 := g5.cell 0
      have c1 := g5.cell 1
      have hgl := g5.lt
      have hSl : (subsL n M).length = M := subsL_length n M
      have hsli : (k : Int) < ((subsL n M).length : Int) := by omega
      obtain ⟨z, hz⟩ : ∃ z, bloB es q cs S = z := ⟨_, rfl⟩
      rw [hz] at KS hPn
      have HPN := Lib.hid hPn
      clear hx hS hrd hz hPn
      go_wp2
      go_region_held3 (fun W => W.cell? ⟨w.heap.size, 0, none⟩ = some (.int .i64 n) ∧ W.cell? ⟨w.heap.size, 1, none⟩ = some (.slice A es.length c) ∧ W.cell? ⟨b, off + k, none⟩ = some (.slice A' S.length c')) (go_keep)
        (first | (go_at_call 80; refine (KS.out _ (by exact RG.out) (by exact RD.out) (by exact RS.out)).mono ?_; rintro e w5 ⟨rfl, hb5⟩
                  have k0 := (hb5.cell (p := ⟨w.heap.size, 0, none⟩) (by exact hgl)).trans c0
                  have k1 := (hb5.cell (p := ⟨w.heap.size, 1, none⟩) (by exact hgl)).trans c1
                  have k2 := (hb5.cell (p := ⟨b, off + k, none⟩) (by show b < wr.heap.size; omega)).trans hcell))
      all_goals (
        have hb5' : Below wr.heap.size wr w5 := (Below.refl _ _).drew.trans hb5
        cases z
        · go_wp2
          go_roundw
          case rel => exact ⟨k + 1, by omega, by go_num, HPN.out, hbel.trans (hb5'.mono hsz), g5.next hb5', r5.next hb5'⟩
          case measure => simp [intOf]; omega
        · go_wp2
          go_ret
          exact ⟨ret_bool (by rw [HM.out, HMO.out (k + 1) M (by omega) HPN.out]; rfl), hbel.trans (hb5'.mono hsz)⟩)
    · obtain rfl : k = M := by omega
      go_wp2
      go_ret
      exact ⟨ret_bool (by rw [HM.out, HPk.out]; rfl), hbel⟩

set_option maxRecDepth 100000 in
set_option maxHeartbeats 2000000 in
theorem rsuper_any (n : Int) (A : Option Addr) (c : Nat) (es : List E3) (hn6 : checkG n es = 0 → n ≤ 6) (hn : es.length ≤ 1048576) (q : Int) (B : Option Addr) (d : Nat) (cs : List Int) (hm : cs.length ≤ 1048000) (w : World) (h : Reads w w.heap.size 3 A es.length (edgeCells es)) (h' : Reads w w.heap.size 1 B cs.length (ints cs)) :
    Calls Try.prog 36 #[.agg #[.int .i64 n, .slice A es.length c], .int .i64 q, .slice B cs.length d] w fun e w' => e = .returned (.tuple #[.bool (superE n es q cs).1, .int .i64 (superE n es q cs).2]) ∧ Below w.heap.size w w' := by
  have g0 := Blk.new w 24 #[.int .i64 n, .slice A es.length c]
  have hb0 : Below w.heap.size w (w.alloc (.cells #[.int .i64 n, .slice A es.length c] 24)) := (Below.refl _ _).alloc (Nat.le_refl _) _
  have hbc := rbcheck_any n A c es hn q B d cs (by omega)
  by_cases hz : burnErr n es q cs = 0
  · obtain ⟨hG, hC, hq0, hqn, hlen, _⟩ := conf_zero (burn_zero hz).1
    have hlo := hG.lo
    have h6 := hn6 (burn_parts hz).1
    obtain ⟨m, rfl⟩ := Int.eq_ofNat_of_zero_le (show 0 ≤ n by omega)
    obtain ⟨p, rfl⟩ := Int.eq_ofNat_of_zero_le hq0
    simp only [Int.toNat_natCast] at hC
    have hE : superE m es p cs = (decide (restL m (burntL es cs m p) = []), 0) := by unfold superE; rw [if_pos hz]; simp
    rw [hE, super_sets hG hC (by omega)]
    have RC := Lib.hid (fun w h h' => ris_any m (by omega) A c es hn hG p B d cs (by omega) w h h')
    obtain ⟨F, hF⟩ : ∃ F, (!((subsL m (2 ^ m)).any fun S => bloB es p cs S)) = F := ⟨_, rfl⟩
    rw [hF] at RC ⊢
    rw [hz] at hbc
    have BC := Lib.hid hbc
    clear hz hE hbc hG hF hlen hn6 hC
    go_enter Try.func36, Try.ntmps36
    go_wp2_with fail
    refine (BC.out _ ((h.alloc (Nat.le_refl _) _).more (by simp)) ((h'.alloc (Nat.le_refl _) _).more (by simp))).mono ?_
    rintro e w1 ⟨rfl, hb1⟩
    have g1 := g0.next hb1
    have c0 := g1.cell 0
    have c1 := g1.cell 1
    have hB1 := hb0.trans (hb1.mono hb0.size)
    go_wp2_with fail
    refine (RC.out _ ((h.below hB1).more hB1.size) ((h'.below hB1).more hB1.size)).mono ?_
    rintro e w2 ⟨rfl, hb2⟩
    go_wp2
    go_ret2
    exact ⟨rfl, hB1.trans (hb2.mono hB1.size)⟩
  · have hE : superE n es q cs = (false, burnErr n es q cs) := by unfold superE; rw [if_neg hz]
    rw [hE]
    obtain ⟨z, hzz⟩ : ∃ z, burnErr n es q cs = z := ⟨_, rfl⟩
    rw [hzz] at hbc hz ⊢
    have hb : (z != 0) = true := by simpa using hz
    have BC := Lib.hid hbc
    clear hz hE hbc hzz hn6
    go_enter Try.func36, Try.ntmps36
    go_wp2_with fail
    refine (BC.out _ ((h.alloc (Nat.le_refl _) _).more (by simp)) ((h'.alloc (Nat.le_refl _) _).more (by simp))).mono ?_
    rintro e w1 ⟨rfl, hb1⟩
    go_wp2
    go_ret2
    exact ⟨rfl, hb0.trans (hb1.mono hb0.size)⟩

set_option maxRecDepth 100000 in
set_option maxHeartbeats 4000000 in
theorem rburnE_any (n : Int) (A : Option Addr) (c : Nat) (es : List E3) (hn : es.length ≤ 1048576) (q : Int) (B : Option Addr) (d : Nat) (cs : List Int) (hm : cs.length ≤ 1048000) (w : World) (h : Reads w w.heap.size 3 A es.length (edgeCells es)) (h' : Reads w w.heap.size 1 B cs.length (ints cs)) :
    Calls Try.prog 32 #[.agg #[.int .i64 n, .slice A es.length c], .int .i64 q, .slice B cs.length d] w fun e w' => ∃ A1 c1 A2 c2, e = .returned (.tuple #[.slice A1 (burnE n es q cs).1.length c1, .slice A2 (burnE n es q cs).2.1.length c2, .int .i64 (burnE n es q cs).2.2]) ∧
      OwnI w' w.heap.size A1 c1 (burnE n es q cs).1 ∧ OwnI w' w.heap.size A2 c2 (burnE n es q cs).2.1 ∧ Below w.heap.size w w' := by
  have g0 := Blk.new w 24 #[.int .i64 n, .slice A es.length c]
  have hb0 : Below w.heap.size w (w.alloc (.cells #[.int .i64 n, .slice A es.length c] 24)) := (Below.refl _ _).alloc (Nat.le_refl _) _
  have hbc := rbcheck_any n A c es hn q B d cs (by omega)
  by_cases hz : burnErr n es q cs = 0
  · obtain ⟨hG, _, hq0, hqn, hlen, _⟩ := conf_zero (burn_zero hz).1
    have hlo := hG.lo
    have hhi := hG.hi
    obtain ⟨m, rfl⟩ := Int.eq_ofNat_of_zero_le (show 0 ≤ n by omega)
    obtain ⟨p, rfl⟩ := Int.eq_ofNat_of_zero_le hq0
    have hE : burnE m es p cs = (natI (burntL es cs m p), natI (restL m (burntL es cs m p)), 0) := by unfold burnE; rw [if_pos hz]; simp
    rw [hE]
    dsimp only
    have RC := Lib.hid (fun w h h' => rburnt_any m (by omega) A c es hn m hG.ok p (by omega) B d cs (by omega) w h h')
    have UC := Lib.hid (fun w h h' => runburnt_any m (by omega) A c es hn m hG.ok p (by omega) B d cs (by omega) w h h')
    have e1 := natI_length (burntL es cs m p)
    have e2 := natI_length (restL m (burntL es cs m p))
    rw [← e1] at RC
    rw [← e2] at UC
    change Hid (∀ w, _ → _ → Calls _ _ _ w fun e w' => ∃ A' c', _ ∧ OwnI w' w.heap.size A' c' (natI (burntL es cs m p)) ∧ _) at RC
    change Hid (∀ w, _ → _ → Calls _ _ _ w fun e w' => ∃ A' c', _ ∧ OwnI w' w.heap.size A' c' (natI (restL m (burntL es cs m p))) ∧ _) at UC
    obtain ⟨F1, hF1⟩ : ∃ F, natI (burntL es cs m p) = F := ⟨_, rfl⟩
    obtain ⟨F2, hF2⟩ : ∃ F, natI (restL m (burntL es cs m p)) = F := ⟨_, rfl⟩
    rw [hF1] at RC ⊢
    rw [hF2] at UC ⊢
    rw [hz] at hbc
    have BC := Lib.hid hbc
    clear hz hE hbc hG hF1 hF2 hlen e1 e2
    go_enter Try.func32, Try.ntmps32
    go_wp2_with fail
    refine (BC.out _ ((h.alloc (Nat.le_refl _) _).more (by simp)) ((h'.alloc (Nat.le_refl _) _).more (by simp))).mono ?_
    rintro e w1 ⟨rfl, hb1⟩
    have g1 := g0.next hb1
    have c0 := g1.cell 0
    have c1 := g1.cell 1
    have hB1 := hb0.trans (hb1.mono hb0.size)
    have hgl := g1.lt
    have hs1 := hB1.size
    have RH := Lib.hid h
    have RH' := Lib.hid h'
    clear h h' g0 hb0 hb1
    go_wp2
    go_region_held3 (fun W => W.cell? ⟨w.heap.size, 0, none⟩ = some (.int .i64 m) ∧ W.cell? ⟨w.heap.size, 1, none⟩ = some (.slice A es.length c)) (go_keep)
      (first
        | (go_at_call 81; first
            | (refine (RC.out _ (by exact (RH.out.below hB1).more hB1.size) (by exact (RH'.out.below hB1).more hB1.size)).mono ?_; rintro e w5 ⟨A5, c5, rfl, o5, hb5⟩
               have hb5' : Below w1.heap.size w1 w5 := (Below.refl _ _).drew.trans hb5
               have hB5 := hB1.trans (hb5'.mono hs1)
               have k0 := (g1.next hb5').cell 0
               have k1 := (g1.next hb5').cell 1)
            | (refine (RC.out _ (by exact (RH.out.below hB6).more hB6.size) (by exact (RH'.out.below hB6).more hB6.size)).mono ?_; rintro e w7 ⟨A7, c7, rfl, o7, hb7⟩
               have hb7' : Below w1.heap.size w1 w7 := hb6'.trans (hb7.mono hb6'.size)
               have k0 := (g1.next hb7').cell 0
               have k1 := (g1.next hb7').cell 1))
        | (go_at_call 82; first
            | (refine (UC.out _ (by exact (RH.out.below hB5).more hB5.size) (by exact (RH'.out.below hB5).more hB5.size)).mono ?_; rintro e w8 ⟨A8, c8, rfl, o8, hb8⟩
               have hb8' : Below w1.heap.size w1 w8 := hb5'.trans (hb8.mono hb5'.size)
               have k0 := (g1.next hb8').cell 0
               have k1 := (g1.next hb8').cell 1)
            | (refine (UC.out _ (by exact (RH.out.below hB1).more hB1.size) (by exact (RH'.out.below hB1).more hB1.size)).mono ?_; rintro e w6 ⟨A6, c6, rfl, o6, hb6⟩
               have hb6' : Below w1.heap.size w1 w6 := (Below.refl _ _).drew.trans hb6
               have hB6 := hB1.trans (hb6'.mono hs1)
               have k0 := (g1.next hb6').cell 0
               have k1 := (g1.next hb6').cell 1)))
    all_goals (
      go_wp2
      go_ret3
      first
        | exact ⟨A5, c5, A8, c8, rfl, (o5.next hb8).mono (by exact hs1), o8.mono hB5.size, hB1.trans (hb8'.mono hs1)⟩
        | exact ⟨A7, c7, A6, c6, rfl, o7.mono hB6.size, (o6.next hb7).mono (by exact hs1), hB1.trans (hb7'.mono hs1)⟩)
  · have hE : burnE n es q cs = ([], [], burnErr n es q cs) := by unfold burnE; rw [if_neg hz]
    rw [hE]
    obtain ⟨z, hzz⟩ : ∃ z, burnErr n es q cs = z := ⟨_, rfl⟩
    rw [hzz] at hbc hz ⊢
    have hb : (z != 0) = true := by simpa using hz
    have BC := Lib.hid hbc
    clear hz hE hbc hzz
    go_enter Try.func32, Try.ntmps32
    go_wp2_with fail
    refine (BC.out _ ((h.alloc (Nat.le_refl _) _).more (by simp)) ((h'.alloc (Nat.le_refl _) _).more (by simp))).mono ?_
    rintro e w1 ⟨rfl, hb1⟩
    go_wp2
    go_ret3
    exact ⟨none, 0, none, 0, rfl, OwnI.nil_ _ _, OwnI.nil_ _ _, hb0.trans (hb1.mono hb0.size)⟩
end Go.Proofs.Ythbannpmfdflaaa
