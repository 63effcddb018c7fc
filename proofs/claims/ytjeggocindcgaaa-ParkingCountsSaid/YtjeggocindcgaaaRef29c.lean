/-
  The contracts of the reference's List, All and Primitive, for at most five cars.
-/
import Derived.Test.YtjeggocindcgaaaEnum29
import Derived.Test.YtjeggocindcgaaaRows2
import Derived.Test.YtjeggocindcgaaaLit
namespace Go.Proofs.Ytjeggocindcgaaa
open Go.RowKit

theorem digGo_length (base k m : Nat) (acc : List Int) : (digGo base k m acc).length = k + acc.length := by
  induction k generalizing m acc with
  | zero => simp [digGo]
  | succ k ih => simp only [digGo]; rw [ih]; simp; omega

set_option maxHeartbeats 800000 in
theorem rlist_any (n m : Nat) (hn1 : 1 ≤ n) (hn : n ≤ 11) (hm : m ≤ 1048576) (w : World) :
    Calls Try.prog 53 #[.int .i64 n, .int .i64 n, .int .i64 m] w fun e w' =>
      ∃ A c, e = .returned (.slice A (digS n m).length c) ∧ OwnI w' w.heap.size A c (digS n m) ∧ Below w.heap.size w w' := by
  have hmk := make_ints n (by omega)
  have hbase : ((n : Int) == 0) = false := by simp; omega
  go_enter Try.func53, Try.ntmps53
  go_wp2
  clear hmk
  go_loopw [2, 8] (fun v i wr => ∃ (q : Nat) (acc : List Int), v = .int .i64 q ∧ q ≤ 1048576 ∧ ((∃ j : Nat, i = .int .i64 j ∧ j < n ∧ Blk wr w.heap.size 3 (intCells (List.replicate (j + 1) 0 ++ acc)) ∧ Hid (acc.length + (j + 1) = n) ∧ Hid (digS n m = digGo n (j + 1) q acc)) ∨
      (i = .int .i64 (-1) ∧ Blk wr w.heap.size 3 (intCells acc) ∧ Hid (digS n m = acc))) ∧ Below w.heap.size w wr) (fun _ i _ => (intOf i + 1).toNat)
  case atStart =>
    refine ⟨m, [], rfl, hm, .inl ⟨n - 1, ?_, by omega, ?_, ?_, ?_⟩, (Below.refl _ _).alloc (Nat.le_refl _) _⟩
    · rw [show ((n - 1 : Nat) : Int) = (n : Int) - 1 from by omega]
    · rw [show n - 1 + 1 = n from by omega, List.append_nil]; exact Blk.new _ _ _
    · show 0 + (n - 1 + 1) = n; omega
    · show digS n m = digGo n (n - 1 + 1) m []; rw [show n - 1 + 1 = n from by omega]; rfl
  case round =>
    obtain ⟨q, acc, rfl, hq, hcase, hbel⟩ := hrel
    rcases hcase with ⟨j, rfl, hj, hblk, HL, HD⟩ | ⟨rfl, hblk, HD⟩
    · have hc := (hblk.cell j).trans (intCells_get (x := 0) (by rw [List.getElem?_append_left (by simp)]; simp))
      have hf := hblk.frozen j
      go_wp2
      go_roundw
      case rel =>
        have hset : (List.replicate (j + 1) (0 : Int) ++ acc).set j (((q % n : Nat) : Int)) = List.replicate j 0 ++ (((q % n : Nat) : Int) :: acc) := by
          rw [List.replicate_succ', List.append_assoc, List.set_append_right _ _ (by simp)]
          simp
        have hb2 := hblk.set_ j (.int .i64 ((q % n : Nat) : Int))
        rw [intCells_set, hset] at hb2
        have e1 : ((q % n : Nat) : Int) = (q : Int) % (n : Int) := by simp
        rw [e1] at hb2
        have eq1 : ((q / n : Nat) : Int) = (q : Int) / (n : Int) := by simp
        have eq2 := Nat.div_le_self q n
        refine ⟨q / n, ((q % n : Nat) : Int) :: acc, by rw [← eq1]; generalize q / n = z at *; rw [IntWalk.wrap64_in _ (by omega)], Nat.le_trans (Nat.div_le_self q n) hq, ?_, hbel.setCell (p := ⟨w.heap.size, j, none⟩) (Nat.le_refl _) _⟩
        rcases j with _ | j
        · refine .inr ⟨by simp, by simpa using hb2, ?_⟩
          rw [Hid, HD.out]; rfl
        · refine .inl ⟨j, by simp; try omega, by omega, by simpa using hb2, ?_, ?_⟩
          · have := HL.out; rw [Hid]; simp; omega
          · rw [Hid, HD.out]; rfl
      case measure => simp [intOf]
    · go_wp2
      go_ret
      have hl : (digS n m).length = n := by simp [digS, digGo_length]
      have hl2 : acc.length = n := by rw [← HD.out]; exact hl
      have ho := OwnI.of_blk (base := w.heap.size) hblk (Nat.le_refl _) (by rw [hl2]; simp [maxLen]; omega)
      rw [HD.out]
      exact ⟨some ⟨w.heap.size, 0, none⟩, acc.length, by rw [hl2]; rfl, ho, hbel⟩

theorem allTo_yes {n k : Nat} (h : isR (digS n k) = true) : allTo n (k + 1) = allTo n k ++ [digS n k] := by simp [allTo, List.range_succ, h]
theorem allTo_no {n k : Nat} (h : isR (digS n k) = false) : allTo n (k + 1) = allTo n k := by simp [allTo, List.range_succ, h]
theorem allTo_length (n k : Nat) : (allTo n k).length ≤ k := by
  have := List.length_filter_le isR ((List.range k).map (digS n))
  simpa [allTo] using this
theorem digS_length (n m : Nat) : (digS n m).length = n := by simp [digS, digGo_length]
theorem OwnRows.drewN {w : World} {base : Nat} {A : Option Addr} {c : Nat} {vs : List Value} {xss : List (List Int)} (h : OwnRows w base A c vs xss) (n : Nat) : OwnRows (w.drewN n) base A c vs xss := h

set_option maxHeartbeats 800000 in
theorem rall_any (n : Nat) (hn1 : 1 ≤ n) (hn : n ≤ 5) (w : World) :
    Calls Try.prog 23 #[.int .i64 n] w fun e w' =>
      ∃ A c vs, e = .returned (.slice A (allR n).length c) ∧ OwnRows w' w.heap.size A c vs (allR n) ∧ Below w.heap.size w w' := by
  obtain ⟨K, hK⟩ : ∃ K, n ^ n = K := ⟨_, rfl⟩
  have hKb : K ≤ 3125 := by
    have h1 : n ^ n ≤ 5 ^ n := Nat.pow_le_pow_left hn n
    have h2 : 5 ^ n ≤ 5 ^ 5 := Nat.pow_le_pow_right (by omega) hn
    have h3 : 5 ^ 5 = 3125 := by decide
    omega
  have hp : ∀ w, Calls Try.prog 48 #[.int .i64 n, .int .i64 n] w fun e w' => e = .returned (.int .i64 (K : Int)) ∧ w = w' := fun w => by
    have := rpower_any n n (by omega) (by omega) (by omega) w
    rwa [show ((n : Int) ^ n) = ((n ^ n : Nat) : Int) from (Int.natCast_pow n n).symm, hK] at this
  have HP := Lib.hid hp
  have hall : allR n = allTo n K := by rw [allR, hK]
  rw [hall]
  clear hp hall hK
  go_enter Try.func23, Try.ntmps23
  go_wp2
  go_loopw [3, 4] (fun v i wr => ∃ (k : Nat) (A : Option Addr) (c : Nat) (vs : List Value), k ≤ K ∧ i = .int .i64 k ∧ v = .slice A (allTo n k).length c ∧ OwnRows wr w.heap.size A c vs (allTo n k) ∧ Below w.heap.size w wr) (fun _ i _ => K - (intOf i).toNat)
  case atStart => exact ⟨0, none, 0, [], by omega, rfl, rfl, OwnRows.nil_ _ _, Below.refl _ _⟩
  case round =>
    obtain ⟨k, A, c, vs, hk, rfl, rfl, hown, hbel⟩ := hrel
    by_cases hlt : k < K
    · have hl := allTo_length n k
      have hdl := digS_length n k
      obtain ⟨d, hd⟩ : ∃ d, digS n k = d := ⟨_, rfl⟩
      have hli := rlist_any n k hn1 (by omega) (by omega) wr
      rw [hd] at hli hdl
      have HLI := Lib.hid hli
      have HD := Lib.hid hd
      have hdl' : d.length ≤ 5 := by omega
      clear hli hd hdl
      go_wp2_with fail
      refine (HP.out _).mono ?_
      rintro e w' ⟨rfl, rfl⟩
      go_wp2_with fail
      refine (HLI.out).mono ?_
      rintro e w1 ⟨A1, c1, rfl, o1, b1⟩
      have hown1 := hown.next b1
      have hB1 := hbel.trans (b1.mono hbel.size)
      have o1' := o1.mono (base' := w.heap.size) hbel.size
      cases hi : isR d
      · have hris := ris_any A1 c1 d (by omega) _ o1.reads
        rw [hi] at hris
        have HRIS := Lib.hid hris
        have HI := Lib.hid hi
        clear hi hris
        go_wp2_with fail
        refine (HRIS.out).mono ?_
        rintro e w' ⟨rfl, rfl⟩
        go_wp2
        go_roundw
        case rel => exact ⟨k + 1, A, c, vs, by omega, by go_num, by rw [allTo_no (by rw [HD.out]; exact HI.out)], by rw [allTo_no (by rw [HD.out]; exact HI.out)]; exact hown1, hB1⟩
        case measure => simp [intOf]; omega
      · have hris := ris_any A1 c1 d (by omega) _ o1.reads
        rw [hi] at hris
        have HRIS := Lib.hid hris
        have HI := Lib.hid hi
        clear hi hris
        go_wp2_with fail
        refine (HRIS.out).mono ?_
        rintro e w' ⟨rfl, rfl⟩
        go_wp2_with (at_builtin; refine append_go rfl (.tmp 19) (.tmp 21) _ rfl w.heap.size 22 Try.underlying38 info_row rfl (by omega) A c (allTo n k).length vs rfl (World.ownsRow.alloc hown1.1 _) _ [.slice A1 d.length c1] rfl (Reads.box _ _ _) (by simp [Value.oneCell']) (by omega) (by have := hB1.size; simp; omega) ?_; intro A6 c6 w6 hown6 hg6 hb6 hw6)
        go_roundw
        case rel =>
          have k2 : OwnRows w6 w.heap.size A6 c6 (vs ++ [.slice A1 d.length c1]) (allTo n k ++ [d]) := OwnRows.push (hown1.kept fun k hk => Below.heap_alloc _ _ _ (hown1.lt hk).2) (OwnI.alloc o1' _) hown6 hg6
          refine ⟨k + 1, A6, c6, vs ++ [.slice A1 d.length c1], by omega, by go_num, ?_, ?_, (hB1.alloc hB1.size _).trans hb6⟩
          · rw [allTo_yes (by rw [HD.out]; exact HI.out)]; simp
          · rw [allTo_yes (by rw [HD.out]; exact HI.out), HD.out]; exact k2
        case measure => simp [intOf]; omega
    · go_wp2_with fail
      refine (HP.out _).mono ?_
      rintro e w' ⟨rfl, rfl⟩
      go_wp2
      go_ret
      obtain rfl : k = K := by omega
      exact ⟨A, c, vs, rfl, hown, hbel⟩

theorem asc_step {l : List Int} {k : Nat} {x y : Int} (hk : 1 ≤ k) (hx : l[k - 1]? = some x) (hy : l[k]? = some y) : ascTo l (k + 1) = (ascTo l k && decide (x ≤ y)) := by
  simp [ascTo, hx, hy, show ¬ k = 0 by omega]
theorem asc_one (l : List Int) : ascTo l 1 = true := by simp [ascTo]
def primTo (n k : Nat) : List (List Int) := ((allR n).take k).filter fun l => ascTo l n
theorem primTo_yes {n k : Nat} {l : List Int} (hl : (allR n)[k]? = some l) (h : ascTo l n = true) : primTo n (k + 1) = primTo n k ++ [l] := by simp [primTo, take_snoc hl, h]
theorem primTo_no {n k : Nat} {l : List Int} (hl : (allR n)[k]? = some l) (h : ascTo l n = false) : primTo n (k + 1) = primTo n k := by simp [primTo, take_snoc hl, h]
theorem primTo_length (n k : Nat) : (primTo n k).length ≤ k := by
  have h1 := List.length_filter_le (fun l => ascTo l n) ((allR n).take k)
  have h2 := List.length_take_le k (allR n)
  unfold primTo; omega
theorem allR_row {n : Nat} {l : List Int} (h : l ∈ allR n) : l.length = n := by
  unfold allR allTo at h
  obtain ⟨h1, _⟩ := List.mem_filter.1 h
  obtain ⟨m, _, rfl⟩ := List.mem_map.1 h1
  exact digS_length n m

set_option maxRecDepth 100000 in
set_option maxHeartbeats 1000000 in
theorem rprim_any (n : Nat) (hn1 : 1 ≤ n) (hn : n ≤ 5) (w : World) :
    Calls Try.prog 24 #[.int .i64 n] w fun e w' =>
      ∃ A c vs, e = .returned (.slice A (primR n).length c) ∧ OwnRows w' w.heap.size A c vs (primR n) ∧ Below w.heap.size w w' := by
  have hlen : (allR n).length ≤ 3125 := by
    have h0 := allTo_length n (n ^ n)
    have h1 : n ^ n ≤ 5 ^ n := Nat.pow_le_pow_left hn n
    have h2 : 5 ^ n ≤ 5 ^ 5 := Nat.pow_le_pow_right (by omega) hn
    have h3 : 5 ^ 5 = 3125 := by decide
    unfold allR; omega
  have hrow := fun l h => allR_row (n := n) (l := l) h
  have hprim : primR n = primTo n (allR n).length := by rw [primR, primTo, List.take_length]
  rw [hprim]
  have HA := Lib.hid (rall_any n hn1 hn w)
  have hpt := fun k l => primTo_yes (n := n) (k := k) (l := l)
  have hpn := fun k l => primTo_no (n := n) (k := k) (l := l)
  have hpl := primTo_length n
  have hp0 : primTo n 0 = [] := by simp [primTo]
  obtain ⟨P, hP⟩ : ∃ P, primTo n = P := ⟨_, rfl⟩
  rw [hP] at hpt hpn hpl hp0 ⊢
  obtain ⟨L, hL⟩ : ∃ L, allR n = L := ⟨_, rfl⟩
  rw [hL] at HA hlen hrow hpt hpn ⊢
  have HROW := Lib.hid hrow
  have HPT := Lib.hid hpt
  have HPN := Lib.hid hpn
  have HPL := Lib.hid hpl
  have HP0 := Lib.hid hp0
  clear hprim hrow hpt hpn hpl hP hL hp0
  go_enter Try.func24, Try.ntmps24
  go_wp2_with fail
  refine (HA.out).mono ?_
  rintro e w1 ⟨A1, c1, vs1, rfl, o1, b1⟩
  have hq1 : ∀ q, rowBlock A1 vs1 q → q < w1.heap.size := fun q h => (o1.lt h).2
  go_wp2
  go_loopw [4, 5, 6, 7] (fun v i _ _ wr => ∃ (k : Nat) (A : Option Addr) (c : Nat) (vs : List Value), k ≤ L.length ∧ i = .int .i64 k ∧ v = .slice A (P k).length c ∧ OwnRows wr w.heap.size A c vs (P k) ∧ OwnRows wr w.heap.size A1 c1 vs1 L ∧ Below w.heap.size w wr ∧ (∀ q, blockOf A q → w1.heap.size ≤ q) ∧ w1.heap.size ≤ wr.heap.size) (fun _ i _ _ _ => L.length - (intOf i).toNat)
  case atStart => exact ⟨0, none, 0, [], by omega, rfl, by rw [HP0.out]; rfl, by rw [HP0.out]; exact OwnRows.nil_ _ _, o1, b1, (by rintro q ⟨a, h, _⟩; cases h), Nat.le_refl _⟩
  case round =>
    obtain ⟨k, A, c, vs, hk, rfl, rfl, hown, ho1, hbel, hqA, hsz1⟩ := hrel
    obtain ⟨wo, rfl⟩ : ∃ wo : World, wo = wr := ⟨_, rfl⟩
    by_cases hlt : k < L.length
    · obtain ⟨l, hl⟩ := get_of_lt hlt
      have hln := HROW.out l (List.mem_of_getElem? hl)
      have HL := Lib.hid hl
      have HLN := Lib.hid hln
      clear hl hln
      go_wp2
      go_loopw [6, 7] (fun v j wq => ∃ m : Nat, 1 ≤ m ∧ m ≤ n ∧ j = .int .i64 m ∧ v = .bool (ascTo l m) ∧ Hid (∃ z, wq = wo.drewN z)) (fun _ j _ => n - (intOf j).toNat)
      case atStart => exact ⟨1, by omega, hn1, rfl, by rw [asc_one], 0, rfl⟩
      case round =>
        obtain ⟨m, hm1, hm, rfl, rfl, HM⟩ := hrel
        have hq : OwnRows wr w.heap.size A1 c1 vs1 L := by obtain ⟨z, e⟩ := HM.out; rw [e]; exact ho1
        have hqo : OwnRows wr w.heap.size A c vs (P k) := by obtain ⟨z, e⟩ := HM.out; rw [e]; exact hown
        have hbq : Below w.heap.size w wr := by obtain ⟨z, e⟩ := HM.out; rw [e]; exact below_drewN hbel z
        obtain ⟨A', c', hv, hoI⟩ := hq.2.2 k l HL.out
        obtain ⟨b0, off0, rfl, hb0, hcell⟩ := (Reads.of_own hq.1).at_ hv
        obtain ⟨b2, off2, rfl, hb2, hcc⟩ := hoI.reads.2 (by have := HLN.out; omega)
        have HV := Lib.hid hv
        clear hv
        have hszr : w1.heap.size ≤ wr.heap.size := by obtain ⟨z, e⟩ := HM.out; rw [e]; exact hsz1
        have hi0 : (k : Int) < (L.length : Int) := by omega
        have hln := HLN.out
        by_cases hmn : m < n
        · obtain ⟨x, hx⟩ := get_of_lt (xs := l) (k := m - 1) (by omega)
          obtain ⟨y, hy⟩ := get_of_lt (xs := l) (k := m) (by omega)
          have ex := hcc _ _ (ints_at hx)
          have ey := hcc _ _ (ints_at hy)
          have HST := Lib.hid (asc_step hm1 hx hy)
          have hi1 : (m : Int) - 1 < (l.length : Int) := by omega
          have hi2 : (m : Int) < (l.length : Int) := by omega
          have hi3 : (0 : Int) ≤ (m : Int) - 1 := by omega
          have e1 : IntKind.i64.wrap ((m : Int) - 1) = (m : Int) - 1 := IntWalk.i64_in _ (by omega)
          have e2 : ((m : Int) - 1).toNat = m - 1 := by omega
          clear hx hy hcc hq hqo hln
          rcases hb : ascTo l m with _ | _
          · have HB := Lib.hid hb
            clear hb
            go_wp2
            go_quiet (fail)
            clear e1 e2
            go_wp2
            go_roundw
            case rel => exact ⟨m + 1, by omega, by omega, by go_num, by rw [HST.out, HB.out]; rfl, by obtain ⟨z, e⟩ := HM.out; exact ⟨z + nq, by rw [e, World.drewN_drewN]⟩⟩
            case measure => simp [intOf]; omega
          · have HB := Lib.hid hb
            clear hb
            go_wp2
            go_quiet (fail)
            clear e1 e2
            go_wp2
            go_roundw
            case rel => exact ⟨m + 1, by omega, by omega, by go_num, by rw [HST.out, HB.out]; rfl, by obtain ⟨z, e⟩ := HM.out; exact ⟨z + nq, by rw [e, World.drewN_drewN]⟩⟩
            case measure => simp [intOf]; omega
        · obtain rfl : m = n := by omega
          clear hcc hln
          rcases hb : ascTo l m with _ | _
          · have HB := Lib.hid hb
            clear hb
            go_wp2
            go_roundw
            case rel => exact ⟨k + 1, A, c, vs, by omega, by go_num, by rw [HPN.out k l HL.out HB.out], by rw [HPN.out k l HL.out HB.out]; exact hqo, hq, hbq, hqA, hszr⟩
            case measure => simp [intOf]; omega
          · have HB := Lib.hid hb
            clear hb
            have hpl := HPL.out k
            go_wp2_with (at_builtin; refine append_go rfl (.tmp 41) (.tmp 46) _ rfl w.heap.size 22 Try.underlying38 info_row rfl (by omega) A c (P k).length vs rfl (World.ownsRow.alloc hqo.1 _) _ [.slice (some ⟨b2, off2, none⟩) l.length c'] rfl (Reads.box _ _ _) (by simp [Value.oneCell']) (by omega) (by have := hbq.size; simp; omega) ?_; intro A6 c6 w6 hown6 hg6 hb6 hw6)
            go_roundw
            case rel =>
              have k2 : OwnRows w6 w.heap.size A6 c6 (vs ++ [.slice (some ⟨b2, off2, none⟩) l.length c']) (P k ++ [l]) := OwnRows.push (hqo.kept fun k hk => Below.heap_alloc _ _ _ (hqo.lt hk).2) (OwnI.alloc hoI _) hown6 hg6
              have k3 : OwnRows w6 w.heap.size (some ⟨b0, off0, none⟩) c1 vs1 L := OwnRows.kept (hq.kept fun k hk => Below.heap_alloc _ _ _ (hq.lt hk).2) fun q hk => hg6.block q (by have := hq1 q hk; simp; omega) fun e => by
                have h1 := hqA q (blockOf_own.1 e.symm)
                have h2 := hq1 q hk
                omega
              refine ⟨k + 1, A6, c6, vs ++ [.slice (some ⟨b2, off2, none⟩) l.length c'], by omega, by go_num, ?_, ?_, k3, (hbq.alloc hbq.size _).trans hb6, ?_, ?_⟩
              · rw [HPT.out k l HL.out HB.out]; simp
              · rw [HPT.out k l HL.out HB.out]; exact k2
              · intro q hk
                rcases hw6 with e | e
                · rw [blockOf_own.2 hk] at e; exact hqA q (blockOf_own.1 e.symm)
                · rw [blockOf_own.2 hk] at e
                  injection e with e
                  rw [e]; simp; omega
              · have := hg6.size; simp at this; omega
            case measure => simp [intOf]; omega
    · go_wp2
      go_ret
      obtain rfl : k = L.length := by omega
      exact ⟨A, c, vs, rfl, hown, hbel⟩
end Go.Proofs.Ytjeggocindcgaaa
