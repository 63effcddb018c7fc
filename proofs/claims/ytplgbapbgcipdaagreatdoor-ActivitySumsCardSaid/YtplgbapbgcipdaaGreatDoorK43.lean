/-
  Texts of this claim, put together: RMono, PolyA, RDig01, RMemb31.
-/
import Derived.Test.YtplgbapbgcipdaaGreatDoorK42
import Derived.Test.YtplgbapbgcipdaaGreatDoorK34
import Derived.Test.YtplgbapbgcipdaaGreatDoorK40
import Derived.Test.YtplgbapbgcipdaaGreatDoorK37
import Derived.Test.YtplgbapbgcipdaaGreatDoorK39
/-! The reference's Check of numerals without a sign, and its Monomial with the coefficient one. -/
namespace Go.Proofs.YtplgbapbgcipdaaGreatDoor
open Go.RowKit Go.Lib

/-- A byte of a text. -/
theorem str_at (w : World) {s : ByteArray} {l : List UInt8} (hs : s.data.toList = l) {k : Nat} (hk : k < l.length) : (Instr.index 9 (.string s) (.int .i64 k)).run Tryz.prog w = .ok (.int .u8 ((l.getD k 0).toNat : Nat)) w := by
  have hsz : s.size = l.length := by rw [size_eq, hs]
  rw [run_index_string w 9 s .i64 k Tryz.underlying9, dif_pos ⟨by omega, by omega⟩]
  have hd : s[((k : Nat) : Int).toNat]'(by simp; omega) = l.getD k 0 := by
    show s.data[((k : Nat) : Int).toNat]'_ = _
    have h1 : s.data.toList[k]'(by rw [hs]; exact hk) = l.getD k 0 := by simp [hs, List.getD_eq_getElem?_getD, hk]
    rw [Array.getElem_toList] at h1
    simpa using h1
  rw [hd]
set_option maxRecDepth 100000 in
set_option maxHeartbeats 2000000 in
theorem rcheck01_num (l : List UInt8) (hl : DigL l) (hn : l.length ≤ 1024) (w : World) : Calls Tryz.prog 105 #[.string ⟨l.toArray⟩] w fun e w' => e = .returned (.int .i64 0) ∧ w' = w := by
  have hdig := Lib.hid hl.dig
  have hhead := hl.head
  obtain ⟨a, r, rfl⟩ := List.exists_cons_of_ne_nil hl.pos
  obtain ⟨s, hs⟩ : ∃ s : ByteArray, (⟨(a :: r).toArray⟩ : ByteArray) = s := ⟨_, rfl⟩
  have hsl : s.data.toList = a :: r := by rw [← hs]
  have hsz : s.size = (a :: r).length := by rw [size_eq, hsl]
  have ha := hdig.out a (by simp)
  have ha45 : ¬ (a.toNat : Int) = 45 := by omega
  have HAT := Lib.hid (fun (W : World) (k : Nat) (hk : k < (a :: r).length) => str_at W hsl hk)
  have h00 : ∀ W, (Instr.index 9 (.string s) (.int .i64 0)).run Tryz.prog W = .ok (.int .u8 (a.toNat : Nat)) W := fun W => HAT.out W 0 (by simp)
  obtain ⟨n, hN⟩ : ∃ n, s.size = n := ⟨_, rfl⟩
  have hnl : n = (a :: r).length := by rw [← hN, hsz]
  have h1 : ¬ ((a.toNat : Int) = 48 ∧ (1 : Int) < (n : Int)) := by
    rintro ⟨h48, h1⟩
    rcases hhead with h | h
    · omega
    · refine h ?_
      rw [List.head?_cons]
      congr 1
      exact UInt8.toNat_inj.1 (show a.toNat = 48 by omega)
  have hn0 : (0 : Int) < (n : Int) := by rw [hnl]; simp
  have hnz : ¬ (n : Int) = 0 := by omega
  have hn24 : ¬ (1024 : Int) < (n : Int) := by omega
  have HNL := Lib.hid hnl
  rw [hs]
  clear hhead hsl hsz ha hnl hn hl hs
  have tail : ∀ (h8 : Hid (¬ ((a.toNat : Int) = 48 ∧ (1 : Int) < (n : Int)))), Calls Tryz.prog 105 #[.string s] w fun e w' => e = .returned (.int .i64 0) ∧ w' = w := by
    intro h8
    by_cases h48 : (a.toNat : Int) = 48
    · have h1n : ¬ (1 : Int) < (n : Int) := fun hc => h8.out ⟨h48, hc⟩
      have h1d : decide ((1 : Int) < (n : Int)) = false := decide_eq_false h1n
      clear h1
      go_enter Tryz.func105, Tryz.ntmps105
      go_wp2
      go_loop [4] (fun i => ∃ k : Nat, k ≤ n ∧ i = .int .i64 k) (fun i => n - (RowKit.intOf i).toNat)
      case atStart => exact ⟨0, by omega, rfl⟩
      case round =>
        obtain ⟨k, hk, rfl⟩ := hrel
        by_cases hlt : k < n
        · have hi : (k : Int) < (n : Int) := by omega
          have hat := fun W => HAT.out W k (by rw [← HNL.out]; exact hlt)
          have hb := hdig.out ((a :: r).getD k 0) (by
            rw [List.getD_eq_getElem?_getD, List.getElem?_eq_getElem (by rw [← HNL.out]; exact hlt)]
            exact List.getElem_mem _)
          obtain ⟨b, hbb⟩ : ∃ b, ((a :: r).getD k 0).toNat = b := ⟨_, rfl⟩
          rw [hbb] at hat hb
          have hb1 : ¬ (b : Int) < 48 := by omega
          have hb2 : ¬ (57 : Int) < (b : Int) := by omega
          have hb3 : decide ((b : Int) < 48) = false := decide_eq_false hb1
          have hb4 : decide ((57 : Int) < (b : Int)) = false := decide_eq_false hb2
          clear hbb hb
          go_wp2
          go_round
          case rel => exact ⟨k + 1, by omega, by go_num⟩
          case measure => simp [RowKit.intOf]; omega
        · obtain rfl : k = n := by omega
          have hf : ¬ (k : Int) < (k : Int) := by omega
          go_wp2
          go_ret
          exact ⟨rfl, rfl⟩
    · clear h1
      go_enter Tryz.func105, Tryz.ntmps105
      go_wp2
      go_loop [4] (fun i => ∃ k : Nat, k ≤ n ∧ i = .int .i64 k) (fun i => n - (RowKit.intOf i).toNat)
      case atStart => exact ⟨0, by omega, rfl⟩
      case round =>
        obtain ⟨k, hk, rfl⟩ := hrel
        by_cases hlt : k < n
        · have hi : (k : Int) < (n : Int) := by omega
          have hat := fun W => HAT.out W k (by rw [← HNL.out]; exact hlt)
          have hb := hdig.out ((a :: r).getD k 0) (by
            rw [List.getD_eq_getElem?_getD, List.getElem?_eq_getElem (by rw [← HNL.out]; exact hlt)]
            exact List.getElem_mem _)
          obtain ⟨b, hbb⟩ : ∃ b, ((a :: r).getD k 0).toNat = b := ⟨_, rfl⟩
          rw [hbb] at hat hb
          have hb1 : ¬ (b : Int) < 48 := by omega
          have hb2 : ¬ (57 : Int) < (b : Int) := by omega
          have hb3 : decide ((b : Int) < 48) = false := decide_eq_false hb1
          have hb4 : decide ((57 : Int) < (b : Int)) = false := decide_eq_false hb2
          clear hbb hb
          go_wp2
          go_round
          case rel => exact ⟨k + 1, by omega, by go_num⟩
          case measure => simp [RowKit.intOf]; omega
        · obtain rfl : k = n := by omega
          have hf : ¬ (k : Int) < (k : Int) := by omega
          go_wp2
          go_ret
          exact ⟨rfl, rfl⟩
  exact tail h1
theorem rcheck01_int (n : Nat) (hn : n < 10 ^ 100) (w : World) : Calls Tryz.prog 105 #[.string (intS n)] w fun e w' => e = .returned (.int .i64 0) ∧ w' = w := by
  have h := rcheck01_num (decDigits n) (digL_dec n) (by
    rw [decDigits_length]
    have := nDig_le 99 n hn
    omega) w
  unfold intS itoa
  rw [if_neg (by omega), Int.toNat_natCast]
  exact h
theorem rexponent_any (x : Nat) (h : x ≤ 256) (w : World) : Calls Tryz.prog 104 #[.int .i64 x] w fun e w' => e = .returned (.bool true) ∧ w' = w := by
  have h0 : (0 : Int) ≤ (x : Int) := by omega
  have h1 : (x : Int) ≤ 256 := by omega
  have h2 : decide ((x : Int) ≤ 256) = true := decide_eq_true h1
  go_enter Tryz.func104, Tryz.ntmps104
  go_wp2
  go_ret
  exact ⟨rfl, rfl⟩
set_option maxRecDepth 100000 in
set_option maxHeartbeats 2000000 in
theorem rmonomial_one (x y : Nat) (hx : x ≤ 256) (hy : y ≤ 256) (w : World) :
    Calls Tryz.prog 63 #[.int .i64 x, .int .i64 y, .string (intS 1)] w fun e w' => ∃ A' c', e = .returned (.tuple #[.slice A' 1 c', .int .i64 0]) ∧ OwnT w' w.heap.size A' c' [((x, y), 1)] ∧ Below w.heap.size w w' := by
  have XC := Lib.hid (rexponent_any x hx)
  have YC := Lib.hid (rexponent_any y hy)
  have CC := Lib.hid (rcheck01_int 1 (by decide) w)
  have hz : ((intS 1).toList == [48]) = false := by decide +kernel
  have hO := Lib.hid (fun (W : World) (hb : w.heap.size ≤ W.heap.size) => oneT hb x y 1)
  obtain ⟨S, hS⟩ : ∃ S, intS 1 = S := ⟨_, rfl⟩
  replace CC : Hid (Calls Tryz.prog 105 #[.string S] w fun e w' => e = .returned (.int .i64 0) ∧ w' = w) := by rw [← hS]; exact CC
  rw [hS] at hz hO ⊢
  clear hx hy hS
  go_enter Tryz.func63, Tryz.ntmps63
  go_wp2_with fail
  refine (XC.out _).mono ?_
  rintro e w' ⟨rfl, rfl⟩
  go_wp2_with fail
  refine (YC.out _).mono ?_
  rintro e w' ⟨rfl, rfl⟩
  go_wp2_with fail
  refine (CC.out).mono ?_
  rintro e w' ⟨rfl, rfl⟩
  go_wp2
  go_ret2
  exact ⟨_, _, rfl, hO.out _ (Nat.le_refl _), (Below.refl _ _).alloc (Nat.le_refl _) _⟩
end Go.Proofs.YtplgbapbgcipdaaGreatDoor

/-! activity.Polynomial of small graphs: the sum of the weights of all trees, or the error. -/
namespace Go.Proofs.YtplgbapbgcipdaaGreatDoor
open Go.RowKit

/-- The weights of all trees, and what Polynomial returns. -/
def wtL (n : Nat) (E : List (Nat × Nat)) : List (Nat × Nat) := (treesT n E).map fun t => ((insA E t).length, (outA E t).length)
def polyE (n : Int) (es : List E3) : List Tm × Int := if joinErr n es ≠ 0 then ([], joinErr n es) else (sumP (wtL n.toNat (endsL es)), 0)
theorem bits_few : ∀ m : Fin 9, ∀ k : Fin 6, (((List.range (2 ^ m.val)).map (bitsL m.val)).filter fun t => decide (t.length + 1 = k.val)).length ≤ 70 := by decide +kernel
theorem few_trees {n : Nat} {E : List (Nat × Nat)} (hb : BdP n E) (hn : 0 < n) (h5 : n ≤ 5) (h8 : E.length ≤ 8) : (treesT n E).length ≤ 70 := by
  rw [← trees_sorted hb hn, sortG_length]
  unfold refTs
  have h1 : ((List.range (2 ^ E.length)).map (bitsL E.length)).filter (fun t => decide (t.length + 1 = n) && decide (partsP n (pk E t) = 1)) = (((List.range (2 ^ E.length)).map (bitsL E.length)).filter fun t => decide (t.length + 1 = n)).filter fun t => decide (partsP n (pk E t) = 1) := by
    rw [List.filter_filter]
    congr 1
    funext t
    exact Bool.and_comm _ _
  rw [h1]
  refine Nat.le_trans (List.length_filter_le _ _) ?_
  exact bits_few ⟨E.length, by omega⟩ ⟨n, by omega⟩
theorem insA_len {E : List (Nat × Nat)} {t : List Nat} : (insA E t).length ≤ t.length := List.length_filter_le _ _
theorem outA_len {E : List (Nat × Nat)} {t : List Nat} : (outA E t).length ≤ E.length := by
  have := List.length_filter_le (fun e => !decide (e ∈ t) && decide (EAct E t e)) (List.range E.length)
  rw [List.length_range] at this
  exact this
set_option maxRecDepth 100000 in
set_option maxHeartbeats 2000000 in
theorem polynomial_any (n : Int) (A : Option Addr) (c : Nat) (es : List E3) (hn : es.length ≤ 10000) (hfw : joinErr n es = 0 → n ≤ 5 ∧ (endsL es).length ≤ 8) (w : World) (h : Reads w w.heap.size 3 A es.length (edgeCells es)) :
    Calls Tryz.prog 18 #[.agg #[.int .i64 n, .slice A es.length c]] w fun e w' => ∃ A' c', e = .returned (.tuple #[.slice A' (polyE n es).1.length c', .int .i64 (polyE n es).2]) ∧ OwnT w' w.heap.size A' c' (polyE n es).1 ∧ Below w.heap.size w w' := by
  unfold polyE
  by_cases hj : joinErr n es = 0
  · rw [if_neg (fun hc => hc hj)]
    obtain ⟨h5, h8⟩ := hfw hj
    obtain ⟨_, hG, _⟩ := join_zero hj
    have hlo := hG.lo
    obtain ⟨m, rfl⟩ := Int.eq_ofNat_of_zero_le (show 0 ≤ n by omega)
    have hb := bd_ends hG
    rw [Int.toNat_natCast]
    have h70 := few_trees hb (by omega) (by omega) h8
    have hE : tallE m es = ((treesT m (endsL es)).map nI, 0) := by unfold tallE; rw [if_neg (fun hc => hc hj), Int.toNat_natCast]
    refine poly_core m A c es.length ((treesT m (endsL es)).map nI) (wtL m (endsL es)) (by simp [wtL]) (by rw [List.length_map]; omega) ?_ w ?_ ?_
    · intro p hp
      obtain ⟨t, ht, rfl⟩ := List.mem_map.1 hp
      have hT := ((treesT_spec hb (by omega)).1 t).1 ht
      have h1 := insA_len (E := endsL es) (t := t)
      have h2 := outA_len (E := endsL es) (t := t)
      have h3 := hT.len
      exact ⟨by show (insA (endsL es) t).length ≤ 256; omega, by show (outA (endsL es) t).length ≤ 256; omega⟩
    · intro W hB
      have := tall_any m A c es hn (by rw [hE]; simp; omega) W ((h.below hB).more hB.size)
      rw [hE] at this
      exact this
    · intro i xs p hxs hp B d W hB hr
      rw [List.getElem?_map] at hxs
      unfold wtL at hp
      rw [List.getElem?_map] at hp
      cases ht : (treesT m (endsL es))[i]? with
      | none => rw [ht] at hxs; cases hxs
      | some t =>
        rw [ht] at hxs hp
        injection hxs with hxs
        injection hp with hp
        subst hxs
        have hT := ((treesT_spec hb (by omega)).1 t).1 (List.mem_of_getElem? ht)
        have hz : treeErr m es (nI t) = 0 := tree_ok hj hT
        have e1 : intE m es (nI t) = (nI (insA (endsL es) t), 0) := by unfold intE; rw [if_pos hz, toN_nI]
        have e2 : extE m es (nI t) = (nI (outA (endsL es) t), 0) := by unfold extE; rw [if_pos hz, toN_nI]
        have h1 := insA_len (E := endsL es) (t := t)
        have h2 := outA_len (E := endsL es) (t := t)
        have h3 := hT.len
        have hwE : weightE m es (nI t) = ([(p, 1)], 0) := by
          unfold weightE
          rw [if_pos hz, e1, e2]
          dsimp only
          rw [nI_length, nI_length, ← hp]
        have := weight_any m A c es hn B d (nI t) (by rw [nI_length]; omega) (by rw [e1]; dsimp only; rw [nI_length]; omega) (by rw [e2]; dsimp only; rw [nI_length]; omega) W ((h.below hB).more hB.size) hr
        rw [hwE] at this
        exact this
  · rw [if_pos hj]
    have hE : tallE n es = ([], joinErr n es) := by unfold tallE; rw [if_pos hj]
    have AC := Lib.hid (fun (W : World) (hB : Below w.heap.size w W) => tall_any n A c es hn (by rw [hE]; simp) W ((h.below hB).more hB.size))
    rw [hE] at AC
    obtain ⟨z, hzz⟩ : ∃ z, joinErr n es = z := ⟨_, rfl⟩
    rw [hzz] at AC hj ⊢
    have hzb : (z != 0) = true := by simpa using hj
    have g := Blk.new w 24 #[.int .i64 n, .slice A es.length c]
    have hB : Below w.heap.size w (w.alloc (.cells #[.int .i64 n, .slice A es.length c] 24)) := (Below.refl _ _).alloc (Nat.le_refl _) _
    have k0 := g.cell 0
    have k1 := g.cell 1
    clear hj hzz hE hfw h
    go_enter Tryz.func18, Tryz.ntmps18
    go_wp2_with fail
    refine (AC.out _ hB).mono ?_
    rintro e w1 ⟨Ar, cr, vs, rfl, _, hb⟩
    have hB := hB.trans (hb.mono hB.size)
    go_wp2
    go_ret2
    exact ⟨none, 0, rfl, OwnT.nil_ _ _, hB⟩
end Go.Proofs.YtplgbapbgcipdaaGreatDoor

/-! The reference's digits of numerals: digits, cut, digit, Minus. -/
namespace Go.Proofs.YtplgbapbgcipdaaGreatDoor
open Go.RowKit

/-- A byte of a text, whatever the text's type is called. -/
theorem str_at2 (t : TypeId) (ht : Tryz.prog.underlying t = some .string) (w : World) {s : ByteArray} {l : List UInt8} (hs : s.data.toList = l) {k : Nat} {b : UInt8} (hk : l[k]? = some b) : (Instr.index t (.string s) (.int .i64 k)).run Tryz.prog w = .ok (.int .u8 (b.toNat : Nat)) w := by
  have hlt := (List.getElem?_eq_some_iff.1 hk).1
  have hsz : s.size = l.length := by rw [Lib.size_eq, hs]
  rw [run_index_string w t s .i64 k ht, dif_pos ⟨by omega, by omega⟩]
  have hd : s[((k : Nat) : Int).toNat]'(by simp; omega) = b := by
    show s.data[((k : Nat) : Int).toNat]'_ = _
    have h1 : s.data.toList[k]'(by rw [hs]; exact hlt) = b := by
      have := (List.getElem?_eq_some_iff.1 hk).2
      simpa [hs] using this
    rw [Array.getElem_toList] at h1
    simpa using h1
  rw [hd]
/-- The text of a number that is not 0, by its digits. -/
theorem intS_dig {n : Nat} (h : 0 < n) : (intS n).data.toList = (digB 10 n).reverse.map asc := by
  unfold intS Lib.itoa
  rw [if_neg (by omega), Int.toNat_natCast]
  exact dec_dig h
set_option maxHeartbeats 1000000 in
theorem rcut01_any (A : Option Addr) (c : Nat) (l : List Int) (hl : l.length ≤ 1000000) (x : Int) (hx : l.getLast? = some x) (h0 : x ≠ 0) (base : Nat) (w : World) (h : OwnI w base A c l) :
    Calls Tryz.prog 209 #[.slice A l.length c] w fun e w' => e = .returned (.slice A l.length c) ∧ w' = w := by
  have hne : l ≠ [] := fun hc => by rw [hc] at hx; cases hx
  have hlp : 0 < l.length := List.length_pos_iff.2 hne
  obtain ⟨g, rfl, _, _, _⟩ := h.block hlp
  have hcap : l.length ≤ c := by
    rcases h.2 with ⟨hv, _⟩ | ⟨g2, cp, cur, hv, _, _, h1, _⟩
    · cases hv
    · injection hv with _ _ e; omega
  have hlast : l[l.length - 1]? = some x := by rw [← List.getLast?_eq_getElem?]; exact hx
  obtain ⟨b, off, hA, _, cell⟩ := h.reads.at_ (ints_at hlast)
  cases hA
  rw [Nat.zero_add] at cell
  obtain ⟨n, hn⟩ : ∃ n, l.length = n := ⟨_, rfl⟩
  rw [hn] at cell hl hlp hcap ⊢
  have hi : (0 : Int) < (n : Int) := by omega
  have hwn : IntKind.i64.wrap ((n : Int) - 1) = ((n - 1 : Nat) : Int) := by rw [IntWalk.i64_in _ (by omega)]; omega
  have hw2 : (n : Int) - 1 = ((n - 1 : Nat) : Int) := by omega
  have hlt : ((n - 1 : Nat) : Int) < (n : Int) := by omega
  have hx0 : (x == 0) = false := by simpa using h0
  have hcI : (n : Int) ≤ (c : Int) := by omega
  obtain ⟨p, hp⟩ : ∃ p, n - 1 = p := ⟨_, rfl⟩
  rw [hp] at cell hwn hw2 hlt
  clear h hx h0 hne hlast hlp hn hp
  go_enter Tryz.func209, Tryz.ntmps209
  go_wp2
  go_loop [3] (fun i => i = .int .i64 n) (fun _ => 0)
  case atStart => rfl
  case round =>
    obtain rfl := hrel
    go_wp2
    go_ret
    exact ⟨rfl, rfl⟩
theorem digB_last {n : Nat} (h : 0 < n) : ∃ d, (digB 10 n).getLast? = some d ∧ d ≠ 0 := by
  induction n using Nat.strongRecOn with
  | _ n ih =>
    rw [digB_pos (by omega) h]
    by_cases h1 : n / 10 = 0
    · rw [h1, digB_zero]
      exact ⟨n % 10, rfl, by omega⟩
    · obtain ⟨d, hd, h0⟩ := ih (n / 10) (by omega) (by omega)
      refine ⟨d, ?_, h0⟩
      have hne : digB 10 (n / 10) ≠ [] := fun hc => by rw [hc] at hd; cases hd
      rw [List.getLast?_cons, hd]
      rfl
theorem nI_last {l : List Nat} {d : Nat} (h : l.getLast? = some d) : (nI l).getLast? = some (d : Int) := by
  unfold nI
  rw [List.getLast?_map, h]
  rfl
set_option maxRecDepth 100000 in
set_option maxHeartbeats 2000000 in
theorem rdigits01_any (n : Nat) (h0 : 0 < n) (hn : (digB 10 n).length ≤ 1000) (w : World) :
    Calls Tryz.prog 179 #[.string (intS n)] w fun e w' => ∃ A c, e = .returned (.slice A (digB 10 n).length c) ∧ OwnI w' w.heap.size A c (nI (digB 10 n)) ∧ Below w.heap.size w w' := by
  have hs := intS_dig h0
  obtain ⟨dl, hdl, hdl0⟩ := digB_last h0
  obtain ⟨D, hD⟩ : ∃ D, digB 10 n = D := ⟨_, rfl⟩
  have hlt : ∀ d ∈ D, d < 10 := fun d hd => by rw [← hD] at hd; exact digB_lt (by omega) hd
  rw [hD] at hs hn hdl ⊢
  obtain ⟨s, hss⟩ : ∃ s, intS n = s := ⟨_, rfl⟩
  rw [hss] at hs ⊢
  have hsz : s.size = D.length := by rw [Lib.size_eq, hs]; simp
  have hD0 : 0 < D.length := by
    rcases D with _ | ⟨a, D⟩
    · cases hdl
    · simp
  obtain ⟨L, hL⟩ : ∃ L, D.length = L := ⟨_, rfl⟩
  have HAT : Hid (∀ (W : World) (j d : Nat), D[j]? = some d → (Instr.index 60 (.string s) (.int .i64 (((L - 1 - j : Nat)) : Int))).run Tryz.prog W = .ok (.int .u8 ((48 + d : Nat) : Int)) W) := fun W j d hd => by
    have hj := (List.getElem?_eq_some_iff.1 hd).1
    have h1 : (D.reverse.map asc)[L - 1 - j]? = some (asc d) := by
      rw [List.getElem?_map, List.getElem?_reverse (by omega), hL, show L - 1 - (L - 1 - j) = j by omega, hd]
      rfl
    rw [str_at2 60 Tryz.underlying60 W hs h1, asc_nat (hlt d (List.mem_of_getElem? hd))]
  have CC := Lib.hid (fun (A : Option Addr) (c : Nat) (W : World) (h : OwnI W w.heap.size A c (nI D)) => rcut01_any A c (nI D) (by rw [nI_length]; omega) (dl : Int) (nI_last hdl) (by omega) w.heap.size W h)
  have HLT := Lib.hid hlt
  have HLL := Lib.hid hL
  have hszL : s.size = L := by rw [hsz, hL]
  rw [hL] at hn hD0 ⊢
  have hw1 : IntKind.i64.wrap ((L : Int) - 1) = (L : Int) - 1 := IntWalk.i64_in _ (by omega)
  have CC : Hid (∀ (A : Option Addr) (c : Nat) (W : World) (_ : OwnI W w.heap.size A c (nI D)), Calls Tryz.prog 209 #[.slice A L c] W fun e w' => e = .returned (.slice A L c) ∧ w' = W) := fun A c W h => by
    have := CC.out A c W h
    rw [nI_length, HLL.out] at this
    exact this
  clear hs hsz hD hss hdl hlt hL
  go_enter Tryz.func179, Tryz.ntmps179
  go_wp2
  clear hw1 hszL
  go_loopw [3, 4] (fun o i wr => ∃ (j : Nat) (z : Int) (A' : Option Addr) (c' : Nat), j ≤ L ∧ i = .int .i64 z ∧ Hid (z = (L : Int) - 1 - j) ∧ o = .slice A' (D.take j).length c' ∧ Hid (OwnI wr w.heap.size A' c' (nI (D.take j))) ∧ Hid (Below w.heap.size w wr)) (fun _ i _ => (intOf i + 1).toNat)
  case atStart => exact ⟨0, _, none, 0, by omega, rfl, by simp [Hid], rfl, OwnI.nil_ _ _, Below.refl _ _⟩
  case round =>
    obtain ⟨j, z, A', c', hj, rfl, HZ, rfl, HO, HB⟩ := hrel
    have hsz2 := HB.out.size
    by_cases hlt : j < L
    · have hz0 : (0 : Int) ≤ z := by rw [HZ.out]; omega
      have hzi : IntKind.i64.wrap (z - 1) = z - 1 := IntWalk.i64_in _ (by have := HZ.out; omega)
      obtain ⟨d, hd⟩ : ∃ d, D[j]? = some d := ⟨_, List.getElem?_eq_getElem (by rw [HLL.out]; exact hlt)⟩
      have hd10 := HLT.out d (List.mem_of_getElem? hd)
      have hat := fun W => HAT.out W j d hd
      rw [show (((L - 1 - j : Nat)) : Int) = z by rw [HZ.out]; omega] at hat
      obtain ⟨b, hb⟩ : ∃ b, 48 + d = b := ⟨_, rfl⟩
      rw [hb] at hat
      have hb45 : ((b : Int) != 45) = true := by simp; omega
      have hwb : IntKind.u8.wrap ((b : Int) - 48) = (d : Int) := by simp [IntKind.wrap, IntKind.bits, IntKind.signed]; omega
      have hwd : wrap64 (d : Int) = (d : Int) := IntWalk.wrap64_in (d : Int) (by omega)
      have htk : D.take (j + 1) = D.take j ++ [d] := take_snoc hd
      have hl : (D.take j).length ≤ 1000 := by rw [List.length_take]; omega
      obtain ⟨S2, hS2⟩ : ∃ S, D.take j = S := ⟨_, rfl⟩
      rw [hS2] at HO hl htk ⊢
      obtain ⟨sl, hsl⟩ : ∃ sl, S2.length = sl := ⟨_, rfl⟩
      have HSL := Lib.hid hsl
      rw [hsl] at hl ⊢
      have OX : wr.ownsRow w.heap.size 3 1 (.slice A' sl c') sl (ints (nI S2)) := by have := HO.out; unfold OwnI at this; rw [nI_length, hsl] at this; exact this
      have HTK := Lib.hid htk
      have HJ := Lib.hid hlt
      clear htk hS2 hsl hd hb hd10
      go_wp2_with (first | (at_builtin; refine append_go rfl (.tmp 16) (.tmp 22) _ rfl w.heap.size 3 Tryz.underlying25 info_int rfl (by omega) A' c' sl (ints (nI S2)) rfl (World.ownsRow.alloc OX _) _ [.int .i64 d] rfl (Reads.box _ _ _) (by simp [Value.oneCell']) (by omega) (by simp; omega) ?_; intro A6 c6 w6 hown6 hg6 hb6 hw6) | fail)
      have B6 : Below w.heap.size w w6 := (HB.out.alloc hsz2 _).trans hb6
      have O6 : OwnI w6 w.heap.size A6 c6 (nI (S2 ++ [d])) := by unfold OwnI; rw [nI_length, List.length_append, nI_snoc9, ints_snoc, HSL.out]; exact hown6
      go_roundw
      case rel => exact ⟨j + 1, _, A6, c6, by omega, rfl, by rw [Hid, HZ.out]; omega, by rw [HTK.out, List.length_append, HSL.out]; rfl, by rw [HTK.out]; exact O6, B6⟩
      case measure => simp [intOf]; omega
    · obtain rfl : j = L := by omega
      have hz0 : ¬ (0 : Int) ≤ z := by rw [HZ.out]; omega
      have hfin : D.take j = D := List.take_of_length_le (by rw [HLL.out]; exact Nat.le_refl _)
      rw [hfin] at HO
      rw [hfin, HLL.out]
      have CK := Lib.hid (CC.out A' c' wr HO.out)
      clear hfin
      go_wp2_with fail
      refine (CK.out).mono ?_
      rintro e w5 ⟨rfl, rfl⟩
      go_wp2
      go_ret
      exact ⟨A', c', rfl, HO.out, HB.out⟩
end Go.Proofs.YtplgbapbgcipdaaGreatDoor

/-! The reference's Weight and Members. -/
namespace Go.Proofs.YtplgbapbgcipdaaGreatDoor
open Go.RowKit
theorem oneLit : (⟨#[49]⟩ : ByteArray) = intS 1 := by decide +kernel
set_option maxRecDepth 100000 in
set_option maxHeartbeats 4000000 in
theorem rweight31_any (n : Int) (A : Option Addr) (c : Nat) (es : List E3) (hn : es.length ≤ 40) (B : Option Addr) (d : Nat) (xs : List Int) (hm : xs.length ≤ 1048576) (hl : (intE n es xs).1.length ≤ 256 ∧ (extE n es xs).1.length ≤ 256) (w : World) (h : Reads w w.heap.size 3 A es.length (edgeCells es)) (h' : Reads w w.heap.size 1 B xs.length (ints xs)) :
    Calls Tryz.prog 24 #[.agg #[.int .i64 n, .slice A es.length c], .slice B xs.length d] w fun e w' => ∃ A' c', e = .returned (.tuple #[.slice A' (weightE n es xs).1.length c', .int .i64 (weightE n es xs).2]) ∧ Reads w' w'.heap.size 3 A' (weightE n es xs).1.length (tmCells (weightE n es xs).1) ∧ Below w.heap.size w w' := by
  have TC := Lib.hid (fun (W : World) (hB : Below w.heap.size w W) => rtcheck_any n A c es hn B d xs hm W ((h.below hB).more hB.size) ((h'.below hB).more hB.size))
  have g := Blk.new w 24 #[.int .i64 n, .slice A es.length c]
  have hB : Below w.heap.size w (w.alloc (.cells #[.int .i64 n, .slice A es.length c] 24)) := (Below.refl _ _).alloc (Nat.le_refl _) _
  have k0 := g.cell 0
  have k1 := g.cell 1
  unfold weightE
  obtain ⟨N, hN⟩ : ∃ N, xs.length = N := ⟨_, rfl⟩
  by_cases hz : treeErr n es xs = 0
  · rw [if_pos hz]
    rw [hz] at TC
    dsimp only
    have ei : intE n es xs = (nI (insA (endsL es) (toN xs)), 0) := if_pos hz
    have ee : extE n es xs = (nI (outA (endsL es) (toN xs)), 0) := if_pos hz
    obtain ⟨m, t, rfl, hxt, hR⟩ := treeR_of hz
    have hxn : toN xs = t := by rw [hxt, toN_nI]
    rw [hxn] at ei ee
    rw [ei, ee] at hl ⊢
    dsimp only at hl ⊢
    rw [nI_length, nI_length] at hl ⊢
    have hxl : xs.length = t.length := by rw [hxt, nI_length]
    have hrt : Reads w w.heap.size 1 B t.length (ints (nI t)) := by rw [hxl, hxt] at h'; exact h'
    have hNt : t.length = N := by rw [← hxl, hN]
    obtain ⟨ins, hins⟩ : ∃ l, insA (endsL es) t = l := ⟨_, rfl⟩
    obtain ⟨outs, houts⟩ : ∃ l, outA (endsL es) t = l := ⟨_, rfl⟩
    rw [hins, houts] at hl ⊢
    obtain ⟨ni, hni⟩ : ∃ n, ins.length = n := ⟨_, rfl⟩
    obtain ⟨no, hno⟩ : ∃ n, outs.length = n := ⟨_, rfl⟩
    rw [hni, hno] at hl ⊢
    have IC : Hid (∀ (W : World), Below w.heap.size w W → Calls Tryz.prog 46 #[.agg #[.int .i64 m, .slice A es.length c], .slice B N d] W fun e w' => ∃ A' c', e = .returned (.slice A' ni c') ∧ Reads w' w'.heap.size 1 A' ni (ints (nI ins)) ∧ Below W.heap.size W w') := fun W hB => by
      have hc := rinside_any m A c es hn B d t hR W ((h.below hB).more hB.size) ((hrt.below hB).more hB.size)
      rw [hins, hni, hNt] at hc
      refine hc.mono ?_
      rintro e w' ⟨A', c', he, o, hb⟩
      have hr := o.reads
      rw [nI_length, hni] at hr
      exact ⟨A', c', he, hr, hb⟩
    have OC : Hid (∀ (W : World), Below w.heap.size w W → Calls Tryz.prog 49 #[.agg #[.int .i64 m, .slice A es.length c], .slice B N d] W fun e w' => ∃ A' c', e = .returned (.slice A' no c') ∧ Reads w' w'.heap.size 1 A' no (ints (nI outs)) ∧ Below W.heap.size W w') := fun W hB => by
      have hc := routside_any m A c es hn B d t hR W ((h.below hB).more hB.size) ((hrt.below hB).more hB.size)
      rw [houts, hno, hNt] at hc
      refine hc.mono ?_
      rintro e w' ⟨A', c', he, o, hb⟩
      have hr := o.reads
      rw [nI_length, hno] at hr
      exact ⟨A', c', he, hr, hb⟩
    rw [hN] at TC ⊢
    have HL := Lib.hid hl
    clear hz ei ee hxt hR hxn hxl hrt hNt hins houts hni hno hN hm h h' hl
    have MC : Hid (∀ W : World, Calls Tryz.prog 63 #[.int .i64 ni, .int .i64 no, .string ⟨#[49]⟩] W fun e w' => ∃ A' c', e = .returned (.tuple #[.slice A' 1 c', .int .i64 0]) ∧ Reads w' w'.heap.size 3 A' 1 (tmCells [((ni, no), 1)]) ∧ Below W.heap.size W w') := fun W => by
      have hc := rmonomial_one ni no HL.out.1 HL.out.2 W
      rw [← oneLit] at hc
      refine hc.mono ?_
      rintro e w' ⟨A', c', he, o, hb⟩
      exact ⟨A', c', he, o.reads, hb⟩
    go_enter Tryz.func24, Tryz.ntmps24
    go_wp2_with fail
    refine (TC.out _ hB).mono ?_
    rintro e wn ⟨rfl, hb⟩
    have g := g.next hb
    have hB := hB.trans (hb.mono hB.size)
    have k0 := g.cell 0
    have k1 := g.cell 1
    clear hb
    go_wp2
    go_region_held3 (fun W => W.cell? ⟨w.heap.size, 0, none⟩ = some (.int .i64 m) ∧ W.cell? ⟨w.heap.size, 1, none⟩ = some (.slice A es.length c)) (go_keep) (first
      | (go_at_call 46; refine (IC.out _ hB.drew).mono ?_; rintro e w5 ⟨A5, c5, rfl, r5, hb5⟩; have g5 := g.drew.next hb5; have k0' := g5.cell 0; have k1' := g5.cell 1; have hB5 := hB.drew.trans (hb5.mono hB.size))
      | (go_at_call 49; refine (OC.out _ hB5).mono ?_; rintro e w7 ⟨A6, c6, rfl, r6, hb6⟩; have g7 := g5.next hb6; have k0'' := g7.cell 0; have k1'' := g7.cell 1; have hB7 := hB5.trans (hb6.mono hB5.size))
      | (go_at_call 49; refine (OC.out _ hB.drew).mono ?_; rintro e w6 ⟨A6, c6, rfl, r6, hb6⟩; have g6 := g.drew.next hb6; have k0' := g6.cell 0; have k1' := g6.cell 1; have hB6 := hB.drew.trans (hb6.mono hB.size))
      | (go_at_call 46; refine (IC.out _ hB6).mono ?_; rintro e w7 ⟨A5, c5, rfl, r5, hb5⟩; have g7 := g6.next hb5; have k0'' := g7.cell 0; have k1'' := g7.cell 1; have hB7 := hB6.trans (hb5.mono hB6.size))
      | (go_at_call 63; refine (MC.out _).mono ?_; rintro e w9 ⟨A9, c9, rfl, r9, hb9⟩; have k09 := (g7.next hb9).cell 0; have k19 := (g7.next hb9).cell 1)
      | fail)
    all_goals
      have hB9 := hB7.trans (hb9.mono hB7.size)
      go_wp2
      go_ret2
      exact ⟨A9, c9, rfl, r9, hB9⟩
  · rw [if_neg hz]
    dsimp only
    obtain ⟨z, hzz⟩ : ∃ z, treeErr n es xs = z := ⟨_, rfl⟩
    rw [hzz] at TC hz ⊢
    rw [hN] at TC ⊢
    have hzb : (z != 0) = true := by simpa using hz
    clear hz hzz hN hm h h' hl
    go_enter Tryz.func24, Tryz.ntmps24
    go_wp2_with fail
    refine (TC.out _ hB).mono ?_
    rintro e wn ⟨rfl, hb⟩
    have hB := hB.trans (hb.mono hB.size)
    go_wp2
    go_ret2
    exact ⟨none, 0, rfl, Reads.nil_, hB⟩
end Go.Proofs.YtplgbapbgcipdaaGreatDoor

