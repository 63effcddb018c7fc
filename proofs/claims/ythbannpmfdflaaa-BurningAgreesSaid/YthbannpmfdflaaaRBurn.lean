/-
  The reference's fire: ref08.Holds, ref23.Joins, ref23.ready, ref23.Burnt, ref23.Unburnt.
-/
import Derived.Test.YthbannpmfdflaaaRChips
import Derived.Test.YthbannpmfdflaaaBurnP
import Derived.Test.YthbannpmfdflaaaLit
import Derived.StillTailTactics
import Derived.Deep.QuietTactic
import Derived.BigQuiet
import Derived.Deep.RegionWith
namespace Go.Proofs.Ythbannpmfdflaaa
open Go.RowKit

def natsI (l : List Nat) : List Int := l.map fun u : Nat => (u : Int)
theorem natsI_at {l : List Nat} {k x : Nat} (h : l[k]? = some x) : (natsI l)[k]? = some (x : Int) := by simp [natsI, h]
theorem natsI_length (l : List Nat) : (natsI l).length = l.length := by simp [natsI]
theorem natsI_snoc (l : List Nat) (x : Nat) : natsI (l ++ [x]) = natsI l ++ [(x : Int)] := by simp [natsI]
theorem natsI_mem {l : List Nat} {v : Nat} : ((v : Int) ∈ natsI l) ↔ v ∈ l := by
  unfold natsI; rw [List.mem_map]
  constructor
  · rintro ⟨u, hu, e⟩; have : u = v := by omega
    exact this ▸ hu
  · intro h; exact ⟨v, h, rfl⟩

set_option maxHeartbeats 1000000 in
theorem holds_any (A : Option Addr) (c : Nat) (xs : List Int) (hn : xs.length ≤ 1048576) (v : Int) (w : World) (h : Reads w w.heap.size 1 A xs.length (ints xs)) :
    Calls Try.prog 127 #[.slice A xs.length c, .int .i64 v] w fun e w' => e = .returned (.bool (decide (v ∈ xs))) ∧ w = w' := by
  obtain ⟨r, hr⟩ : ∃ r, decide (v ∈ xs) = r := ⟨_, rfl⟩
  rw [hr]
  have HR := Lib.hid hr
  clear hr
  go_enter Try.func127, Try.ntmps127
  go_wp2
  go_loop [5] (fun i => ∃ k : Nat, k ≤ xs.length ∧ i = .int .i64 k ∧ Hid (v ∉ xs.take k)) (fun i => xs.length - (intOf i).toNat)
  case atStart => exact ⟨0, by omega, rfl, by simp [Hid]⟩
  case round =>
    obtain ⟨k, hk, rfl, HS⟩ := hrel
    by_cases hlt : k < xs.length
    · obtain ⟨x, hx⟩ := get_of_lt hlt
      obtain ⟨b, off, rfl, hb, hcell⟩ := h.at_ (ints_at hx)
      have hi : (k : Int) < (xs.length : Int) := by omega
      have htk := take_snoc hx
      by_cases hv : x = v
      · have e : (x == v) = true := by simpa using hv
        have HT : Hid (decide (v ∈ xs) = true) := by
          rw [Hid, decide_eq_true_eq, ← hv]; exact List.mem_of_getElem? hx
        clear hx htk hv
        go_wp2
        go_ret
        exact ⟨ret_bool (by rw [← HR.out, HT.out]), rfl⟩
      · have e : (x == v) = false := by simpa using hv
        have HN : Hid (v ∉ xs.take (k + 1)) := by
          rw [htk, Hid, List.mem_append]
          rintro (hc | hc)
          · exact HS.out hc
          · exact hv (List.mem_singleton.1 hc).symm
        clear hx htk hv
        go_wp2
        go_round
        case rel => exact ⟨k + 1, by omega, by go_num, HN⟩
        case measure => simp [intOf]; omega
    · obtain rfl : k = xs.length := by omega
      rw [List.take_length] at HS
      go_wp2
      go_ret
      refine ⟨ret_bool ?_, rfl⟩
      rw [← HR.out, decide_eq_false HS.out]

set_option maxRecDepth 100000 in
set_option maxHeartbeats 2000000 in
theorem rjoins_any (n : Int) (A : Option Addr) (c : Nat) (es : List E3) (hn : es.length ≤ 1048576) (N : Int) (hok : ∀ e ∈ es, okE N e) (v : Nat) (B : Option Addr) (d : Nat) (l : List Nat) (hl : l.length ≤ 100) (w : World) (h : Reads w w.heap.size 3 A es.length (edgeCells es)) (h' : Reads w w.heap.size 1 B l.length (ints (natsI l))) :
    Calls Try.prog 128 #[.agg #[.int .i64 n, .slice A es.length c], .int .i64 v, .slice B l.length d] w fun e w' => e = .returned (.int .i64 (joinsN es v l)) ∧ Below w.heap.size w w' := by
  have HO := Lib.hid hok
  have g0 := Blk.new w 24 #[.int .i64 n, .slice A es.length c]
  clear hok
  go_enter Try.func128, Try.ntmps128
  go_wp2
  go_loopw [7, 8] (fun s i wr => ∃ (k : Nat) (x : Int), k ≤ l.length ∧ i = .int .i64 k ∧ s = .int .i64 x ∧ 0 ≤ x ∧ x ≤ 50 * k ∧ Hid (joinsN es v (l.take k) = x) ∧ Below w.heap.size w wr ∧ Blk wr w.heap.size 24 #[.int .i64 n, .slice A es.length c]) (fun _ i _ => l.length - (intOf i).toNat)
  case atStart => exact ⟨0, 0, by omega, rfl, rfl, by omega, by omega, rfl, (Below.refl _ _).alloc (Nat.le_refl _) _, g0⟩
  case round =>
    obtain ⟨k, x, hk, rfl, rfl, hx0, hx1, HS, hbel, g1⟩ := hrel
    clear g0
    have hsz := hbel.size
    by_cases hlt : k < l.length
    · obtain ⟨u, hu⟩ := get_of_lt hlt
      obtain ⟨b, off, rfl, hb, hcell⟩ := (h'.below hbel).at_ (ints_at (natsI_at hu))
      have hi : (k : Int) < (l.length : Int) := by omega
      have hj := joinsN_snoc es v (l.take k) u
      rw [← take_snoc hu, HS.out] at hj
      have hbd := btw_bd HO.out (v : Int) (u : Int)
      have BC := Lib.hid (between_any n A c es hn v u wr.drew (by exact (h.below hbel).more hsz))
      obtain ⟨y, hy⟩ : ∃ y, btw es v u = y := ⟨_, rfl⟩
      rw [hy] at hj hbd BC
      have HJ := Lib.hid hj
      have c0 := g1.cell 0
      have c1 := g1.cell 1
      clear hj hy hu
      go_wp2
      go_region_with (go_at_call 156; refine (BC.out).mono ?_; rintro e w' ⟨rfl, hb'⟩)
      all_goals (
        have hb2 : Below wr.heap.size wr w' := (Below.refl _ _).drew.trans hb'
        go_wp2
        go_roundw
        case rel => exact ⟨k + 1, x + y, by omega, by go_num, rfl, by omega, by omega, HJ.out, hbel.trans (hb2.mono hsz), g1.next hb2⟩
        case measure => simp [intOf]; omega)
    · obtain rfl : k = l.length := by omega
      rw [List.take_length] at HS
      go_wp2
      go_ret
      exact ⟨ret_int (by rw [HS.out]), hbel⟩

set_option maxRecDepth 100000 in
set_option maxHeartbeats 4000000 in
theorem rready_any (n : Nat) (hn12 : n ≤ 12) (A : Option Addr) (c : Nat) (es : List E3) (hn : es.length ≤ 1048576) (N : Int) (hok : ∀ e ∈ es, okE N e) (B : Option Addr) (d : Nat) (cs : List Int) (hcl : cs.length = n) (D : Option Addr) (f : Nat) (l : List Nat) (hl : l.length ≤ 100) (w : World)
    (h : Reads w w.heap.size 3 A es.length (edgeCells es)) (h' : Reads w w.heap.size 1 B cs.length (ints cs)) (h'' : Reads w w.heap.size 1 D l.length (ints (natsI l))) :
    Calls Try.prog 131 #[.agg #[.int .i64 n, .slice A es.length c], .slice B cs.length d, .slice D l.length f] w fun e w' => ∃ A' c', e = .returned (.slice A' (readyL es cs n l).length c') ∧ OwnI w' w.heap.size A' c' (natsI (readyL es cs n l)) ∧ Below w.heap.size w w' := by
  have HO := Lib.hid hok
  have HCL := Lib.hid hcl
  have g0 := Blk.new w 24 #[.int .i64 n, .slice A es.length c]
  have hfs : ∀ k, ((List.range (k + 1)).filter (catL es cs l)) = ((List.range k).filter (catL es cs l)) ++ if catL es cs l k then [k] else [] := fun k => by
    rw [List.range_succ, List.filter_append]
    cases hc : catL es cs l k <;> simp [hc]
  have HFS := Lib.hid hfs
  have HRD : Hid (readyL es cs n l = (List.range n).filter (catL es cs l)) := rfl
  have hcat : ∀ k, catL es cs l k = (!decide (k ∈ l) && decide (cs.getD k 0 < joinsN es k l)) := fun _ => rfl
  have HCAT := Lib.hid hcat
  clear hok hcl hfs hcat
  go_enter Try.func131, Try.ntmps131
  go_wp2
  go_loopw [7, 8] (fun s i wr => ∃ (k : Nat) (A' : Option Addr) (c' : Nat) (r : List Nat), k ≤ n ∧ i = .int .i64 k ∧ s = .slice A' (natsI r).length c' ∧ Hid ((List.range k).filter (catL es cs l) = r) ∧ (natsI r).length ≤ k ∧ OwnI wr w.heap.size A' c' (natsI r) ∧ Below w.heap.size w wr ∧ Blk wr w.heap.size 24 #[.int .i64 n, .slice A es.length c]) (fun _ i _ => n - (intOf i).toNat)
  case atStart => exact ⟨0, none, 0, [], by omega, rfl, rfl, rfl, by simp [natsI], OwnI.nil_ _ _, (Below.refl _ _).alloc (Nat.le_refl _) _, g0⟩
  case round =>
    obtain ⟨k, A', c', r, hk, rfl, rfl, HR, hrl, hown, hbel, g1⟩ := hrel
    clear g0
    have hsz := hbel.size
    have c0 := g1.cell 0
    have c1 := g1.cell 1
    by_cases hlt : k < n
    · have hi : (k : Int) < (n : Int) := by omega
      obtain ⟨x, hx⟩ := get_of_lt (xs := cs) (k := k) (by have := HCL.out; omega)
      obtain ⟨b, off, rfl, hb, hcell⟩ := (h'.below hbel).at_ (ints_at hx)
      have hkc : (k : Int) < (cs.length : Int) := by have := HCL.out; omega
      have hct := HCAT.out k
      rw [getD_at hx] at hct
      have hfk := HFS.out k
      rw [HR.out] at hfk
      have HC := holds_any D f (natsI l) (by rw [natsI_length]; omega) (k : Int) wr.drew (by have := (h''.below hbel).more hsz; rw [natsI_length]; exact this)
      rw [natsI_length, show decide ((k : Int) ∈ natsI l) = decide (k ∈ l) from by rw [Bool.eq_iff_iff]; simp [natsI_mem]] at HC
      have JC := rjoins_any n A c es hn N HO.out k D f l hl wr.drew (by exact (h.below hbel).more hsz) (by exact (h''.below hbel).more hsz)
      by_cases hm : k ∈ l
      · rw [decide_eq_true hm] at HC hct
        have hc0 : catL es cs l k = false := by rw [hct]; rfl
        rw [hc0] at hfk
        have HF := Lib.hid hfk
        have hrl2 := (h''.below hbel).more hsz
        have HQ : Hid (∀ W : World, Reads W W.heap.size 1 D l.length (ints (natsI l)) → Calls Try.prog 127 #[.slice D l.length f, .int .i64 k] W fun e w' => e = .returned (.bool true) ∧ W = w') := by
          intro W hW
          have := holds_any D f (natsI l) (by rw [natsI_length]; omega) (k : Int) W (by rw [natsI_length]; exact hW)
          rwa [natsI_length, decide_eq_true (natsI_mem.2 hm)] at this
        have HRL := Lib.hid hrl2
        clear hct hc0 hfk hx hm JC HC hrl2
        go_wp2
        go_quiet ((go_at_call 127; exact Calls.quiet_of_same ((HQ.out _ (by exact HRL.out)).mono fun _ _ h => ⟨h.1, h.2.symm⟩)))
        go_wp2
        go_roundw
        case rel => exact ⟨k + 1, A', c', r, by omega, by go_num, rfl, by rw [HF.out]; simp [Hid], by omega, hown.drewN _, below_drewN hbel _, g1.drewN _⟩
        case measure => simp [intOf]; omega
      · rw [decide_eq_false hm] at HC hct
        have HC := Lib.hid HC
        have JC := Lib.hid JC
        obtain ⟨y, hy⟩ : ∃ y, joinsN es k l = y := ⟨_, rfl⟩
        rw [hy] at hct JC
        by_cases hxy : x < y
        · have hc0 : catL es cs l k = true := by rw [hct, decide_eq_true hxy]; rfl
          rw [hc0] at hfk
          have HF := Lib.hid hfk
          clear hct hc0 hfk hx hm hy
          go_wp2
          go_region_with (first
            | (go_at_call 127; refine (HC.out).mono ?_; rintro e w' ⟨rfl, rfl⟩)
            | (go_at_call 128; refine (JC.out).mono ?_; rintro e w2 ⟨rfl, hb2⟩; have e2 := (hb2.cell (p := ⟨b, off + k, none⟩) (by show b < wr.heap.size; omega)).trans hcell))
          all_goals (
            have hb3 : Below wr.heap.size wr w2 := (Below.refl _ _).drew.trans hb2
            have hown3 := hown.next hb3
            have hbel3 := hbel.trans (hb3.mono hsz)
            have hsz3 := hbel3.size
            have g3 := g1.next hb3
            go_wp2_with (at_builtin; refine push_int rfl (.tmp 30) (.tmp 32) _ rfl Try.underlying25 w.heap.size A' c' (natsI r) (k : Int) rfl hown3 rfl rfl (by omega) hsz3 ?_; intro A4 c4 w4 hown4 hg4 hb4; have g4 := (g3.alloc _).grown hg4 (own_blk_ne hown3 g3 (by decide)))
            go_roundw
            case rel => exact ⟨k + 1, A4, c4, r ++ [k], by omega, by go_num, by rw [natsI_snoc]; simp, by rw [HF.out]; simp [Hid], by rw [natsI_snoc]; simp; omega, by rw [natsI_snoc]; exact hown4, hbel3.trans hb4, g4⟩
            case measure => simp [intOf]; omega)
        · have hc0 : catL es cs l k = false := by rw [hct, decide_eq_false hxy]; rfl
          rw [hc0] at hfk
          have HF := Lib.hid hfk
          clear hct hc0 hfk hx hm hy
          go_wp2
          go_region_with (first
            | (go_at_call 127; refine (HC.out).mono ?_; rintro e w' ⟨rfl, rfl⟩)
            | (go_at_call 128; refine (JC.out).mono ?_; rintro e w2 ⟨rfl, hb2⟩; have e2 := (hb2.cell (p := ⟨b, off + k, none⟩) (by show b < wr.heap.size; omega)).trans hcell))
          all_goals (
            have hb3 : Below wr.heap.size wr w2 := (Below.refl _ _).drew.trans hb2
            go_wp2
            go_roundw
            case rel => exact ⟨k + 1, A', c', r, by omega, by go_num, rfl, by rw [HF.out]; simp [Hid], by omega, hown.next hb3, hbel.trans (hb3.mono hsz), g1.next hb3⟩
            case measure => simp [intOf]; omega)
    · obtain rfl : k = n := by omega
      go_wp2
      go_ret
      exact ⟨A', c', by rw [HRD.out, HR.out, natsI_length]; rfl, by rw [HRD.out, HR.out]; exact hown, hbel⟩
end Go.Proofs.Ythbannpmfdflaaa
