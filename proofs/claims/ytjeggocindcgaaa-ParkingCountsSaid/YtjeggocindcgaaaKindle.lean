/-
  Package burning: the wood of a configuration; the vertices that are not burnt.
-/
import Derived.Test.YtjeggocindcgaaaWood
import Derived.Deep.RegionWith
import Derived.BigRegion
namespace Go.Proofs.Ytjeggocindcgaaa
open Go.RowKit

def natI (l : List Nat) : List Int := l.map fun u : Nat => (u : Int)
theorem natI_length (l : List Nat) : (natI l).length = l.length := by simp [natI]
theorem natI_snoc (l : List Nat) (x : Nat) : natI (l ++ [x]) = natI l ++ [(x : Int)] := by simp [natI]
theorem restL_succ (n : Nat) (l : List Nat) : restL (n + 1) l = if n ∈ l then restL n l else restL n l ++ [n] := by
  unfold restL
  rw [List.range_succ, List.filter_append]
  by_cases h : n ∈ l <;> simp [h]
theorem restL_length (n : Nat) (l : List Nat) : (restL n l).length ≤ n := by
  unfold restL; exact Nat.le_trans (List.length_filter_le _ _) (by simp)

set_option maxRecDepth 100000 in
set_option maxHeartbeats 2000000 in
theorem unburnt_any (g n : Nat) (hn : n ≤ 12) (es : List E3) (ch : Value) (l : List Nat) (w : World) (h : Wood w g n es ch l) :
    Calls Try.prog 76 #[.pointer (some ⟨g, 0, none⟩)] w fun e w' => ∃ A c, e = .returned (.slice A (restL n l).length c) ∧ OwnI w' w.heap.size A c (natI (restL n l)) ∧ Below w.heap.size w w' := by
  have c0 := h.n_
  have hgl : g < w.heap.size := Blk.lt h
  go_enter Try.func76, Try.ntmps76
  go_wp2
  go_loopw [3, 9] (fun s i wr => ∃ (k : Nat) (A : Option Addr) (c : Nat) (r : List Nat), k ≤ n ∧ i = .int .i64 k ∧ s = .slice A (natI r).length c ∧ Hid (restL k l = r) ∧ (natI r).length ≤ k ∧ OwnI wr w.heap.size A c (natI r) ∧ Below w.heap.size w wr) (fun _ i _ => n - (intOf i).toNat)
  case atStart => exact ⟨0, none, 0, [], by omega, rfl, rfl, rfl, by simp [natI], OwnI.nil_ _ _, Below.refl _ _⟩
  case round =>
    obtain ⟨k, A, c, r, hk, rfl, rfl, HR, hrl, hown, hbel⟩ := hrel
    have hw : Wood wr g n es ch l := Blk.below h hbel hgl
    have hsz := hbel.size
    clear c0
    by_cases hlt : k < n
    · have hi : (k : Int) < (n : Int) := by omega
      have hi2 : (k : Int) < 12 := by omega
      have cb := hw.burnt_ (u := k) (by omega)
      have hrs := restL_succ k l
      rw [HR.out] at hrs
      by_cases hm : k ∈ l
      · rw [decide_eq_true hm] at cb
        rw [if_pos hm] at hrs
        have HS := Lib.hid hrs
        clear hrs hm
        go_wp2
        go_roundw
        case rel => exact ⟨k + 1, A, c, r, by omega, by go_num, rfl, HS.out, by omega, hown, hbel⟩
        case measure => simp [intOf]; omega
      · rw [decide_eq_false hm] at cb
        rw [if_neg hm] at hrs
        have HS := Lib.hid hrs
        clear hrs hm
        go_wp2_with (at_builtin; refine push_int rfl (.tmp 19) (.tmp 21) _ rfl Try.underlying22 w.heap.size A c (natI r) (k : Int) rfl hown rfl rfl (by omega) hsz ?_; intro A2 c2 w2 hown2 hg2 hb2)
        go_roundw
        case rel => exact ⟨k + 1, A2, c2, r ++ [k], by omega, by go_num, by rw [natI_snoc]; simp, HS.out, by rw [natI_snoc]; simp; omega, by rw [natI_snoc]; exact hown2, hbel.trans (hb2.mono (Nat.le_refl _))⟩
        case measure => simp [intOf]; omega
    · obtain rfl : k = n := by omega
      go_wp2
      go_ret
      refine ⟨A, c, ?_, ?_, hbel⟩
      · rw [HR.out, natI_length]; rfl
      · rw [HR.out]; exact hown

set_option maxHeartbeats 1000000 in
/-- slices.Clone on divisors. -/
theorem dclone_any (A : Option Addr) (c : Nat) (xs : List Int) (hn : xs.length ≤ 1048000) (w : World) (h : Reads w w.heap.size 1 A xs.length (ints xs)) :
    Calls Try.prog 80 #[.slice A xs.length c] w fun e w' =>
      ∃ A' c', e = .returned (.slice A' xs.length c') ∧ OwnI w' w.heap.size A' c' xs ∧ Below w.heap.size w w' := by
  have q22 : ∀ (w : World) (a : Option Addr) (n c n' c' : Nat), (binOp .eql 53 (.slice a n c) (.slice none n' c')).run Try.prog w = .ok (.bool a.isNone) w := fun w a n c n' c' => Lib.run_eql_slice_nil w _ _ a n c n' c' Try.underlying53
  rcases A with _ | ad
  · have hx : xs = [] := by
      rcases xs with _ | ⟨x, xs⟩
      · rfl
      · obtain ⟨_, _, h, _⟩ := h.2 (by simp)
        cases h
    subst hx
    go_enter Try.func80, Try.ntmps80
    go_wp2
    go_ret
    exact ⟨none, 0, rfl, OwnI.nil_ _ _, Below.refl _ _⟩
  · go_enter Try.func80, Try.ntmps80
    have hown0 : (w.alloc (.cells #[] 3)).ownsRow w.heap.size 3 1 (.slice (some ⟨w.heap.size, 0, none⟩) 0 0) 0 [] := World.ownsRow_made w #[] 0 (Nat.le_refl _) (by simp [maxLen]) (by simp)
    have hr := h.alloc (Nat.le_refl _) (.cells #[] 3)
    go_wp2_with (at_builtin; refine append_go rfl (.tmp 5) (.tmp 6) _ rfl w.heap.size 3 Try.underlying53 info_int rfl (by omega) (some ⟨w.heap.size, 0, none⟩) 0 0 [] rfl hown0 w.heap.size (ints xs) rfl hr (by simp [ints, Value.oneCell']) (by omega) (by simp) ?_; intro A' c' w' hown' _ hb' _)
    go_ret
    refine ⟨A', c', rfl, ?_, ((Below.refl _ _).alloc (Nat.le_refl _) _).trans hb'⟩
    rw [Nat.zero_add, List.nil_append] at hown'
    exact hown'

set_option maxRecDepth 100000 in
set_option maxHeartbeats 4000000 in
theorem kindled_any (n : Nat) (A : Option Addr) (c : Nat) (es : List E3) (hn : es.length ≤ 1048576) (hG : RightG n es) (q : Nat) (hq : q < n) (B : Option Addr) (d : Nat) (cs : List Int) (hm : cs.length ≤ 1048000) (w : World) (h : Reads w w.heap.size 3 A es.length (edgeCells es)) (h' : Reads w w.heap.size 1 B cs.length (ints cs)) :
    Calls Try.prog 74 #[.agg #[.int .i64 n, .slice A es.length c], .int .i64 q, .slice B cs.length d] w fun e w' => ∃ g A' c', e = .returned (.pointer (some ⟨g, 0, none⟩)) ∧ Wood w' g n es (.slice A' cs.length c') [q] ∧ OwnI w' w.heap.size A' c' cs ∧ w.heap.size ≤ g ∧ Below w.heap.size w w' := by
  have HG := Lib.hid hG
  have g0 := Blk.new w 52 #[.int .i64 n, .slice A es.length c]
  have CC := Lib.hid (dclone_any B d cs hm (w.alloc (.cells #[.int .i64 n, .slice A es.length c] 52)).drew ((h'.alloc (Nat.le_refl _) (.cells #[.int .i64 n, .slice A es.length c] 52)).more (by simp [World.drew])))
  clear hG
  go_enter Try.func74, Try.ntmps74
  go_wp2
  go_region_with (go_at_call 80; refine (CC.out).mono ?_; rintro e w1 ⟨A1, cA, rfl, o1, hb1⟩; have g1 := g0.drew.next hb1; have c0 := g1.cell 0)
  all_goals (
    have hc1 : ∀ o, (w1.alloc o).cell? ⟨w.heap.size, 1, none⟩ = some (.slice A es.length c) := fun o => (g1.alloc o).cell 1
    have gW : ∀ (L : Array Value), L = wcells n (tt []) (.slice A1 cs.length cA) [] → ∀ W, W = w1.alloc (.cells L 131) → Wood W w1.heap.size n [] (.slice A1 cs.length cA) [] := by
      rintro _ rfl _ rfl
      exact Blk.new w1 131 _
    have o3 : ∀ o, OwnI (w1.alloc o) w.heap.size A1 cA cs := fun o => (o1.alloc o).mono (by simp [World.drew])
    have hbel1 : Below w.heap.size w w1 := ((Below.refl _ _).alloc (Nat.le_refl _) _).drew.trans (hb1.mono (by simp [World.drew]))
    have hbel2 : ∀ o, Below w.heap.size w (w1.alloc o) := fun o => hbel1.alloc hbel1.size o
    have hs1 := g1.lt
    have GW := Lib.hid gW
    have O3 := Lib.hid o3
    have HB2 := Lib.hid hbel2
    clear g1 c0 o1 hb1 CC hbel1 g0 gW o3 hbel2
    go_wp2
    go_loopw [19] (fun i wr => ∃ k : Nat, k ≤ es.length ∧ i = .int .i64 k ∧ Below w.heap.size w wr ∧ Wood wr w1.heap.size n (es.take k) (.slice A1 cs.length cA) [] ∧ OwnI wr w.heap.size A1 cA cs) (fun i _ => es.length - (intOf i).toNat)
    case atStart => exact ⟨0, by omega, rfl, HB2.out _, GW.out _ rfl _ rfl, O3.out _⟩
    clear HB2 GW O3 hc1
    case round =>
      obtain ⟨k, hk, rfl, hbel, gw, ow⟩ := hrel
      have hsz := hbel.size
      by_cases hlt : k < es.length
      · obtain ⟨⟨x, y, m⟩, hx⟩ := get_of_lt hlt
        have hok := HG.out.ok _ (List.mem_of_getElem? hx)
        have hhi := HG.out.hi
        unfold okE at hok
        dsimp only at hok
        obtain ⟨a, rfl⟩ := Int.eq_ofNat_of_zero_le (show 0 ≤ x by omega)
        obtain ⟨b, rfl⟩ := Int.eq_ofNat_of_zero_le (show 0 ≤ y by omega)
        have ha : a < 12 := by omega
        have hb : b < 12 := by omega
        have ha2 : (a : Int) < 12 := by omega
        have hb2 : (b : Int) < 12 := by omega
        have htk := take_snoc hx
        have hst : ∀ u v, tt (es.take (k + 1)) u v = if u ≠ v ∧ ((u = a ∧ v = b) ∨ (u = b ∧ v = a)) then m else tt (es.take k) u v := by
          intro u v
          have hp : (es.take (k + 1)).Pairwise ltE := HG.out.sorted.sublist (List.take_sublist _ _)
          rw [htk] at hp ⊢
          exact tt_snoc hp (fun z hz => HG.out.ok z (by rw [← htk] at hz; exact List.mem_of_mem_take hz)) rfl rfl u v
        have HST := Lib.hid hst
        obtain ⟨bb, off, rfl, hbb, q1, q2, q3⟩ := (h.below hbel).edge hx
        have hi : (k : Int) < (es.length : Int) := by omega
        dsimp only at q1 q2 q3
        have gw' : Wood (wr.alloc (.cells #[.int .i64 a, .int .i64 b, .int .i64 m] 62)) w1.heap.size n (es.take k) (.slice A1 cs.length cA) [] := Blk.alloc gw _
        have ow' := ow.alloc (.cells #[.int .i64 a, .int .i64 b, .int .i64 m] 62)
        have hbl' := hbel.alloc hsz (.cells #[.int .i64 a, .int .i64 b, .int .i64 m] 62)
        have hgl0 := Blk.lt gw
        have gw0 := gw
        have ow0 := ow
        have hbel0 := hbel
        clear hx h hbel hok htk hst gw ow
        by_cases hab : a = b
        · have hq : ((a : Int) != (b : Int)) = false := by simp; omega
          have hw2 : Wood (wr.alloc (.cells #[.int .i64 a, .int .i64 b, .int .i64 m] 62)) w1.heap.size n (es.take (k + 1)) (.slice A1 cs.length cA) [] := by
            unfold Wood at gw' ⊢
            rwa [wcells_ext (t := tt (es.take (k + 1))) (t' := tt (es.take k)) fun u v _ _ => by rw [HST.out, if_neg (by omega)]]
          clear hab gw0 ow0 hbel0
          go_wp2
          go_roundw
          case rel => exact ⟨k + 1, by omega, by go_num, hbl', hw2, ow'⟩
          case measure => simp [intOf]; omega
        · have hq : ((a : Int) != (b : Int)) = true := by simp; omega
          have t1 := gw0.tab_ ha hb
          have t2 := gw0.tab_ hb ha
          have f1 := Blk.frozen gw0 (1 + a * 12 + b)
          have f2 := Blk.frozen gw0 (1 + b * 12 + a)
          obtain ⟨z3, t3⟩ : ∃ z : Value, (wr.setCell ⟨w1.heap.size, 1 + a * 12 + b, none⟩ (.int .i64 m)).cell? ⟨w1.heap.size, 1 + b * 12 + a, none⟩ = some z := by
            have := Blk.cell (Blk.set_ gw0 (1 + a * 12 + b) (.int .i64 m)) (1 + b * 12 + a)
            rw [wcells_set_tab ha hb, wcells_tab hb ha] at this
            exact ⟨_, this⟩
          have hgl : w1.heap.size < wr.heap.size := hgl0
          have hne : ¬ wr.heap.size = w1.heap.size := by omega
          have ox : OwnI ((wr.setCell ⟨w1.heap.size, 1 + a * 12 + b, none⟩ (.int .i64 m)).setCell ⟨w1.heap.size, 1 + b * 12 + a, none⟩ (.int .i64 m)) w.heap.size A1 cA cs := (ow0.set_blk gw0 (by decide) _ _).set_blk (Blk.set_ gw0 _ _) (by decide) _ _
          have gx : Wood ((wr.setCell ⟨w1.heap.size, 1 + a * 12 + b, none⟩ (.int .i64 m)).setCell ⟨w1.heap.size, 1 + b * 12 + a, none⟩ (.int .i64 m)) w1.heap.size n (es.take (k + 1)) (.slice A1 cs.length cA) [] := by
            have := Blk.set_ (Blk.set_ gw0 (1 + a * 12 + b) (.int .i64 m)) (1 + b * 12 + a) (.int .i64 m)
            rw [wcells_set_tab ha hb, wcells_set_tab hb ha] at this
            unfold Wood
            rwa [wcells_ext (t := tt (es.take (k + 1))) (t' := fun x y => if x = b ∧ y = a then m else if x = a ∧ y = b then m else tt (es.take k) x y) fun u v _ _ => ?_]
            rw [HST.out]
            by_cases h1 : u = b ∧ v = a
            · rw [if_pos h1, if_pos (by omega)]
            · rw [if_neg h1]
              by_cases h2 : u = a ∧ v = b
              · rw [if_pos h2, if_pos (by omega)]
              · rw [if_neg h2, if_neg (by omega)]
          have bx : Below w.heap.size w ((wr.setCell ⟨w1.heap.size, 1 + a * 12 + b, none⟩ (.int .i64 m)).setCell ⟨w1.heap.size, 1 + b * 12 + a, none⟩ (.int .i64 m)) := (hbel0.setCell (by simp; omega) _).setCell (by simp; omega) _
          have ox1 := ox.alloc (.cells #[.int .i64 a, .int .i64 b, .int .i64 m] 62)
          have gx1 : Wood _ w1.heap.size n (es.take (k + 1)) (.slice A1 cs.length cA) [] := Blk.alloc gx (.cells #[.int .i64 a, .int .i64 b, .int .i64 m] 62)
          have bx1 := bx.alloc (by simp [World.setCell]; exact hsz) (.cells #[.int .i64 a, .int .i64 b, .int .i64 m] 62)
          clear gw' ow' hbl' hab ox gx bx gw0 ow0 hbel0
          go_wp2
          go_region
          all_goals go_wp2
          all_goals (
            go_roundw
            case rel => exact ⟨k + 1, by omega, by go_num, bx1.drew, gx1, ox1⟩
            case measure => simp [intOf]; omega)
      · obtain rfl : k = es.length := by omega
        rw [List.take_length] at gw
        have hgl0 := Blk.lt gw
        have f1 := Blk.frozen gw (146 + q)
        have c1 := gw.burnt_ (u := q) (by have := HG.out.hi; omega)
        have hq12 : (q : Int) < 12 := by have := HG.out.hi; omega
        go_wp2
        go_ret
        exact ⟨w1.heap.size, A1, cA, rfl, gw.burn (by omega), ow.set_blk gw (by decide) _ _, by omega, hbel.setCell (by simp; omega) _⟩)
end Go.Proofs.Ytjeggocindcgaaa
