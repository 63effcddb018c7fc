/-
  Texts of this claim, put together: Kindle, Fire.
-/
import Derived.Test.YtghigdcpinengaaGreatK24
import Derived.Deep.RegionWith
import Derived.BigRegion
import Derived.Test.YtghigdcpinengaaGreatK11
import Derived.Stop.RegionWithIn
/-! Package burning: the wood of a configuration; the vertices that are not burnt. -/
namespace Go.Proofs.YtghigdcpinengaaGreat
open Go.RowKit

def natI (l : List Nat) : List Int := l.map fun u : Nat => (u : Int)
theorem natI_length (l : List Nat) : (natI l).length = l.length := by simp [natI]
theorem natI_snoc (l : List Nat) (x : Nat) : natI (l ++ [x]) = natI l ++ [(x : Int)] := by simp [natI]
theorem restL_succ (n : Nat) (l : List Nat) : restL (n + 1) l = if n ∈ l then restL n l else restL n l ++ [n] := by
  unfold restL
  rw [List.range_succ, List.filter_append]
  by_cases h : n ∈ l <;> simp [h]
set_option maxRecDepth 100000 in
set_option maxHeartbeats 2000000 in
theorem unburnt_any (g n : Nat) (hn : n ≤ 12) (es : List E3) (ch : Value) (l : List Nat) (w : World) (h : Wood w g n es ch l) :
    Calls Tryz.prog 138 #[.pointer (some ⟨g, 0, none⟩)] w fun e w' => ∃ A c, e = .returned (.slice A (restL n l).length c) ∧ OwnI w' w.heap.size A c (natI (restL n l)) ∧ Below w.heap.size w w' := by
  have c0 := h.n_
  have hgl : g < w.heap.size := Blk.lt h
  go_enter Tryz.func138, Tryz.ntmps138
  go_wp2
  go_loopw [3, 9] (fun s i wr => ∃ (k : Nat) (A : Option Addr) (c : Nat) (r : List Nat), k ≤ n ∧ i = .int .i64 k ∧ s = .slice A (natI r).length c ∧ Hid (restL k l = r) ∧ (natI r).length ≤ k ∧ OwnI wr w.heap.size A c (natI r) ∧ Below w.heap.size w wr) (fun _ i _ => n - (intOf i).toNat)
  case atStart => exact ⟨0, none, 0, [], by omega, rfl, rfl, rfl, by simp [natI], OwnI.nil_ _ _, Below.refl _ _⟩
  case round =>
    obtain ⟨k, A, c, r, hk, rfl, rfl, HR, hrl, hown, hbel⟩ := hrel
    have hw : Wood wr g n es ch l := Blk.below h hbel hgl
    have hsz := hbel.size
    clear c0
    by_cases hlt : k < n
    · have hi : (k : Int) < (n : Int) := by omega
      have hi2 : (k : Int) < 12 := by omega
      have cb := hw.burnt_ (u := k) (by omega)
      have hrs := restL_succ k l
      rw [HR.out] at hrs
      by_cases hm : k ∈ l
      · rw [decide_eq_true hm] at cb
        rw [if_pos hm] at hrs
        have HS := Lib.hid hrs
        clear hrs hm
        go_wp2
        go_roundw
        case rel => exact ⟨k + 1, A, c, r, by omega, by go_num, rfl, HS.out, by omega, hown, hbel⟩
        case measure => simp [intOf]; omega
      · rw [decide_eq_false hm] at cb
        rw [if_neg hm] at hrs
        have HS := Lib.hid hrs
        clear hrs hm
        go_wp2_with (at_builtin; refine push_int rfl (.tmp 19) (.tmp 21) _ rfl Tryz.underlying25 w.heap.size A c (natI r) (k : Int) rfl hown rfl rfl (by omega) hsz ?_; intro A2 c2 w2 hown2 hg2 hb2)
        go_roundw
        case rel => exact ⟨k + 1, A2, c2, r ++ [k], by omega, by go_num, by rw [natI_snoc]; simp, HS.out, by rw [natI_snoc]; simp; omega, by rw [natI_snoc]; exact hown2, hbel.trans (hb2.mono (Nat.le_refl _))⟩
        case measure => simp [intOf]; omega
    · obtain rfl : k = n := by omega
      go_wp2
      go_ret
      refine ⟨A, c, ?_, ?_, hbel⟩
      · rw [HR.out, natI_length]; rfl
      · rw [HR.out]; exact hown

set_option maxHeartbeats 1000000 in
/-- slices.Clone on divisors. -/
theorem dclone_any (A : Option Addr) (c : Nat) (xs : List Int) (hn : xs.length ≤ 1048000) (w : World) (h : Reads w w.heap.size 1 A xs.length (ints xs)) :
    Calls Tryz.prog 82 #[.slice A xs.length c] w fun e w' =>
      ∃ A' c', e = .returned (.slice A' xs.length c') ∧ OwnI w' w.heap.size A' c' xs ∧ Below w.heap.size w w' := by
  have q22 : ∀ (w : World) (a : Option Addr) (n c n' c' : Nat), (binOp .eql 26 (.slice a n c) (.slice none n' c')).run Tryz.prog w = .ok (.bool a.isNone) w := fun w a n c n' c' => Lib.run_eql_slice_nil w _ _ a n c n' c' Tryz.underlying26
  rcases A with _ | ad
  · have hx : xs = [] := by
      rcases xs with _ | ⟨x, xs⟩
      · rfl
      · obtain ⟨_, _, h, _⟩ := h.2 (by simp)
        cases h
    subst hx
    go_enter Tryz.func82, Tryz.ntmps82
    go_wp2
    go_ret
    exact ⟨none, 0, rfl, OwnI.nil_ _ _, Below.refl _ _⟩
  · go_enter Tryz.func82, Tryz.ntmps82
    have hown0 : (w.alloc (.cells #[] 3)).ownsRow w.heap.size 3 1 (.slice (some ⟨w.heap.size, 0, none⟩) 0 0) 0 [] := World.ownsRow_made w #[] 0 (Nat.le_refl _) (by simp [maxLen]) (by simp)
    have hr := h.alloc (Nat.le_refl _) (.cells #[] 3)
    go_wp2_with (at_builtin; refine append_go rfl (.tmp 5) (.tmp 6) _ rfl w.heap.size 3 Tryz.underlying26 info_int rfl (by omega) (some ⟨w.heap.size, 0, none⟩) 0 0 [] rfl hown0 w.heap.size (ints xs) rfl hr (by simp [ints, Value.oneCell']) (by omega) (by simp) ?_; intro A' c' w' hown' _ hb' _)
    go_ret
    refine ⟨A', c', rfl, ?_, ((Below.refl _ _).alloc (Nat.le_refl _) _).trans hb'⟩
    rw [Nat.zero_add, List.nil_append] at hown'
    exact hown'

set_option maxRecDepth 100000 in
set_option maxHeartbeats 4000000 in
theorem kindled_any (n : Nat) (A : Option Addr) (c : Nat) (es : List E3) (hn : es.length ≤ 1048576) (hG : RightG n es) (q : Nat) (hq : q < n) (B : Option Addr) (d : Nat) (cs : List Int) (hm : cs.length ≤ 1048000) (w : World) (h : Reads w w.heap.size 3 A es.length (edgeCells es)) (h' : Reads w w.heap.size 1 B cs.length (ints cs)) :
    Calls Tryz.prog 136 #[.agg #[.int .i64 n, .slice A es.length c], .int .i64 q, .slice B cs.length d] w fun e w' => ∃ g A' c', e = .returned (.pointer (some ⟨g, 0, none⟩)) ∧ Wood w' g n es (.slice A' cs.length c') [q] ∧ OwnI w' w.heap.size A' c' cs ∧ w.heap.size ≤ g ∧ Below w.heap.size w w' := by
  have HG := Lib.hid hG
  have g0 := Blk.new w 24 #[.int .i64 n, .slice A es.length c]
  have CC := Lib.hid (dclone_any B d cs hm (w.alloc (.cells #[.int .i64 n, .slice A es.length c] 24)).drew ((h'.alloc (Nat.le_refl _) (.cells #[.int .i64 n, .slice A es.length c] 24)).more (by simp [World.drew])))
  clear hG
  go_enter Tryz.func136, Tryz.ntmps136
  go_wp2
  go_region_with (go_at_call 82; refine (CC.out).mono ?_; rintro e w1 ⟨A1, cA, rfl, o1, hb1⟩; have g1 := g0.drew.next hb1; have c0 := g1.cell 0)
  all_goals (
    have hc1 : ∀ o, (w1.alloc o).cell? ⟨w.heap.size, 1, none⟩ = some (.slice A es.length c) := fun o => (g1.alloc o).cell 1
    have gW : ∀ (L : Array Value), L = wcells n (tt []) (.slice A1 cs.length cA) [] → ∀ W, W = w1.alloc (.cells L 191) → Wood W w1.heap.size n [] (.slice A1 cs.length cA) [] := by
      rintro _ rfl _ rfl
      exact Blk.new w1 191 _
    have o3 : ∀ o, OwnI (w1.alloc o) w.heap.size A1 cA cs := fun o => (o1.alloc o).mono (by simp [World.drew])
    have hbel1 : Below w.heap.size w w1 := ((Below.refl _ _).alloc (Nat.le_refl _) _).drew.trans (hb1.mono (by simp [World.drew]))
    have hbel2 : ∀ o, Below w.heap.size w (w1.alloc o) := fun o => hbel1.alloc hbel1.size o
    have hs1 := g1.lt
    have GW := Lib.hid gW
    have O3 := Lib.hid o3
    have HB2 := Lib.hid hbel2
    clear g1 c0 o1 hb1 CC hbel1 g0 gW o3 hbel2
    go_wp2
    go_loopw [19] (fun i wr => ∃ k : Nat, k ≤ es.length ∧ i = .int .i64 k ∧ Below w.heap.size w wr ∧ Wood wr w1.heap.size n (es.take k) (.slice A1 cs.length cA) [] ∧ OwnI wr w.heap.size A1 cA cs) (fun i _ => es.length - (intOf i).toNat)
    case atStart => exact ⟨0, by omega, rfl, HB2.out _, GW.out _ rfl _ rfl, O3.out _⟩
    clear HB2 GW O3 hc1
    case round =>
      obtain ⟨k, hk, rfl, hbel, gw, ow⟩ := hrel
      have hsz := hbel.size
      by_cases hlt : k < es.length
      · obtain ⟨⟨x, y, m⟩, hx⟩ := get_of_lt hlt
        have hok := HG.out.ok _ (List.mem_of_getElem? hx)
        have hhi := HG.out.hi
        unfold okE at hok
        dsimp only at hok
        obtain ⟨a, rfl⟩ := Int.eq_ofNat_of_zero_le (show 0 ≤ x by omega)
        obtain ⟨b, rfl⟩ := Int.eq_ofNat_of_zero_le (show 0 ≤ y by omega)
        have ha : a < 12 := by omega
        have hb : b < 12 := by omega
        have ha2 : (a : Int) < 12 := by omega
        have hb2 : (b : Int) < 12 := by omega
        have htk := take_snoc hx
        have hst : ∀ u v, tt (es.take (k + 1)) u v = if u ≠ v ∧ ((u = a ∧ v = b) ∨ (u = b ∧ v = a)) then m else tt (es.take k) u v := by
          intro u v
          have hp : (es.take (k + 1)).Pairwise ltE := HG.out.sorted.sublist (List.take_sublist _ _)
          rw [htk] at hp ⊢
          exact tt_snoc hp (fun z hz => HG.out.ok z (by rw [← htk] at hz; exact List.mem_of_mem_take hz)) rfl rfl u v
        have HST := Lib.hid hst
        obtain ⟨bb, off, rfl, hbb, q1, q2, q3⟩ := (h.below hbel).edge hx
        have hi : (k : Int) < (es.length : Int) := by omega
        dsimp only at q1 q2 q3
        have gw' : Wood (wr.alloc (.cells #[.int .i64 a, .int .i64 b, .int .i64 m] 104)) w1.heap.size n (es.take k) (.slice A1 cs.length cA) [] := Blk.alloc gw _
        have ow' := ow.alloc (.cells #[.int .i64 a, .int .i64 b, .int .i64 m] 104)
        have hbl' := hbel.alloc hsz (.cells #[.int .i64 a, .int .i64 b, .int .i64 m] 104)
        have hgl0 := Blk.lt gw
        have gw0 := gw
        have ow0 := ow
        have hbel0 := hbel
        clear hx h hbel hok htk hst gw ow
        by_cases hab : a = b
        · have hq : ((a : Int) != (b : Int)) = false := by simp; omega
          have hw2 : Wood (wr.alloc (.cells #[.int .i64 a, .int .i64 b, .int .i64 m] 104)) w1.heap.size n (es.take (k + 1)) (.slice A1 cs.length cA) [] := by
            unfold Wood at gw' ⊢
            rwa [wcells_ext (t := tt (es.take (k + 1))) (t' := tt (es.take k)) fun u v _ _ => by rw [HST.out, if_neg (by omega)]]
          clear hab gw0 ow0 hbel0
          go_wp2
          go_roundw
          case rel => exact ⟨k + 1, by omega, by go_num, hbl', hw2, ow'⟩
          case measure => simp [intOf]; omega
        · have hq : ((a : Int) != (b : Int)) = true := by simp; omega
          have t1 := gw0.tab_ ha hb
          have t2 := gw0.tab_ hb ha
          have f1 := Blk.frozen gw0 (1 + a * 12 + b)
          have f2 := Blk.frozen gw0 (1 + b * 12 + a)
          obtain ⟨z3, t3⟩ : ∃ z : Value, (wr.setCell ⟨w1.heap.size, 1 + a * 12 + b, none⟩ (.int .i64 m)).cell? ⟨w1.heap.size, 1 + b * 12 + a, none⟩ = some z := by
            have := Blk.cell (Blk.set_ gw0 (1 + a * 12 + b) (.int .i64 m)) (1 + b * 12 + a)
            rw [wcells_set_tab ha hb, wcells_tab hb ha] at this
            exact ⟨_, this⟩
          have hgl : w1.heap.size < wr.heap.size := hgl0
          have hne : ¬ wr.heap.size = w1.heap.size := by omega
          have ox : OwnI ((wr.setCell ⟨w1.heap.size, 1 + a * 12 + b, none⟩ (.int .i64 m)).setCell ⟨w1.heap.size, 1 + b * 12 + a, none⟩ (.int .i64 m)) w.heap.size A1 cA cs := (ow0.set_blk gw0 (by decide) _ _).set_blk (Blk.set_ gw0 _ _) (by decide) _ _
          have gx : Wood ((wr.setCell ⟨w1.heap.size, 1 + a * 12 + b, none⟩ (.int .i64 m)).setCell ⟨w1.heap.size, 1 + b * 12 + a, none⟩ (.int .i64 m)) w1.heap.size n (es.take (k + 1)) (.slice A1 cs.length cA) [] := by
            have := Blk.set_ (Blk.set_ gw0 (1 + a * 12 + b) (.int .i64 m)) (1 + b * 12 + a) (.int .i64 m)
            rw [wcells_set_tab ha hb, wcells_set_tab hb ha] at this
            unfold Wood
            rwa [wcells_ext (t := tt (es.take (k + 1))) (t' := fun x y => if x = b ∧ y = a then m else if x = a ∧ y = b then m else tt (es.take k) x y) fun u v _ _ => ?_]
            rw [HST.out]
            by_cases h1 : u = b ∧ v = a
            · rw [if_pos h1, if_pos (by omega)]
            · rw [if_neg h1]
              by_cases h2 : u = a ∧ v = b
              · rw [if_pos h2, if_pos (by omega)]
              · rw [if_neg h2, if_neg (by omega)]
          have bx : Below w.heap.size w ((wr.setCell ⟨w1.heap.size, 1 + a * 12 + b, none⟩ (.int .i64 m)).setCell ⟨w1.heap.size, 1 + b * 12 + a, none⟩ (.int .i64 m)) := (hbel0.setCell (by simp; omega) _).setCell (by simp; omega) _
          have ox1 := ox.alloc (.cells #[.int .i64 a, .int .i64 b, .int .i64 m] 104)
          have gx1 : Wood _ w1.heap.size n (es.take (k + 1)) (.slice A1 cs.length cA) [] := Blk.alloc gx (.cells #[.int .i64 a, .int .i64 b, .int .i64 m] 104)
          have bx1 := bx.alloc (by simp [World.setCell]; exact hsz) (.cells #[.int .i64 a, .int .i64 b, .int .i64 m] 104)
          clear gw' ow' hbl' hab ox gx bx gw0 ow0 hbel0
          go_wp2
          go_region
          all_goals go_wp2
          all_goals (
            go_roundw
            case rel => exact ⟨k + 1, by omega, by go_num, bx1.drew, gx1, ox1⟩
            case measure => simp [intOf]; omega)
      · obtain rfl : k = es.length := by omega
        rw [List.take_length] at gw
        have hgl0 := Blk.lt gw
        have f1 := Blk.frozen gw (146 + q)
        have c1 := gw.burnt_ (u := q) (by have := HG.out.hi; omega)
        have hq12 : (q : Int) < 12 := by have := HG.out.hi; omega
        go_wp2
        go_ret
        exact ⟨w1.heap.size, A1, cA, rfl, gw.burn (by omega), ow.set_blk gw (by decide) _ _, by omega, hbel.setCell (by simp; omega) _⟩)
end Go.Proofs.YtghigdcpinengaaGreat

/-! Package burning: the fire. -/
namespace Go.Proofs.YtghigdcpinengaaGreat
open Go.RowKit Go.Shelf
attribute [local go_sem] Oper.semAt_some

/-- How many vertices are not burnt, read off the wood. -/
def leftW (w : World) (g n : Nat) : Nat := ((List.range n).filter fun u => match w.cell? ⟨g, 146 + u, none⟩ with | some (.bool false) => true | _ => false).length
theorem leftW_eq {w : World} {g n : Nat} {es : List E3} {ch : Value} {l : List Nat} (hn : n ≤ 12) (h : Wood w g n es ch l) : leftW w g n = (restL n l).length := by
  unfold leftW restL
  congr 1
  apply List.filter_congr
  intro u hu
  rw [List.mem_range] at hu
  rw [h.burnt_ (by omega)]
  by_cases hm : u ∈ l <;> simp [hm]

/-- The argument of a round is an int. -/
def ArgN (x : Nat) (args : Array Value) (_ : Nat → Prop) (_ : World) : Prop := args = #[.int .i64 x]

set_option maxHeartbeats 400000 in
theorem fire_any (g : Nat) (w : World) :
    Calls Tryz.prog 137 #[.pointer (some ⟨g, 0, none⟩)] w fun e w' =>
      e = .returned (.func (.func 155) #[] #[.pointer (some ⟨w.heap.size, 0, none⟩)]) ∧ w.alloc (.cells #[.pointer (some ⟨g, 0, none⟩)] 173) = w' := by
  have hmf : ∀ (fn : Fn) (first cap : Array Value) (w : World), (Instr.makeFunc fn first cap).run Tryz.prog w = .ok (.func fn first cap) w := fun _ _ _ _ => rfl
  go_enter Tryz.func137, Tryz.ntmps137
  go_wp2
  go_ret
  exact ⟨rfl, rfl⟩

set_option maxRecDepth 100000 in
set_option maxHeartbeats 4000000 in
theorem fire_iter (g n : Nat) (hn : n ≤ 12) (hn1 : 1 ≤ n) (es : List E3) (N : Int) (hok : ∀ e ∈ es, okE N e) (A : Option Addr) (c : Nat) (cs : List Int) (hcl : cs.length = n) (l : List Nat) (hl : LOk n l) (bw : Nat) (W0 : World)
    (h1 : Blk W0 bw 173 #[.pointer (some ⟨g, 0, none⟩)]) (h2 : Wood W0 g n es (.slice A cs.length c) l) (h3 : Reads W0 W0.heap.size 1 A cs.length (ints cs)) (hAg : ∀ k, blockOf A k → ¬ k = g) :
    IterF Tryz.prog 155 #[.pointer (some ⟨bw, 0, none⟩)] ArgN (fun k => k = bw ∨ k = g ∨ blockOf A k) (fun k => k = g) (fireS es cs n l) (fun W => Wood W g n es (.slice A cs.length c) (burnL es cs n n l)) W0 := by
  intro l' J Jx C W hL hC hJ hJx hY h0
  have k1 : Blk W bw 173 #[.pointer (some ⟨g, 0, none⟩)] := (hL.block bw h1.lt (.inl rfl)).trans h1
  have k2 : Wood W g n es (.slice A cs.length c) l := (hL.block g (Blk.lt h2) (.inr (.inl rfl))).trans h2
  have k3 : Reads W W.heap.size 1 A cs.length (ints cs) := ⟨h3.1, fun hn => by
    obtain ⟨b, off, rfl, hb, hc⟩ := h3.2 hn
    exact ⟨b, off, rfl, by have := hL.size; omega, fun j u hu => (World.cell?_of_block (w := W0) (hL.block b hb (.inr (.inr ⟨_, rfl, rfl⟩)))).trans (hc j u hu)⟩⟩
  have hgb : g ≠ bw := Blk.ne_ k2 k1 (by decide)
  have hgW : g < W.heap.size := Blk.lt k2
  have hbW : bw < W.heap.size := k1.lt
  have HA : Hid (∀ k, blockOf A k → k < W.heap.size) := fun k ⟨a, ha, hk⟩ => by
    rcases Nat.eq_zero_or_pos cs.length with h0 | h0
    · omega
    · obtain ⟨b, off, e, hb, _⟩ := k3.2 h0
      rw [e] at ha; injection ha with ha; subst ha; subst hk; exact hb
  have HOK := Lib.hid hok
  have HCL := Lib.hid hcl
  have HL := Lib.hid hl
  clear h1 h2 h3 hL hok hcl hl
  refine (callsIn_wide (n := 3)).1 ?_
  refine callsIn_of_wp_marks Tryz.func155 rfl trivial ?_
  simp only [Tryz.ntmps155, List.size_toArray, List.length_cons, List.length_nil, Nat.reduceAdd, Nat.reduceSub, Array.replicate_succ, Array.replicate_zero, List.push_toArray, List.append_toArray, List.nil_append, List.cons_append]
  gi_wp2_with fail
  gi_loopw [3] (fun v wl => ∃ (u : Nat) (pre : List Nat) (C' : Nat → Prop), v = .int .i64 u ∧ u ≤ n ∧ W.heap.size ≤ wl.heap.size ∧ Blk wl bw 173 #[.pointer (some ⟨g, 0, none⟩)] ∧ Wood wl g n es (.slice A cs.length c) (l ++ pre) ∧ Reads wl W.heap.size 1 A cs.length (ints cs) ∧
    Hid (LOk n (l ++ pre)) ∧ Hid (J pre C' wl) ∧ Hid (∀ k, C' k → k < wl.heap.size ∧ ¬ (k = bw ∨ k = g ∨ blockOf A k)) ∧ Hid (∀ x, x < u → catL es cs (l ++ pre) x = false) ∧ Hid (burnL es cs n n (l ++ pre) = burnL es cs n n l)) (fun v wl => leftW wl g n * 13 + (n - (intOf v).toNat))
  case atStart => exact ⟨0, [], C, rfl, by omega, Nat.le_refl _, k1, by rw [List.append_nil]; exact k2, k3, by rw [List.append_nil]; exact HL.out, h0, hC, fun x hx => by omega, by rw [List.append_nil]; rfl⟩
  case round =>
    obtain ⟨u, pre, C', rfl, hu, hsz, i1, i2, i3, IL, IJ, IC, IU, IB⟩ := hrel
    clear k1 k2 k3 h0
    have HY := Lib.hid hY
    have HJ := Lib.hid hJ
    clear hY hJ
    have c1 := i1.cell 0
    have c2 := i2.n_
    have hlw := leftW_eq hn i2
    by_cases hlt : u < n
    · have hi : (u : Int) < (n : Int) := by omega
      have hi2 : (u : Int) < 12 := by omega
      have hcl := HCL.out
      have CC := Lib.hid (catches_any g n hn es N HOK.out A c cs hcl (l ++ pre) IL.out u hlt wr i2 (i3.more hsz))
      cases hcat : catL es cs (l ++ pre) u
      · rw [hcat] at CC
        have HC := Lib.hid hcat
        clear hcat hcl
        gi_wp2_with fail
        refine ⟨trivial, ?_⟩
        refine (inW (CC.out)).mono ?_
        rintro e w' ⟨rfl, m, rfl⟩
        gi_wp2
        go_roundw
        case rel =>
          refine ⟨u + 1, pre, C', by go_num, by omega, hsz, i1.drewN m, Blk.drewN i2 m, i3.drewN m, IL, HJ.out _ _ _ _ IJ.out (Stays.of_only ((Only.refl (fun _ => False) wr).drewN m) (fun _ _ h => h.elim)), IC.out, ?_, IB⟩
          intro x hx
          by_cases he : x = u
          · subst he; exact HC.out
          · exact IU.out x (by omega)
        case measure =>
          rw [show leftW (wr.drewN m) g n = leftW wr g n from rfl]
          simp [intOf]; omega
      · have hct := catL_true.1 hcat
        rw [hcat] at CC
        have hhead := head_ready_of hlt hcat IU.out
        have HB2 := Lib.hid ((burnL_next IL.out hhead).symm.trans IB.out)
        rw [List.append_assoc] at HB2
        have HLO := Lib.hid (IL.out.snoc hct.1 hlt)
        rw [List.append_assoc] at HLO
        have HPX := Lib.hid (fire_pre HB2.out)
        have hrl := rest_len (n := n) (l ++ pre) IL.out
        have hrl2 := rest_len (n := n) (l ++ (pre ++ [u])) HLO.out
        have hll : (l ++ (pre ++ [u])).length = (l ++ pre).length + 1 := by simp; omega
        rw [← hlw] at hrl
        obtain ⟨rl2, hrl3⟩ : ∃ r, (restL n (l ++ (pre ++ [u]))).length = r := ⟨_, rfl⟩
        have HRL := Lib.hid hrl3
        rw [hrl3, hll] at hrl2
        obtain ⟨LL, hLL⟩ : ∃ r, (l ++ pre).length = r := ⟨_, rfl⟩
        rw [hLL] at hrl hrl2
        clear hcat hcl hct hhead hlw hll hrl3 hLL
        gi_wp2_with fail
        refine ⟨trivial, ?_⟩
        refine (inW (CC.out)).mono ?_
        rintro e w' ⟨rfl, m, rfl⟩
        have j1 : Blk ((wr.drewN m).setCell ⟨g, 146 + u, none⟩ (.bool true)) bw 173 #[.pointer (some ⟨g, 0, none⟩)] := (i1.drewN m).far (by simpa using Ne.symm hgb) _
        have j2 : Wood ((wr.drewN m).setCell ⟨g, 146 + u, none⟩ (.bool true)) g n es (.slice A cs.length c) (l ++ (pre ++ [u])) := by
          have := Wood.burn (w := wr.drewN m) (Blk.drewN i2 m) (u := u) (by omega)
          rwa [List.append_assoc] at this
        have hoS : Only (fun k => k = g) wr ((wr.drewN m).setCell ⟨g, 146 + u, none⟩ (.bool true)) := Only.setCell (C := fun k => k = g) (p := ⟨g, 146 + u, none⟩) ((Only.refl _ wr).drewN m) (.inl rfl) _
        have hIC := IC.out
        have hJ1 := HJ.out _ _ _ _ IJ.out (Stays.of_only (B := W.heap.size) (M := fun k => k = g) (C' := C') hoS (fun k _ hk => ⟨fun hc => (hIC k hc).2 (.inr (.inl hk)), .inr hk⟩))
        have hIB : ∀ k, k < W.heap.size → k = bw ∨ k = g ∨ blockOf A k → ¬ C' k := fun k _ hk hc => (hIC k hc).2 hk
        have hsz1 : wr.heap.size ≤ ((wr.drewN m).setCell ⟨g, 146 + u, none⟩ (.bool true)).heap.size := hoS.size
        obtain ⟨fn, tmps, assign, body, hy, hR⟩ := HY.out pre u C' ((wr.drewN m).setCell ⟨g, 146 + u, none⟩ (.bool true)) #[.int .i64 u] (fun _ => False) HPX.out hJ1 (by omega) (fun k hk => Nat.lt_of_lt_of_le (hIC k hk).1 hsz1) (fun k hk => hk.elim) rfl
        have c3 : (wr.drewN m).cell? ⟨bw, 0, none⟩ = some (.pointer (some ⟨g, 0, none⟩)) := c1
        have c4 : (wr.drewN m).cell? ⟨g, 146 + u, none⟩ = some (.bool (decide (u ∈ l ++ pre))) := Wood.burnt_ (w := wr.drewN m) (Blk.drewN i2 m) (by omega)
        have f4 : (wr.drewN m).frozen? ⟨g, 146 + u, none⟩ = false := Blk.frozen i2 _
        gi_wp2_with fail
        refine (roundIn_wide hR).mono ?_
        rintro e w2 ⟨C2, b2, ho2, hg2, rfl, hj2, hx2⟩
        cases b2
        · have HX2 := Lib.hid (hx2 rfl)
          clear hj2 hx2
          gi_wp2
          exact ⟨_, results_none rfl _ _ _, ⟨⟨_, rfl⟩, C2, .inr ⟨pre ++ [u], HPX.out, HX2.out⟩⟩⟩
        · have hJ2 := Lib.hid (hj2 rfl)
          have m1 := j1.only ho2 (fun hc => hc.elim (fun hc => (hIC _ hc).2 (.inl rfl)) id)
          have m2 : Wood w2 g n es (.slice A cs.length c) (l ++ (pre ++ [u])) := Blk.only j2 ho2 (fun hc => hc.elim (fun hc => (hIC _ hc).2 (.inr (.inl rfl))) id)
          have m3 := reads_only (reads_only i3 hoS hsz hAg) ho2 (by omega) (fun k hk hc => hc.elim (fun hc => (hIC _ hc).2 (.inr (.inr hk))) id)
          have hsz2 := ho2.size
          have hIC2 : Hid (∀ k, C2 k → k < w2.heap.size ∧ ¬ (k = bw ∨ k = g ∨ blockOf A k)) := by
            intro k hk
            rcases hg2 k hk with h | h | h
            · have := hIC k h; exact ⟨by omega, this.2⟩
            · exact h.elim
            · refine ⟨h.2, ?_⟩
              rintro (e | e | e)
              · omega
              · omega
              · have := HA.out k e; omega
          have hlw2 := leftW_eq hn m2
          rw [HRL.out] at hlw2
          clear hj2 hx2 j1 j2 ho2 hg2 hR hy c3 c4 f4 hJ1 hIB hoS i1 i2 i3 hIC
          gi_wp2
          go_roundw
          case rel => exact ⟨0, pre ++ [u], C2, rfl, by omega, by omega, m1, m2, m3, HLO.out, hJ2.out, hIC2.out, fun x hx => by omega, HB2.out⟩
          case measure => simp [intOf]; omega
    · obtain rfl : u = n := by omega
      obtain ⟨e1, e2⟩ := fire_end IB.out IU.out
      have E1 := Lib.hid e1
      have E2 := Lib.hid e2
      clear e1 e2
      gi_wp2
      exact ⟨_, results_none rfl _ _ _, ⟨⟨_, rfl⟩, C', .inl ⟨by rw [← E1.out]; exact IJ.out, by rw [E2.out]; exact i2⟩⟩⟩
end Go.Proofs.YtghigdcpinengaaGreat

