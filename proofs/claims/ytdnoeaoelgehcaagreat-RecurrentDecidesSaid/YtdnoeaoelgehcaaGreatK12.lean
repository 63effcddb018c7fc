/-
  Texts of this claim, put together: Kindle, RDual, Lit, RFire.
-/
import Derived.Test.YtdnoeaoelgehcaaGreatK11
import Derived.Deep.RegionWith
import Derived.BigRegion
import Derived.Test.YtdnoeaoelgehcaaGreatK09
import Derived.Test.YtdnoeaoelgehcaaGreatK07
import Derived.Test.YtdnoeaoelgehcaaGreatK04
/-! Package burning: the wood of a configuration; the vertices that are not burnt. -/
namespace Go.Proofs.YtdnoeaoelgehcaaGreat
open Go.RowKit

def natI (l : List Nat) : List Int := l.map fun u : Nat => (u : Int)
theorem natI_length (l : List Nat) : (natI l).length = l.length := by simp [natI]
theorem natI_snoc (l : List Nat) (x : Nat) : natI (l ++ [x]) = natI l ++ [(x : Int)] := by simp [natI]
theorem restL_succ (n : Nat) (l : List Nat) : restL (n + 1) l = if n ∈ l then restL n l else restL n l ++ [n] := by
  unfold restL
  rw [List.range_succ, List.filter_append]
  by_cases h : n ∈ l <;> simp [h]
theorem restL_length (n : Nat) (l : List Nat) : (restL n l).length ≤ n := by
  unfold restL; exact Nat.le_trans (List.length_filter_le _ _) (by simp)

set_option maxRecDepth 100000 in
set_option maxHeartbeats 2000000 in
theorem unburnt_any (g n : Nat) (hn : n ≤ 12) (es : List E3) (ch : Value) (l : List Nat) (w : World) (h : Wood w g n es ch l) :
    Calls Tryz.prog 108 #[.pointer (some ⟨g, 0, none⟩)] w fun e w' => ∃ A c, e = .returned (.slice A (restL n l).length c) ∧ OwnI w' w.heap.size A c (natI (restL n l)) ∧ Below w.heap.size w w' := by
  have c0 := h.n_
  have hgl : g < w.heap.size := Blk.lt h
  go_enter Tryz.func108, Tryz.ntmps108
  go_wp2
  go_loopw [3, 9] (fun s i wr => ∃ (k : Nat) (A : Option Addr) (c : Nat) (r : List Nat), k ≤ n ∧ i = .int .i64 k ∧ s = .slice A (natI r).length c ∧ Hid (restL k l = r) ∧ (natI r).length ≤ k ∧ OwnI wr w.heap.size A c (natI r) ∧ Below w.heap.size w wr) (fun _ i _ => n - (intOf i).toNat)
  case atStart => exact ⟨0, none, 0, [], by omega, rfl, rfl, rfl, by simp [natI], OwnI.nil_ _ _, Below.refl _ _⟩
  case round =>
    obtain ⟨k, A, c, r, hk, rfl, rfl, HR, hrl, hown, hbel⟩ := hrel
    have hw : Wood wr g n es ch l := Blk.below h hbel hgl
    have hsz := hbel.size
    clear c0
    by_cases hlt : k < n
    · have hi : (k : Int) < (n : Int) := by omega
      have hi2 : (k : Int) < 12 := by omega
      have cb := hw.burnt_ (u := k) (by omega)
      have hrs := restL_succ k l
      rw [HR.out] at hrs
      by_cases hm : k ∈ l
      · rw [decide_eq_true hm] at cb
        rw [if_pos hm] at hrs
        have HS := Lib.hid hrs
        clear hrs hm
        go_wp2
        go_roundw
        case rel => exact ⟨k + 1, A, c, r, by omega, by go_num, rfl, HS.out, by omega, hown, hbel⟩
        case measure => simp [intOf]; omega
      · rw [decide_eq_false hm] at cb
        rw [if_neg hm] at hrs
        have HS := Lib.hid hrs
        clear hrs hm
        go_wp2_with (at_builtin; refine push_int rfl (.tmp 19) (.tmp 21) _ rfl Tryz.underlying25 w.heap.size A c (natI r) (k : Int) rfl hown rfl rfl (by omega) hsz ?_; intro A2 c2 w2 hown2 hg2 hb2)
        go_roundw
        case rel => exact ⟨k + 1, A2, c2, r ++ [k], by omega, by go_num, by rw [natI_snoc]; simp, HS.out, by rw [natI_snoc]; simp; omega, by rw [natI_snoc]; exact hown2, hbel.trans (hb2.mono (Nat.le_refl _))⟩
        case measure => simp [intOf]; omega
    · obtain rfl : k = n := by omega
      go_wp2
      go_ret
      refine ⟨A, c, ?_, ?_, hbel⟩
      · rw [HR.out, natI_length]; rfl
      · rw [HR.out]; exact hown

set_option maxHeartbeats 1000000 in
/-- slices.Clone on divisors. -/
theorem dclone_any (A : Option Addr) (c : Nat) (xs : List Int) (hn : xs.length ≤ 1048000) (w : World) (h : Reads w w.heap.size 1 A xs.length (ints xs)) :
    Calls Tryz.prog 31 #[.slice A xs.length c] w fun e w' =>
      ∃ A' c', e = .returned (.slice A' xs.length c') ∧ OwnI w' w.heap.size A' c' xs ∧ Below w.heap.size w w' := by
  have q22 : ∀ (w : World) (a : Option Addr) (n c n' c' : Nat), (binOp .eql 26 (.slice a n c) (.slice none n' c')).run Tryz.prog w = .ok (.bool a.isNone) w := fun w a n c n' c' => Lib.run_eql_slice_nil w _ _ a n c n' c' Tryz.underlying26
  rcases A with _ | ad
  · have hx : xs = [] := by
      rcases xs with _ | ⟨x, xs⟩
      · rfl
      · obtain ⟨_, _, h, _⟩ := h.2 (by simp)
        cases h
    subst hx
    go_enter Tryz.func31, Tryz.ntmps31
    go_wp2
    go_ret
    exact ⟨none, 0, rfl, OwnI.nil_ _ _, Below.refl _ _⟩
  · go_enter Tryz.func31, Tryz.ntmps31
    have hown0 : (w.alloc (.cells #[] 3)).ownsRow w.heap.size 3 1 (.slice (some ⟨w.heap.size, 0, none⟩) 0 0) 0 [] := World.ownsRow_made w #[] 0 (Nat.le_refl _) (by simp [maxLen]) (by simp)
    have hr := h.alloc (Nat.le_refl _) (.cells #[] 3)
    go_wp2_with (at_builtin; refine append_go rfl (.tmp 5) (.tmp 6) _ rfl w.heap.size 3 Tryz.underlying26 info_int rfl (by omega) (some ⟨w.heap.size, 0, none⟩) 0 0 [] rfl hown0 w.heap.size (ints xs) rfl hr (by simp [ints, Value.oneCell']) (by omega) (by simp) ?_; intro A' c' w' hown' _ hb' _)
    go_ret
    refine ⟨A', c', rfl, ?_, ((Below.refl _ _).alloc (Nat.le_refl _) _).trans hb'⟩
    rw [Nat.zero_add, List.nil_append] at hown'
    exact hown'

set_option maxRecDepth 100000 in
set_option maxHeartbeats 4000000 in
theorem kindled_any (n : Nat) (A : Option Addr) (c : Nat) (es : List E3) (hn : es.length ≤ 1048576) (hG : RightG n es) (q : Nat) (hq : q < n) (B : Option Addr) (d : Nat) (cs : List Int) (hm : cs.length ≤ 1048000) (w : World) (h : Reads w w.heap.size 3 A es.length (edgeCells es)) (h' : Reads w w.heap.size 1 B cs.length (ints cs)) :
    Calls Tryz.prog 70 #[.agg #[.int .i64 n, .slice A es.length c], .int .i64 q, .slice B cs.length d] w fun e w' => ∃ g A' c', e = .returned (.pointer (some ⟨g, 0, none⟩)) ∧ Wood w' g n es (.slice A' cs.length c') [q] ∧ OwnI w' w.heap.size A' c' cs ∧ w.heap.size ≤ g ∧ Below w.heap.size w w' := by
  have HG := Lib.hid hG
  have g0 := Blk.new w 24 #[.int .i64 n, .slice A es.length c]
  have CC := Lib.hid (dclone_any B d cs hm (w.alloc (.cells #[.int .i64 n, .slice A es.length c] 24)).drew ((h'.alloc (Nat.le_refl _) (.cells #[.int .i64 n, .slice A es.length c] 24)).more (by simp [World.drew])))
  clear hG
  go_enter Tryz.func70, Tryz.ntmps70
  go_wp2
  go_region_with (go_at_call 31; refine (CC.out).mono ?_; rintro e w1 ⟨A1, cA, rfl, o1, hb1⟩; have g1 := g0.drew.next hb1; have c0 := g1.cell 0)
  all_goals (
    have hc1 : ∀ o, (w1.alloc o).cell? ⟨w.heap.size, 1, none⟩ = some (.slice A es.length c) := fun o => (g1.alloc o).cell 1
    have gW : ∀ (L : Array Value), L = wcells n (tt []) (.slice A1 cs.length cA) [] → ∀ W, W = w1.alloc (.cells L 105) → Wood W w1.heap.size n [] (.slice A1 cs.length cA) [] := by
      rintro _ rfl _ rfl
      exact Blk.new w1 105 _
    have o3 : ∀ o, OwnI (w1.alloc o) w.heap.size A1 cA cs := fun o => (o1.alloc o).mono (by simp [World.drew])
    have hbel1 : Below w.heap.size w w1 := ((Below.refl _ _).alloc (Nat.le_refl _) _).drew.trans (hb1.mono (by simp [World.drew]))
    have hbel2 : ∀ o, Below w.heap.size w (w1.alloc o) := fun o => hbel1.alloc hbel1.size o
    have hs1 := g1.lt
    have GW := Lib.hid gW
    have O3 := Lib.hid o3
    have HB2 := Lib.hid hbel2
    clear g1 c0 o1 hb1 CC hbel1 g0 gW o3 hbel2
    go_wp2
    go_loopw [19] (fun i wr => ∃ k : Nat, k ≤ es.length ∧ i = .int .i64 k ∧ Below w.heap.size w wr ∧ Wood wr w1.heap.size n (es.take k) (.slice A1 cs.length cA) [] ∧ OwnI wr w.heap.size A1 cA cs) (fun i _ => es.length - (intOf i).toNat)
    case atStart => exact ⟨0, by omega, rfl, HB2.out _, GW.out _ rfl _ rfl, O3.out _⟩
    clear HB2 GW O3 hc1
    case round =>
      obtain ⟨k, hk, rfl, hbel, gw, ow⟩ := hrel
      have hsz := hbel.size
      by_cases hlt : k < es.length
      · obtain ⟨⟨x, y, m⟩, hx⟩ := get_of_lt hlt
        have hok := HG.out.ok _ (List.mem_of_getElem? hx)
        have hhi := HG.out.hi
        unfold okE at hok
        dsimp only at hok
        obtain ⟨a, rfl⟩ := Int.eq_ofNat_of_zero_le (show 0 ≤ x by omega)
        obtain ⟨b, rfl⟩ := Int.eq_ofNat_of_zero_le (show 0 ≤ y by omega)
        have ha : a < 12 := by omega
        have hb : b < 12 := by omega
        have ha2 : (a : Int) < 12 := by omega
        have hb2 : (b : Int) < 12 := by omega
        have htk := take_snoc hx
        have hst : ∀ u v, tt (es.take (k + 1)) u v = if u ≠ v ∧ ((u = a ∧ v = b) ∨ (u = b ∧ v = a)) then m else tt (es.take k) u v := by
          intro u v
          have hp : (es.take (k + 1)).Pairwise ltE := HG.out.sorted.sublist (List.take_sublist _ _)
          rw [htk] at hp ⊢
          exact tt_snoc hp (fun z hz => HG.out.ok z (by rw [← htk] at hz; exact List.mem_of_mem_take hz)) rfl rfl u v
        have HST := Lib.hid hst
        obtain ⟨bb, off, rfl, hbb, q1, q2, q3⟩ := (h.below hbel).edge hx
        have hi : (k : Int) < (es.length : Int) := by omega
        dsimp only at q1 q2 q3
        have gw' : Wood (wr.alloc (.cells #[.int .i64 a, .int .i64 b, .int .i64 m] 83)) w1.heap.size n (es.take k) (.slice A1 cs.length cA) [] := Blk.alloc gw _
        have ow' := ow.alloc (.cells #[.int .i64 a, .int .i64 b, .int .i64 m] 83)
        have hbl' := hbel.alloc hsz (.cells #[.int .i64 a, .int .i64 b, .int .i64 m] 83)
        have hgl0 := Blk.lt gw
        have gw0 := gw
        have ow0 := ow
        have hbel0 := hbel
        clear hx h hbel hok htk hst gw ow
        by_cases hab : a = b
        · have hq : ((a : Int) != (b : Int)) = false := by simp; omega
          have hw2 : Wood (wr.alloc (.cells #[.int .i64 a, .int .i64 b, .int .i64 m] 83)) w1.heap.size n (es.take (k + 1)) (.slice A1 cs.length cA) [] := by
            unfold Wood at gw' ⊢
            rwa [wcells_ext (t := tt (es.take (k + 1))) (t' := tt (es.take k)) fun u v _ _ => by rw [HST.out, if_neg (by omega)]]
          clear hab gw0 ow0 hbel0
          go_wp2
          go_roundw
          case rel => exact ⟨k + 1, by omega, by go_num, hbl', hw2, ow'⟩
          case measure => simp [intOf]; omega
        · have hq : ((a : Int) != (b : Int)) = true := by simp; omega
          have t1 := gw0.tab_ ha hb
          have t2 := gw0.tab_ hb ha
          have f1 := Blk.frozen gw0 (1 + a * 12 + b)
          have f2 := Blk.frozen gw0 (1 + b * 12 + a)
          obtain ⟨z3, t3⟩ : ∃ z : Value, (wr.setCell ⟨w1.heap.size, 1 + a * 12 + b, none⟩ (.int .i64 m)).cell? ⟨w1.heap.size, 1 + b * 12 + a, none⟩ = some z := by
            have := Blk.cell (Blk.set_ gw0 (1 + a * 12 + b) (.int .i64 m)) (1 + b * 12 + a)
            rw [wcells_set_tab ha hb, wcells_tab hb ha] at this
            exact ⟨_, this⟩
          have hgl : w1.heap.size < wr.heap.size := hgl0
          have hne : ¬ wr.heap.size = w1.heap.size := by omega
          have ox : OwnI ((wr.setCell ⟨w1.heap.size, 1 + a * 12 + b, none⟩ (.int .i64 m)).setCell ⟨w1.heap.size, 1 + b * 12 + a, none⟩ (.int .i64 m)) w.heap.size A1 cA cs := (ow0.set_blk gw0 (by decide) _ _).set_blk (Blk.set_ gw0 _ _) (by decide) _ _
          have gx : Wood ((wr.setCell ⟨w1.heap.size, 1 + a * 12 + b, none⟩ (.int .i64 m)).setCell ⟨w1.heap.size, 1 + b * 12 + a, none⟩ (.int .i64 m)) w1.heap.size n (es.take (k + 1)) (.slice A1 cs.length cA) [] := by
            have := Blk.set_ (Blk.set_ gw0 (1 + a * 12 + b) (.int .i64 m)) (1 + b * 12 + a) (.int .i64 m)
            rw [wcells_set_tab ha hb, wcells_set_tab hb ha] at this
            unfold Wood
            rwa [wcells_ext (t := tt (es.take (k + 1))) (t' := fun x y => if x = b ∧ y = a then m else if x = a ∧ y = b then m else tt (es.take k) x y) fun u v _ _ => ?_]
            rw [HST.out]
            by_cases h1 : u = b ∧ v = a
            · rw [if_pos h1, if_pos (by omega)]
            · rw [if_neg h1]
              by_cases h2 : u = a ∧ v = b
              · rw [if_pos h2, if_pos (by omega)]
              · rw [if_neg h2, if_neg (by omega)]
          have bx : Below w.heap.size w ((wr.setCell ⟨w1.heap.size, 1 + a * 12 + b, none⟩ (.int .i64 m)).setCell ⟨w1.heap.size, 1 + b * 12 + a, none⟩ (.int .i64 m)) := (hbel0.setCell (by simp; omega) _).setCell (by simp; omega) _
          have ox1 := ox.alloc (.cells #[.int .i64 a, .int .i64 b, .int .i64 m] 83)
          have gx1 : Wood _ w1.heap.size n (es.take (k + 1)) (.slice A1 cs.length cA) [] := Blk.alloc gx (.cells #[.int .i64 a, .int .i64 b, .int .i64 m] 83)
          have bx1 := bx.alloc (by simp [World.setCell]; exact hsz) (.cells #[.int .i64 a, .int .i64 b, .int .i64 m] 83)
          clear gw' ow' hbl' hab ox gx bx gw0 ow0 hbel0
          go_wp2
          go_region
          all_goals go_wp2
          all_goals (
            go_roundw
            case rel => exact ⟨k + 1, by omega, by go_num, bx1.drew, gx1, ox1⟩
            case measure => simp [intOf]; omega)
      · obtain rfl : k = es.length := by omega
        rw [List.take_length] at gw
        have hgl0 := Blk.lt gw
        have f1 := Blk.frozen gw (146 + q)
        have c1 := gw.burnt_ (u := q) (by have := HG.out.hi; omega)
        have hq12 : (q : Int) < 12 := by have := HG.out.hi; omega
        go_wp2
        go_ret
        exact ⟨w1.heap.size, A1, cA, rfl, gw.burn (by omega), ow.set_blk gw (by decide) _ _, by omega, hbel.setCell (by simp; omega) _⟩)
end Go.Proofs.YtdnoeaoelgehcaaGreat

/-! Plain: the fire of recurrent configurations is the burning of the dual one. -/
namespace Go.Proofs.YtdnoeaoelgehcaaGreat
open Go.RowKit

/-- The maximal stable configuration less this one. -/
def dualL (n : Nat) (es : List E3) (cs : List Int) : List Int := (List.range n).map fun v : Nat => valE es v - 1 - cs.getD v 0
theorem dualL_get {n v : Nat} (es : List E3) (cs : List Int) (hv : v < n) : (dualL n es cs).getD v 0 = valE es v - 1 - cs.getD v 0 := by
  rw [List.getD_eq_getElem?_getD]
  simp [dualL, hv]
theorem jn_joins {n : Nat} {es : List E3} (hG : RightG n es) {l : List Nat} (hl : LOk n l) {v : Nat} (hv : v ∉ l) : jnE es l v = joinsN es v l := by
  rw [jnE_flm hG, flm_joins l hl hv]
theorem cat_dual {n : Nat} {es : List E3} (hG : RightG n es) (cs : List Int) {l : List Nat} (hl : LOk n l) {v : Nat} (hv : v < n) : catL es (dualL n es cs) l v = (!decide (v ∈ l) && catchB es cs l v) := by
  unfold catL catchB
  by_cases hm : v ∈ l
  · simp [hm]
  · rw [dualL_get es cs hv, jn_joins hG hl hm]
    congr 1
    rw [decide_eq_decide]; omega
theorem natI_one (q : Nat) : natI [q] = [(q : Int)] := rfl
/-- The order of the fire. -/
def recL (n : Nat) (es : List E3) (cs : List Int) (q : Nat) : List Nat := burntL es (dualL n es cs) n q
def recB (n : Nat) (es : List E3) (cs : List Int) (q : Nat) : Bool := stabTo es cs q n && decide ((recL n es cs q).length = n)
theorem lok_one {n q : Nat} (hq : q < n) : LOk n [q] := ⟨by simp, by simpa using hq⟩
theorem recL_ok {n q : Nat} {es : List E3} {cs : List Int} (hq : q < n) : LOk n (recL n es cs q) := burnL_ok n [q] (lok_one hq)
/-- When all are burnt, the fire ends. -/
theorem burn_full {n : Nat} {es : List E3} {c : List Int} {l : List Nat} (hl : LOk n l) (hn : l.length = n) : burnL es c n n l = l := by
  obtain ⟨z, hz⟩ := burnL_pre (es := es) (c := c) (n := n) n l
  have h1 := nodup_len (burnL_ok (es := es) (c := c) n l hl)
  rw [← hz, List.length_append] at h1
  have h2 : z = [] := List.length_eq_zero_iff.1 (by omega)
  rw [← hz, h2, List.append_nil]
end Go.Proofs.YtdnoeaoelgehcaaGreat

/-! Slices of ints that are known whole. -/
namespace Go.Proofs.YtdnoeaoelgehcaaGreat
open Go.RowKit

def intCells (l : List Int) : Array Value := (ints l).toArray
theorem intCells_get {l : List Int} {k : Nat} {x : Int} (h : l[k]? = some x) : (intCells l)[k]? = some (.int .i64 x) := by simp [intCells, ints, h]
theorem intCells_set (l : List Int) (k : Nat) (x : Int) : (intCells l).setIfInBounds k (.int .i64 x) = intCells (l.set k x) := by simp [intCells, ints, List.map_set]
theorem OwnI.of_blk {w : World} {base g : Nat} {l : List Int} (h : Blk w g 3 (intCells l)) (hb : base ≤ g) (hl : l.length ≤ maxLen) : OwnI w base (some ⟨g, 0, none⟩) l.length l :=
  ⟨by simp [ints], .inr ⟨g, l.length, intCells l, rfl, hb, h, Nat.le_refl _, hl, by simp [intCells, ints], by rw [Nat.mul_one]; show (ints l).take l.length = ints l; rw [← ints_length, List.take_length]⟩⟩
end Go.Proofs.YtdnoeaoelgehcaaGreat

/-! Package recurrent: fire, recurs. -/
namespace Go.Proofs.YtdnoeaoelgehcaaGreat
open Go.RowKit

def lenV : Value → Nat
  | .slice _ n _ => n
  | _ => 0
theorem marks_nil (n : Nat) : marks n [] = List.replicate n false := by
  unfold marks
  apply List.ext_getElem?
  intro i
  by_cases hi : i < n <;> simp [hi]
/-- What the fire needs of its configuration. -/
structure RArgs (n : Nat) (es : List E3) (cs : List Int) : Prop where
  hn : es.length ≤ 10000
  hz : checkG n es = 0
  hcl : cs.length = n
  hcb : ∀ x ∈ cs, -1048576 ≤ x ∧ x ≤ 1048577

set_option maxRecDepth 100000 in
set_option maxHeartbeats 8000000 in
theorem rfire_any (n : Nat) (A : Option Addr) (c : Nat) (es : List E3) (q : Nat) (hq : q < n) (B : Option Addr) (d : Nat) (cs : List Int) (hR : RArgs n es cs) (w : World)
    (h : Reads w w.heap.size 3 A es.length (edgeCells es)) (h' : Reads w w.heap.size 1 B n (ints cs)) :
    Calls Tryz.prog 56 #[pileV n A es.length c q B n d] w fun e w' => ∃ A' c', e = .returned (.slice A' (recL n es cs q).length c') ∧ OwnI w' w.heap.size A' c' (natI (recL n es cs q)) ∧ Below w.heap.size w w' := by
  have hG := right_of hR.hz
  have hn12 : n ≤ 12 := by have := hG.hi; omega
  have HCT := Lib.hid (fun (v : Nat) (hv : v < n) (g : Nat) (l : List Nat) (W : World) (hB : Below w.heap.size w W) (hm : Blk W g 4 (bools (marks n l))) => rcatches_any n A c es hR.hn hR.hz q B d cs hR.hcl hR.hcb v hv g l W ((h.below hB).more hB.size) ((h'.below hB).more hB.size) hm)
  have HCD := Lib.hid (fun (l : List Nat) (hl : LOk n l) (v : Nat) (hv : v < n) => cat_dual hG cs hl hv)
  have g0 := Blk.new w 86 (pileC n A es.length c q B n d)
  have hB0 : Below w.heap.size w (w.alloc (.cells (pileC n A es.length c q B n d) 86)) := (Below.refl _ _).alloc (Nat.le_refl _) _
  have hmb := make_bools n (by omega)
  have hqi : (q : Int) < (n : Int) := by omega
  clear hG h h'
  simp only [pileV, pileC] at g0 hB0 HCT ⊢
  have c0 := g0.cell 0
  have c2 := g0.cell 2
  have M0 := Blk.new (w.alloc (.cells #[.int .i64 n, .slice A es.length c, .int .i64 q, .slice B n d] 86)) 4 (bools (List.replicate n false))
  have hs1 : (w.alloc (.cells #[.int .i64 n, .slice A es.length c, .int .i64 q, .slice B n d] 86)).heap.size = w.heap.size + 1 := by simp
  rw [hs1] at M0
  have mq := M0.cell q
  rw [bools_get (show (List.replicate n false)[q]? = some false by simp [hq])] at mq
  have mf := M0.frozen q
  have g1 := g0.alloc (.cells (bools (List.replicate n false)) 4)
  have d0 := g1.cell 0
  have d2 := g1.cell 2
  have M1 := Blk.new (w.alloc (.cells #[.int .i64 n, .slice A es.length c, .int .i64 q, .slice B n d] 86)) 4 ((bools (List.replicate n false)).setIfInBounds q (.bool true))
  have hmk : (bools (List.replicate n false)).setIfInBounds q (.bool true) = bools (marks n [q]) := by rw [bools_set, ← marks_nil, marks_set hq, List.nil_append]
  have g2 := g0.alloc (.cells ((bools (List.replicate n false)).setIfInBounds q (.bool true)) 4)
  have hB2 := hB0.alloc (by simp) (.cells ((bools (List.replicate n false)).setIfInBounds q (.bool true)) 4)
  have e2 := g2.cell 2
  have HMK := Lib.hid hmk
  clear hmk
  obtain ⟨D, hD⟩ : ∃ D, dualL n es cs = D := ⟨_, rfl⟩
  rw [hD] at HCD
  have HRL : Hid (burnL es D n n [q] = recL n es cs q) := by rw [← hD]; rfl
  obtain ⟨R, hRR⟩ : ∃ R, recL n es cs q = R := ⟨_, rfl⟩
  rw [hRR] at HRL ⊢
  go_enter Tryz.func56, Tryz.ntmps56
  go_wp2_with fail
  obtain ⟨W1, hW1⟩ : ∃ W1, (w.alloc (.cells #[.int .i64 n, .slice A es.length c, .int .i64 q, .slice B n d] 86)).alloc (.cells ((bools (List.replicate n false)).setIfInBounds q (.bool true)) 4) = W1 := ⟨_, rfl⟩
  have hsW : W1.heap.size = w.heap.size + 2 := by rw [← hW1]; simp
  rw [hW1] at M1 g2 hB2 e2 ⊢
  rw [HMK.out, hs1] at M1
  have O3 := OwnI.of_blk (base := w.heap.size) (Blk.new W1 3 (intCells [(q : Int)])) (by omega) (by simp [maxLen])
  have M3 := M1.alloc (.cells (intCells [(q : Int)]) 3)
  have G3 := g2.alloc (.cells (intCells [(q : Int)]) 3)
  have B3 := hB2.alloc hB2.size (.cells (intCells [(q : Int)]) 3)
  rw [show (#[.int .i64 (q : Int)] : Array Value) = intCells [(q : Int)] from rfl]
  clear hD hRR g0 hB0 c0 c2 M0 mq mf g1 d0 d2 M1 g2 hB2 e2 hW1 hs1 hmb
  rw [hsW] at O3
  go_loopw [4, 5, 6, 27] (fun o _ _ _ wl => ∃ (A' : Option Addr) (c' : Nat) (l : List Nat), o = .slice A' (natI l).length c' ∧ (natI l).length ≤ n ∧ Hid (LOk n l) ∧ Hid (burnL es D n n l = R) ∧ OwnI wl w.heap.size A' c' (natI l) ∧ Blk wl (w.heap.size + 1) 4 (bools (marks n l)) ∧
    Blk wl w.heap.size 86 #[.int .i64 n, .slice A es.length c, .int .i64 q, .slice B n d] ∧ Below w.heap.size w wl) (fun o _ _ _ _ => n - lenV o)
  case atStart => exact ⟨_, _, [q], by rfl, by simp [natI]; omega, lok_one hq, HRL.out, O3, M3, G3, B3⟩
  case round =>
    obtain ⟨A', c', l, rfl, hll, HLO, HBL, ol, ml, gl, bl⟩ := hrel
    clear O3 M3 G3 B3
    have c0 := gl.cell 0
    have hz1 := bl.size
    obtain ⟨wo, rfl⟩ : ∃ wo : World, wo = wr := ⟨_, rfl⟩
    have hln : Hid ((natI l).length = l.length) := natI_length l
    by_cases hlt : (natI l).length < n
    · have hi : ((natI l).length : Int) < (n : Int) := by omega
      go_wp2_with fail
      go_loopw [5, 6, 27] (fun nx _ i w2 => ∃ u : Nat, nx = .int .i64 (-1) ∧ i = .int .i64 u ∧ u ≤ n ∧ Hid (∀ x, x < u → catL es D l x = false) ∧ Below wo.heap.size wo w2) (fun _ _ i _ => n - (intOf i).toNat)
      case atStart => exact ⟨0, rfl, rfl, by omega, fun x hx => by omega, Below.refl _ _⟩
      case round =>
        obtain ⟨u, rfl, rfl, hu, HU, b2⟩ := hrel
        clear c0
        have m2 := ml.next b2
        have g2 := gl.next b2
        have o2 := ol.next b2
        have B2 := bl.trans (b2.mono hz1)
        have c0 := g2.cell 0
        have c1 := g2.cell 1
        have c2 := g2.cell 2
        have c3 := g2.cell 3
        by_cases hun : u < n
        · have hui : (u : Int) < (n : Int) := by omega
          have mu := (m2.cell u).trans (bools_get (marks_get hun l))
          have hcd := HCD.out l HLO.out u hun
          by_cases hm : u ∈ l
          · rw [decide_eq_true hm] at mu hcd
            rw [Bool.not_true, Bool.false_and] at hcd
            have HC := Lib.hid hcd
            clear hcd hm
            go_wp2
            go_roundw
            case rel => exact ⟨u + 1, rfl, by go_num, by omega, fun x hx => by
              by_cases he : x = u
              · subst he; exact HC.out
              · exact HU.out x (by omega), b2⟩
            case measure => simp [intOf]; omega
          · rw [decide_eq_false hm] at mu hcd
            rw [Bool.not_false, Bool.true_and] at hcd
            have CT := HCT.out u hun (w.heap.size + 1) l wr B2 m2
            have HM := Lib.hid hm
            cases hcb : catchB es cs l u
            · rw [hcb] at hcd CT
              have CT := Lib.hid CT
              have HC := Lib.hid hcd
              clear hcd hm hcb
              go_wp2_with (go_at_call 68; refine (CT.out).mono ?_; rintro e w5 ⟨rfl, b5⟩)
              go_roundw
              case rel => exact ⟨u + 1, rfl, by go_num, by omega, fun x hx => by
                by_cases he : x = u
                · subst he; exact HC.out
                · exact HU.out x (by omega), b2.trans (b5.mono b2.size)⟩
              case measure => simp [intOf]; omega
            · rw [hcb] at hcd CT
              have CT := Lib.hid CT
              have hhead := head_ready_of hun hcd HU.out
              have HB2 := Lib.hid ((burnL_next HLO.out hhead).symm.trans HBL.out)
              have HL2 := Lib.hid (HLO.out.snoc HM.out hun)
              clear hcd hm hcb hhead
              have hl1 : (natI l).length ≤ 1048000 := by omega
              have hwz : w.heap.size ≤ w.heap.size + 1 := by omega
              have hne1 : ((u : Int) < 0) = False := by simp
              have hne2 : decide ((u : Int) < 0) = false := by simp
              go_wp2_with (first
                | (go_at_call 68; refine (CT.out).mono ?_; rintro e w5 ⟨rfl, b5⟩; have m5 := m2.next b5; have f5 := m5.frozen u; have k5 := (m5.cell u).trans (bools_get (marks_get hun l)); have o5 := o2.next b5; have g5 := g2.next b5; have B5 := B2.trans (b5.mono B2.size); have m6 := m5.set_ u (.bool true); have g6 := g5.far (p := ⟨w.heap.size + 1, u, none⟩) (by simp) (.bool true); have o6 := o5.set_blk m5 (by decide) u (.bool true); have B6 := B5.setCell (p := ⟨w.heap.size + 1, u, none⟩) hwz (.bool true); have s6 := B6.size)
                | (at_builtin; go_loud (refine push_int rfl (.tmp 48) (.tmp 50) _ rfl Tryz.underlying25 w.heap.size A' c' (natI l) (u : Int) rfl o6 rfl (by simp [World.setCell]) hl1 s6 ?_); intro A7 c7 w7 o7 gr7 b7))
              have m7 := (m6.alloc (.cells #[.int .i64 u] 3)).grown gr7 (own_blk_ne o6 m6 (by decide))
              have g7 := (g6.alloc (.cells #[.int .i64 u] 3)).grown gr7 (own_blk_ne o6 g6 (by decide))
              rw [bools_set, marks_set hun] at m7
              go_roundw
              case rel =>
                refine ⟨A7, c7, l ++ [u], by rw [natI_snoc]; simp, by rw [natI_snoc]; simp; omega, HL2, HB2, by rw [natI_snoc]; exact o7, m7, g7, B6.trans b7⟩
              case measure => simp [lenV]; omega
        · obtain rfl : u = n := by omega
          have hnone := ready_none HU.out
          have hRl : R = l := by rw [← HBL.out, burnL_stop (by rw [hnone]; rfl)]
          have HRl := Lib.hid hRl
          clear hRl hnone
          go_wp2
          go_ret
          exact ⟨A', c', by rw [HRl.out, ← hln.out]; rfl, by rw [HRl.out]; exact o2, B2⟩
    · have hi : ¬ ((natI l).length : Int) < (n : Int) := by omega
      have hRl : R = l := by rw [← HBL.out]; exact burn_full HLO.out (by have := hln.out; omega)
      have HRl := Lib.hid hRl
      clear hRl
      go_wp2
      go_ret
      exact ⟨A', c', by rw [HRl.out, ← hln.out]; rfl, by rw [HRl.out]; exact ol, bl⟩
end Go.Proofs.YtdnoeaoelgehcaaGreat

