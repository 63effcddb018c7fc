/-
  Texts of this claim, put together: FireX, Fire, SNext, RDual, TCut, TCyc, BelowP, RMove, TIter, FireB, Burn, Settle.
-/
import Derived.Test.YtplgbapbgcipdaaGreatK26
import Derived.Test.YtplgbapbgcipdaaGreatK05
import Derived.Test.YtplgbapbgcipdaaGreatK11
import Derived.Stop.RegionWithIn
import Derived.Test.YtplgbapbgcipdaaGreatK23
import Derived.Test.YtplgbapbgcipdaaGreatK12
import Derived.Test.YtplgbapbgcipdaaGreatK15
import Derived.Test.YtplgbapbgcipdaaGreatK03
import Derived.Test.YtplgbapbgcipdaaGreatK18
import Derived.Test.YtplgbapbgcipdaaGreatK24
import Derived.Test.YtplgbapbgcipdaaGreatK09
import Derived.Deep.RegionWith
import Derived.Test.YtplgbapbgcipdaaGreatK28
import Derived.Test.YtplgbapbgcipdaaGreatK16
import Derived.Deep.RegionHeld3
/-! The fire's steps in memory: an element joins steps or tree. -/
namespace Go.Proofs.YtplgbapbgcipdaaGreat
open Go.RowKit
section
variable {w w' : World} {base b n : Nat} {E : List (Nat × Nat)} {lv : Value} {a : FireA} {s : FireS} {H : List Int}
end
end Go.Proofs.YtplgbapbgcipdaaGreat

/-! Package burning: the fire. -/
namespace Go.Proofs.YtplgbapbgcipdaaGreat
open Go.RowKit Go.Shelf
attribute [local go_sem] Oper.semAt_some

end Go.Proofs.YtplgbapbgcipdaaGreat

/-! Package stabilize: next: the least vertex that waits. -/
namespace Go.Proofs.YtplgbapbgcipdaaGreat
open Go.RowKit

/-- The first place with true from k places on, or -1. -/
def firstT (ws : List Bool) : Int := match (List.range ws.length).find? fun v => ws.getD v false with
  | some v => v
  | none => -1
theorem firstT_some {ws : List Bool} {k : Nat} (hk : k < ws.length) (h : ws[k]? = some true) (hl : ∀ j, j < k → ws.getD j false = false) : firstT ws = k := by
  unfold firstT
  have : (List.range ws.length).find? (fun v => ws.getD v false) = some k := by
    rw [List.find?_range_eq_some]
    refine ⟨by rw [List.getD_eq_getElem?_getD, h]; rfl, by simpa using hk, fun j hj => ?_⟩
    rw [hl j hj]; rfl
  rw [this]
theorem firstT_none {ws : List Bool} (h : ∀ j, j < ws.length → ws.getD j false = false) : firstT ws = -1 := by
  unfold firstT
  have : (List.range ws.length).find? (fun v => ws.getD v false) = none := by
    rw [List.find?_eq_none]
    intro x hx
    rw [h x (List.mem_range.1 hx)]
    simp
  rw [this]
theorem firstT_cases (ws : List Bool) : (firstT ws = -1 ∧ ∀ j, j < ws.length → ws.getD j false = false) ∨ ∃ v : Nat, firstT ws = v ∧ v < ws.length ∧ ws.getD v false = true := by
  unfold firstT
  cases h : (List.range ws.length).find? fun v => ws.getD v false with
  | none =>
    refine .inl ⟨rfl, fun j hj => ?_⟩
    rw [List.find?_eq_none] at h
    have := h j (List.mem_range.2 hj)
    simpa using this
  | some v =>
    refine .inr ⟨v, rfl, ?_, ?_⟩
    · exact List.mem_range.1 (List.mem_of_find?_eq_some h)
    · have := List.find?_some h; simpa using this

set_option maxHeartbeats 2000000 in
theorem indexB_any (g o c : Nat) (ws : List Bool) (w : World) (hl : ws.length ≤ 1048576) (h : ∀ k b, ws[k]? = some b → w.cell? ⟨g, o + k, none⟩ = some (.bool b)) :
    Calls Tryz.prog 153 #[.slice (some ⟨g, o, none⟩) ws.length c, .bool true] w fun e w' => e = .returned (.int .i64 (firstT ws)) ∧ w' = w := by
  have HC := Lib.hid h
  clear h
  go_enter Tryz.func153, Tryz.ntmps153
  go_wp2_with fail
  go_loop [5, 8] (fun _ i => ∃ k : Nat, i = .int .i64 k ∧ k ≤ ws.length ∧ Hid (∀ j, j < k → ws.getD j false = false)) (fun _ i => ws.length - (intOf i).toNat)
  case atStart => exact ⟨0, rfl, by omega, fun j hj => by omega⟩
  case round =>
    obtain ⟨k, rfl, hk, HN⟩ := hrel
    by_cases hlt : k < ws.length
    · obtain ⟨b, hb⟩ := get_of_lt hlt
      have hi : (k : Int) < (ws.length : Int) := by omega
      have c0 := HC.out k b hb
      have HB := Lib.hid hb
      clear hb
      cases b
      · go_wp2
        go_round
        case rel => exact ⟨k + 1, by go_num, by omega, fun j hj => by
          by_cases e : j = k
          · subst e; rw [List.getD_eq_getElem?_getD, HB.out]; rfl
          · exact HN.out j (by omega)⟩
        case measure => simp [intOf]; omega
      · go_wp2
        go_ret
        exact ⟨ret_int (firstT_some hlt HB.out HN.out).symm, rfl⟩
    · obtain rfl : k = ws.length := by omega
      go_wp2
      go_ret
      exact ⟨ret_int (firstT_none HN.out).symm, rfl⟩

set_option maxHeartbeats 2000000 in
theorem pnext_any (base bp n : Nat) (a : PA) (d : List Int) (q : Int) (rows : List (List Int)) (val fired : List Int) (total : Int) (ws : List Bool) (w : World) (h : PileW w base bp n a d q rows val fired total ws) :
    Calls Tryz.prog 147 #[.pointer (some ⟨bp, 0, none⟩)] w fun e w' => e = .returned (.int .i64 (firstT ws)) ∧ w' = w := by
  have hwl := h.wl
  have IB := Lib.hid (indexB_any bp 6 12 ws w (by omega) (fun k b hb => (h.blk.cell (6 + k)).trans (by rw [Nat.add_comm]; simp [pileCells, hb])))
  rw [hwl] at IB
  clear h
  go_enter Tryz.func147, Tryz.ntmps147
  go_wp2_with fail
  refine (IB.out).mono ?_
  rintro e w' ⟨rfl, rfl⟩
  go_wp2
  go_ret
  exact ⟨rfl, rfl⟩
end Go.Proofs.YtplgbapbgcipdaaGreat

/-! Plain: the fire of recurrent configurations is the burning of the dual one. -/
namespace Go.Proofs.YtplgbapbgcipdaaGreat
open Go.RowKit

/-- The maximal stable configuration less this one. -/
def dualL (n : Nat) (es : List E3) (cs : List Int) : List Int := (List.range n).map fun v : Nat => valE es v - 1 - cs.getD v 0
theorem dualL_get {n v : Nat} (es : List E3) (cs : List Int) (hv : v < n) : (dualL n es cs).getD v 0 = valE es v - 1 - cs.getD v 0 := by
  rw [List.getD_eq_getElem?_getD]
  simp [dualL, hv]
theorem jn_joins {n : Nat} {es : List E3} (hG : RightG n es) {l : List Nat} (hl : LOk n l) {v : Nat} (hv : v ∉ l) : jnE es l v = joinsN es v l := by
  rw [jnE_flm hG, flm_joins l hl hv]
theorem cat_dual {n : Nat} {es : List E3} (hG : RightG n es) (cs : List Int) {l : List Nat} (hl : LOk n l) {v : Nat} (hv : v < n) : catL es (dualL n es cs) l v = (!decide (v ∈ l) && catchB es cs l v) := by
  unfold catL catchB
  by_cases hm : v ∈ l
  · simp [hm]
  · rw [dualL_get es cs hv, jn_joins hG hl hm]
    congr 1
    rw [decide_eq_decide]; omega
/-- The order of the fire. -/
def recL (n : Nat) (es : List E3) (cs : List Int) (q : Nat) : List Nat := burntL es (dualL n es cs) n q
def recB (n : Nat) (es : List E3) (cs : List Int) (q : Nat) : Bool := stabTo es cs q n && decide ((recL n es cs q).length = n)
theorem lok_one {n q : Nat} (hq : q < n) : LOk n [q] := ⟨by simp, by simpa using hq⟩
theorem recL_ok {n q : Nat} {es : List E3} {cs : List Int} (hq : q < n) : LOk n (recL n es cs q) := burnL_ok n [q] (lok_one hq)
/-- When all are burnt, the fire ends. -/
theorem burn_full {n : Nat} {es : List E3} {c : List Int} {l : List Nat} (hl : LOk n l) (hn : l.length = n) : burnL es c n n l = l := by
  obtain ⟨z, hz⟩ := burnL_pre (es := es) (c := c) (n := n) n l
  have h1 := nodup_len (burnL_ok (es := es) (c := c) n l hl)
  rw [← hz, List.length_append] at h1
  have h2 : z = [] := List.length_eq_zero_iff.1 (by omega)
  rw [← hz, h2, List.append_nil]
end Go.Proofs.YtplgbapbgcipdaaGreat

/-! Package tree: Cutset. -/
namespace Go.Proofs.YtplgbapbgcipdaaGreat
open Go.RowKit

end Go.Proofs.YtplgbapbgcipdaaGreat

/-! Package tree: Cycle (what it returns; the refusals). -/
namespace Go.Proofs.YtplgbapbgcipdaaGreat
open Go.RowKit

end Go.Proofs.YtplgbapbgcipdaaGreat

/-! Plain laws for BurningBelow: each set that blocks is unburnt; with fewer chips no more vertices are unburnt. No program is in sight. -/
namespace Go.Proofs.YtplgbapbgcipdaaGreat

end Go.Proofs.YtplgbapbgcipdaaGreat

/-! ref18.Of, ref18.Moved, ref23.Without. -/
namespace Go.Proofs.YtplgbapbgcipdaaGreat
open Go.RowKit

theorem intCells_at {xs : List Int} {k : Nat} {x : Int} (h : xs[k]? = some x) : (intCells xs)[k]? = some (.int .i64 x) := intCells_get h

end Go.Proofs.YtplgbapbgcipdaaGreat

/-! Package tree: the iterator of all spanning trees. -/
namespace Go.Proofs.YtplgbapbgcipdaaGreat
open Go.RowKit Go.Shelf

theorem grow_any (n : Nat) (hn1 : 1 ≤ n) (hn : n ≤ 12) (E : List (Nat × Nat)) (hE : BdP n E) (hel : E.length ≤ 1000000) (Ar : Option Addr) (cr l bN bY bE bG base : Nat) (xs : List (List Nat)) (J Jx : List (List Nat) → (Nat → Prop) → World → Prop)
    (hY : Rounds Tryz.prog l J Jx xs base) (hJ : Bears base (fun _ => False) J) :
    ∀ (m : Nat) (t : List Nat) (e : Nat), E.length - e ≤ m → e ≤ E.length → t.length + 1 ≤ n → (∀ y ∈ t, y < E.length) → GrowC n E Ar cr l bN bY bE bG base xs J Jx t e := by
  intro m
  induction m with
  | zero =>
    intro t e hm he ht htE
    by_cases h1 : t.length + 1 = n
    · intro a0 a1 a2 a3 a4 a5 a6 a7 a8 a9 a10 a11 A c C pre W hF hS hp h0
      exact grow_leaf n hn1 hn E Ar cr l bN bY bE bG base xs J Jx hY hJ t h1 e a0 a1 a2 a3 a4 a5 a6 a7 a8 a9 a10 a11 A c C pre W hS.w hS.own hS.cl hp h0
    · exact grow_step n hn1 hn E hE hel Ar cr l bN bY bE bG base xs J Jx hJ t (by omega) htE e he fun k h1 h2 => absurd h2 (by omega)
  | succ m ih =>
    intro t e hm he ht htE
    by_cases h1 : t.length + 1 = n
    · intro a0 a1 a2 a3 a4 a5 a6 a7 a8 a9 a10 a11 A c C pre W hF hS hp h0
      exact grow_leaf n hn1 hn E Ar cr l bN bY bE bG base xs J Jx hY hJ t h1 e a0 a1 a2 a3 a4 a5 a6 a7 a8 a9 a10 a11 A c C pre W hS.w hS.own hS.cl hp h0
    · refine grow_step n hn1 hn E hE hel Ar cr l bN bY bE bG base xs J Jx hJ t (by omega) htE e he fun k h2 h3 => ih (t ++ [k]) (k + 1) (by omega) (by omega) (by simp; omega) fun y hy => ?_
      rcases List.mem_append.1 hy with hy | hy
      · exact htE y hy
      · rw [List.mem_singleton.1 hy]; exact h3

theorem Blk.newAt {w : World} {g : Nat} {t : TypeId} {cs : Array Value} (hg : g = w.heap.size) : Blk (w.alloc (.cells cs t)) g t cs := by subst hg; exact Blk.new w t cs
theorem growL_all (n : Nat) (E : List (Nat × Nat)) : growL n E [] 0 = treesT n E := by
  unfold growL treesT
  by_cases h : n = 1
  · rw [if_pos (by simp [h]), if_pos h]
  · rw [if_neg (by simp; omega), if_neg h]; rfl

/-- What the iterator leans on. -/
def KT (bN bE : Nat) (Ar : Option Addr) (k : Nat) : Prop := k = bN ∨ k = bE ∨ blockOf Ar k
set_option maxRecDepth 100000 in
set_option maxHeartbeats 4000000 in
theorem trees_iter (n : Nat) (hn1 : 1 ≤ n) (hn : n ≤ 12) (E : List (Nat × Nat)) (hE : BdP n E) (hel : E.length ≤ 1000000) (Ar : Option Addr) (cr bN bE : Nat) (hcap : E.length ≤ cr) (W0 : World)
    (h1 : Blk W0 bN 3 #[.int .i64 n]) (h3 : Blk W0 bE 124 #[.slice Ar E.length cr]) (rd : Reads W0 W0.heap.size 2 Ar E.length (pair2 E)) (hAr : ∀ k, blockOf Ar k → k < W0.heap.size) :
    Iter Tryz.prog 125 #[.pointer (some ⟨bN, 0, none⟩), .pointer (some ⟨bE, 0, none⟩)] ArgT (KT bN bE Ar) (fun _ => False) (treesT n E) W0 := by
  intro l J Jx C W hL hC hJ hJx hY h0
  have eg := enters_of (P := Tryz.prog) Tryz.func126 (by kernel_rfl) rfl
  have hmf : ∀ (fn : Fn) (first cap : Array Value) (w : World), (Instr.makeFunc fn first cap).run Tryz.prog w = .ok (.func fn first cap) w := fun _ _ _ _ => rfl
  have k1 : Blk W bN 3 #[.int .i64 n] := (hL.block bN h1.lt (.inl rfl)).trans h1
  have k3 : Blk W bE 124 #[.slice Ar E.length cr] := (hL.block bE h3.lt (.inr (.inl rfl))).trans h3
  have k4 : Reads W W.heap.size 2 Ar E.length (pair2 E) := ⟨rd.1, fun hn => by
    obtain ⟨b, off, rfl, hb, hc⟩ := rd.2 hn
    exact ⟨b, off, rfl, by have := hL.size; omega, fun j u hu => (World.cell?_of_block (w := W0) (hL.block b hb (.inr (.inr ⟨_, rfl, rfl⟩)))).trans (hc j u hu)⟩⟩
  have hlb : ∀ k, KT bN bE Ar k → k < W.heap.size := fun k hk => by
    have := hL.size
    rcases hk with rfl | rfl | hk
    · exact k1.lt
    · exact k3.lt
    · have := hAr k hk; omega
  obtain ⟨W2, hW2⟩ : ∃ W2, (W.alloc (.cells #[.func (.yield l) #[] #[]] 170)).alloc (.cells #[growF bN W.heap.size bE (W.heap.size + 1)] 171) = W2 := ⟨_, rfl⟩
  have ho2 : Only (fun _ => False) W W2 := by rw [← hW2]; exact ((Only.refl _ W).alloc _).alloc _
  have hs2 : W2.heap.size = W.heap.size + 1 + 1 := by rw [← hW2]; simp
  have GW : GrowW W2 n E Ar cr l bN W.heap.size bE (W.heap.size + 1) W.heap.size := by
    refine ⟨k1.only ho2 id, ?_, k3.only ho2 id, ?_, reads_onlyN k4 ho2 (Nat.le_refl _) (fun _ _ h => h), by omega, hcap⟩
    · rw [← hW2]; exact (Blk.new W _ _).alloc _
    · rw [← hW2]; exact Blk.newAt (by simp)
  have HGS : Hid (∀ w3, Below W2.heap.size W2 w3 → GrowS n E Ar cr l bN W.heap.size bE (W.heap.size + 1) W.heap.size none 0 [] C w3 ∧ J [] C w3) := by
    intro w3 hb
    have o3 : Only (fun _ => False) W w3 := ho2.trans (Only.of_new hb)
    refine ⟨⟨GW.only (Only.of_new hb) (fun _ _ h => h), OwnI.nil_ _ _, fun k hk => ⟨by have := (hC k hk).1; have := o3.size; omega, fun hf => ?_, fun ⟨a, h, _⟩ => (by cases h)⟩, fun k ⟨a, h, _⟩ => (by cases h), fun k hf => ?_⟩, hJ _ _ _ _ h0 (Stays.of_only o3 (fun _ _ h => h.elim))⟩
    · have h2 := (hC k hk)
      rcases hf with rfl | rfl | rfl | rfl | hf
      · exact h2.2 (.inl rfl)
      · omega
      · exact h2.2 (.inr (.inl rfl))
      · omega
      · exact h2.2 (.inr (.inr hf))
    · have hs3 := hb.size
      rcases hf with rfl | rfl | rfl | rfl | hf
      · have := hlb _ (.inl rfl); omega
      · omega
      · have := hlb _ (.inr (.inl rfl)); omega
      · omega
      · have := hlb _ (.inr (.inr hf)); omega
  have GC := grow_any n hn1 hn E hE hel Ar cr l bN W.heap.size bE (W.heap.size + 1) W.heap.size (treesT n E) J Jx hY hJ (E.length - 0) [] 0 (Nat.le_refl _) (by omega) (by simp; omega) (by simp)
  have HC : Hid (∀ w3, Below W2.heap.size W2 w3 → Calls Tryz.prog 126 #[.slice none 0 0, .int .i64 0, .agg #[.int .i64 0, .int .i64 1, .int .i64 2, .int .i64 3, .int .i64 4, .int .i64 5, .int .i64 6, .int .i64 7, .int .i64 8, .int .i64 9, .int .i64 10, .int .i64 11], .pointer (some ⟨bN, 0, none⟩), .pointer (some ⟨W.heap.size, 0, none⟩), .pointer (some ⟨bE, 0, none⟩), .pointer (some ⟨W.heap.size + 1, 0, none⟩)] w3
      fun en w' => ∃ b, en = .returned (.bool b) ∧ Hid (∃ C', (J (treesT n E) C' w' ∨ ∃ pre, pre <+: treesT n E ∧ Jx pre C' w'))) := by
    intro w3 hb
    obtain ⟨s1, s2⟩ := HGS.out w3 hb
    refine (GC 0 1 2 3 4 5 6 7 8 9 10 11 none 0 C [] w3 fr_nil s1 (by rw [growL_all]; exact List.prefix_refl _) s2).mono ?_
    rintro en w' ⟨C', b, rfl, _, _, hb1, hb2⟩
    refine ⟨b, rfl, C', ?_⟩
    cases b
    · exact .inr (hb2 rfl)
    · have := (hb1 rfl).1
      rw [growL_all] at this
      exact .inl this
  have g0 := GW.h4.cell 0
  have HW2 := Lib.hid hW2
  have h4' := Lib.hid GW.h4
  clear hY hJ hJx h0 GC GW hL hC k1 k3 k4 h1 h3 rd HGS ho2 hW2 hs2
  go_enter Tryz.func125, Tryz.ntmps125
  go_wp2_with fail
  try rw [HW2.out]
  go_region_with (first
    | (go_at_call 123; (with_reducible refine (loose_any _).mono ?_); rintro en w3 ⟨rfl, hb3⟩; have hb3' := Lib.hid (((Below.refl W2.heap.size W2).drew).trans hb3); have g3 := (h4'.out.below hb3'.out h4'.out.lt).cell 0)
    | (go_at_call 126; (with_reducible refine (HC.out _ hb3'.out).mono ?_); rintro en w4 ⟨b, rfl, hr⟩))
  all_goals (
    go_wp2
    refine bodyPost_end (results_none rfl _ _ _) rfl ?_
    exact ⟨⟨_, rfl⟩, hr.out⟩)
end Go.Proofs.YtplgbapbgcipdaaGreat

/-! (*fire).burn: the whole fire. -/
namespace Go.Proofs.YtplgbapbgcipdaaGreat
open Go.RowKit

end Go.Proofs.YtplgbapbgcipdaaGreat

/-! Package burning: Burn and Superstable. -/
namespace Go.Proofs.YtplgbapbgcipdaaGreat
open Go.RowKit Go.Shelf
attribute [local go_sem] Oper.semAt_some

end Go.Proofs.YtplgbapbgcipdaaGreat

/-! Package stabilize: settle, settled, given, Stabilize. -/
namespace Go.Proofs.YtplgbapbgcipdaaGreat
open Go.RowKit

section
variable {n q : Nat} {es : List E3}
theorem fire_eq (hG : RightG n es) {d : List Int} {v : Nat} (k : Int) : fireTo (rowsL n (endsL es)) (valL n (endsL es)) d n v k n = fireD es n d v k := by
  unfold fireTo fireD
  apply List.map_congr_left
  intro u hu
  have hu := List.mem_range.1 hu
  rw [if_pos hu, rowsL_tt hG hu, valL_val hG.ok, valE_valS hG]
  omega
theorem cnt_times {l : List Nat} {v : Nat} (hv : v < n) (t : Nat) : (cntD n l).set v ((cntD n l).getD v 0 + t) = cntD n (l ++ List.replicate t v) := by
  refine list_ext_n (n := n) (by simp [cntD_length]) cntD_length fun i hi => ?_
  have e : (cntD n (l ++ List.replicate t v))[i]? = some ((l ++ List.replicate t v).count i : Int) := by simp [cntD, hi]
  rw [e, List.count_append]
  by_cases h : i = v
  · subst h
    rw [List.getElem?_set_self (by rw [cntD_length]; exact hi), cntD_get hi]
    simp
  · rw [List.getElem?_set_ne (fun e => h e.symm)]
    simp [cntD, hi, List.count_replicate, Ne.symm h]
theorem cnt_bd {l : List Nat} : ∀ x ∈ cntD n l, 0 ≤ x ∧ x ≤ l.length := by
  intro x hx
  unfold cntD at hx
  obtain ⟨u, _, rfl⟩ := List.mem_map.1 hx
  have := List.count_le_length (a := u) (l := l)
  omega
theorem wait_none (hG : RightG n es) (hn : n ≤ 12) {d : List Int} (h : ∀ j, j < 12 → (waitL n q d (valL n (endsL es))).getD j false = false) : CalmD es n q d := by
  intro v hv hq
  have h1 := h v (by omega)
  unfold waitL at h1
  rw [List.getD_eq_getElem?_getD, List.getElem?_map, List.getElem?_range (by omega)] at h1
  simp only [Option.map_some, Option.getD_some, hv, decide_true, Bool.true_and] at h1
  unfold unst at h1
  rw [decide_eq_true (show (v : Int) ≠ (q : Int) by omega), Bool.true_and, valL_val hG.ok, valE_valS hG] at h1
  have := of_decide_eq_false h1
  omega
theorem wait_some (hG : RightG n es) {d : List Int} {v : Nat} (h12 : v < 12) (h : (waitL n q d (valL n (endsL es))).getD v false = true) : v < n ∧ v ≠ q ∧ valS es n v ≤ d.getD v 0 := by
  unfold waitL at h
  rw [List.getD_eq_getElem?_getD, List.getElem?_map, List.getElem?_range h12] at h
  simp only [Option.map_some, Option.getD_some, Bool.and_eq_true] at h
  obtain ⟨h1, h2⟩ := h
  unfold unst at h2
  rw [Bool.and_eq_true, valL_val hG.ok, valE_valS hG] at h2
  have h3 := of_decide_eq_true h2.1
  exact ⟨of_decide_eq_true h1, by omega, of_decide_eq_true h2.2⟩
end
/-- What stabilization needs of its configuration. -/
structure SArgs (n q : Nat) (es : List E3) (d : List Int) : Prop where
  hlen : es.length ≤ 10000
  hz : checkG n es = 0
  hC : AllConn n es
  hq : q < n
  dl : d.length = n
  db : ∀ v, v < n → -1048576 ≤ d.getD v 0 ∧ d.getD v 0 ≤ 1048576
  d0 : ∀ v, v < n → v ≠ q → 0 ≤ d.getD v 0

set_option maxRecDepth 100000 in
set_option maxHeartbeats 8000000 in
theorem settle_any (base bp n q : Nat) (es : List E3) (d : List Int) (hS : SArgs n q es d) (a : PA) (w : World)
    (h : PileW w base bp n a d q (rowsL n (endsL es)) (valL n (endsL es)) (cntD n []) 0 (waitL n q d (valL n (endsL es)))) :
    Calls Tryz.prog 136 #[.pointer (some ⟨bp, 0, none⟩)] w fun e w' => Only (PB a bp) w w' ∧
      ((e = .returned (.int .i64 12) ∧ ∃ l, Leg es n q d l ∧ 1048576 < l.length) ∨
       (e = .returned (.int .i64 0) ∧ ∃ l ws, Leg es n q d l ∧ l.length ≤ 1048576 ∧ CalmD es n q (runD es n d l) ∧ PileW w' base bp n a (runD es n d l) q (rowsL n (endsL es)) (valL n (endsL es)) (cntD n l) l.length ws)) := by
  have hG := right_of hS.hz
  have hn12 : n ≤ 12 := by have := hG.hi; omega
  have htt : ∀ a b, 0 ≤ tt es a b := fun a b => (tt_bd hG.ok a b).1
  have hbd : Hid (∀ l, Leg es n q d l → ∀ v, v < n → -1048576 ≤ (runD es n d l).getD v 0 ∧ (runD es n d l).getD v 0 ≤ 25165824) := by
    intro l hl v hv
    have := hl.bound (M := 1048576) htt (by omega) hS.d0 hS.db v hv
    omega
  have hel := endsL_length hG.ok
  have hvb := valL_bd n (endsL es)
  have hrb := rowsL_bd n (endsL es) (endsL_ok hG.ok)
  have hlen := hS.hlen
  have HVB : Hid (ValBd n 1048576 (valL n (endsL es))) := ⟨hvb.1, fun x hx => by have := hvb.2 x hx; omega⟩
  have HRB : Hid (TabBd n 1048576 (rowsL n (endsL es))) := ⟨hrb.1, fun r hr => ⟨(hrb.2 r hr).1, fun x hx => by have := (hrb.2 r hr).2 x hx; omega⟩⟩
  have HS := Lib.hid hS
  have HG := Lib.hid hG
  have HVP : Hid (∀ v, v < n → v ≠ q → 1 ≤ (valL n (endsL es)).getD v 0) := fun v hv hq => by rw [valL_val hG.ok]; exact val_pos hG hS.hC hv hS.hq hq
  have HH := Lib.hid h
  obtain ⟨rows, hrows⟩ : ∃ rows, rowsL n (endsL es) = rows := ⟨_, rfl⟩
  obtain ⟨val, hval⟩ : ∃ val, valL n (endsL es) = val := ⟨_, rfl⟩
  have HROWS := Lib.hid hrows
  have HVAL := Lib.hid hval
  rw [hrows] at HRB HH ⊢
  rw [hval] at HVB HVP HH ⊢
  clear h hS hG hel hvb hrb hrows hval hlen
  have hmf : ∀ (fn : Fn) (first cap : Array Value) (w : World), (Instr.makeFunc fn first cap).run Tryz.prog w = .ok (.func fn first cap) w := fun _ _ _ _ => rfl
  have NX := Lib.hid (pnext_any base bp n a d q rows val (cntD n []) 0 _ w HH.out)
  go_enter Tryz.func136, Tryz.ntmps136
  go_wp2_with fail
  refine (NX.out).mono ?_
  rintro e w' ⟨rfl, rfl⟩
  go_wp2_with fail
  go_loopw [4] (fun t wl => ∃ (l : List Nat), Hid (Leg es n q d l) ∧ l.length ≤ 1048576 ∧ t = .int .i64 (firstT (waitL n q (runD es n d l) val)) ∧ Hid (PileW wl base bp n a (runD es n d l) q rows val (cntD n l) l.length (waitL n q (runD es n d l) val)) ∧ Hid (Only (PB a bp) w' wl)) (fun _ wl => 1048577 - (intOf ((wl.cell? ⟨bp, 5, none⟩).getD (.int .i64 0))).toNat)
  case atStart => exact ⟨[], .nil, by simp, rfl, HH, Only.refl _ _⟩
  case round =>
    obtain ⟨l, HL, hll, rfl, HP, HO⟩ := hrel
    obtain ⟨x, hx⟩ : ∃ x, runD es n d l = x := ⟨_, rfl⟩
    have HX := Lib.hid hx
    rw [hx] at HP ⊢
    rcases firstT_cases (waitL n q x val) with ⟨h1, h2⟩ | ⟨v, h1, h2, h3⟩
    · rw [h1]
      have hcalm : CalmD es n q x := by
        rw [← HVAL.out] at h2
        exact wait_none HG.out hn12 fun j hj => h2 j (by rw [HVAL.out]; simpa [waitL] using hj)
      have HCL := Lib.hid hcalm
      clear hx h1 h2 hcalm
      go_wp2
      go_ret
      exact ⟨HO.out, .inr ⟨rfl, l, _, HL.out, hll, by rw [HX.out]; exact HCL.out, by rw [HX.out]; exact HP.out⟩⟩
    · rw [h1]
      rw [← HVAL.out] at h2 h3
      obtain ⟨hvn, hvq, hvs⟩ := wait_some HG.out (by simpa [waitL] using h2) h3
      have hvp := HVP.out v hvn hvq
      have hxl : x.length = n := by rw [← hx]; exact runD_length HS.out.dl
      obtain ⟨xv, hxv⟩ := get_of_lt (xs := x) (k := v) (by omega)
      obtain ⟨yv, hyv⟩ := get_of_lt (xs := val) (k := v) (by rw [HVB.out.1]; exact hvn)
      rw [getD_at hyv] at hvp
      have hyS : valS es n v = yv := by rw [← valE_valS HG.out, ← valL_val (n := n) HG.out.ok, HVAL.out, getD_at hyv]
      rw [hyS, getD_at hxv] at hvs
      have hxb := hbd.out l HL.out v hvn
      rw [hx, getD_at hxv] at hxb
      obtain ⟨X, rfl⟩ := Int.eq_ofNat_of_zero_le (show 0 ≤ xv by omega)
      obtain ⟨Y, rfl⟩ := Int.eq_ofNat_of_zero_le (show 0 ≤ yv by omega)
      have hqt : (X : Int).tdiv (Y : Int) = ((X / Y : Nat) : Int) := by rw [Int.tdiv_eq_ediv_of_nonneg (by omega)]; rfl
      obtain ⟨T, hT⟩ : ∃ T, X / Y = T := ⟨_, rfl⟩
      rw [hT] at hqt
      have hT1 : 1 ≤ T := by rw [← hT]; exact Nat.div_pos (by omega) (by omega)
      have hTY : T * Y ≤ X := by rw [← hT]; exact Nat.div_mul_le_self X Y
      have hTX : T ≤ X := Nat.le_trans (Nat.le_mul_of_pos_right T (by omega)) hTY
      have hleg := HL.out.times (fun a => by unfold tt; rw [if_pos rfl]) HS.out.dl hvn hvq (by rw [hyS]; omega) T (by rw [hx, hyS, getD_at hxv]; exact_mod_cast hTY)
      have hfe := fire_eq HG.out (d := x) (v := v) (T : Int)
      rw [HROWS.out, HVAL.out] at hfe
      have hf2 : fireTo rows val x n v T n = runD es n d (l ++ List.replicate T v) := by rw [hleg.2, hx]; exact hfe
      have hct := cnt_times (n := n) (l := l) hvn T
      have hlt : (l.length : Int) + (T : Int) = ((l ++ List.replicate T v).length : Nat) := by simp
      have FR := pfire_any base bp n hn12 a x q rows val (cntD n l) l.length v hvn T (by omega) (by omega)
        (fun y hy => by
          obtain ⟨i, hi⟩ := List.getElem?_of_mem hy
          have := hbd.out l HL.out i (by have := (List.getElem?_eq_some_iff.1 hi).1; omega)
          rw [hx, getD_at hi] at this
          omega) HVB.out HRB.out (fun y hy => by have := cnt_bd y hy; omega) (by omega) wr.drew HP.out.drew
      rw [hct, hlt, hf2] at FR
      have FR := Lib.hid FR
      have HLEG := Lib.hid hleg.1
      have e0 := HP.out.c0
      have e3 := HP.out.c3
      have ed := HP.out.cd hxv
      have ev := HP.out.cv hyv
      have hy0 : ((Y : Int) == 0) = false := by simp; omega
      have hy1 : ¬ (Y : Int) = 0 := by omega
      have hy2 : ¬ Y = 0 := by omega
      have hy3 : (Y == 0) = false := by simp; omega
      have hvi : (v : Int) < (n : Int) := by omega
      have hv0 : ¬ (v : Int) < 0 := by omega
      have hwT : IntKind.i64.wrap (T : Int) = T := IntWalk.i64_in _ (by omega)
      have hT5 := HP.out.c5
      have HT5 := Lib.hid hT5
      have hpl := HP.out.blk.lt
      clear hx hxv hyv h1 h2 h3 hleg hct hfe hf2 hvs hxb hyS hT hTY hlt hT5
      go_wp2_with fail
      refine region_tail 17 (by kernel_rfl) (by kernel_rfl) ?_
      simp only [List.take_succ_cons, List.take_zero, List.drop_succ_cons, List.drop_zero]
      repeat still_step
      refine wpStill_nil ?_
      obtain ⟨l', hl'⟩ : ∃ l', l ++ List.replicate T v = l' := ⟨_, rfl⟩
      have hlen' : l'.length = l.length + T := by rw [← hl']; simp
      rw [hl'] at FR HLEG
      clear hl' e0 e3 ed ev
      go_wp2_with fail
      refine (FR.out).mono ?_
      rintro e w5 ⟨⟨x5, rfl⟩, P5, O5⟩
      have c5 := P5.c5
      have HP5 := Lib.hid P5
      have HO5 := Lib.hid (HO.out.drew.trans O5)
      have NX5 := Lib.hid (pnext_any base bp n a _ q rows val _ _ _ w5 P5)
      have HLN := Lib.hid hlen'
      clear P5 O5 hlen'
      obtain ⟨N, hN⟩ : ∃ N, l'.length = N := ⟨_, rfl⟩
      have HN := Lib.hid hN
      rw [hN] at c5
      clear hN
      by_cases hbig : 1048576 < N
      · have hbi : (1048576 : Int) < (N : Int) := by omega
        go_wp2
        go_ret
        exact ⟨HO5.out, .inl ⟨rfl, l', HLEG.out, by rw [HN.out]; exact hbig⟩⟩
      · have hbi : ¬ (1048576 : Int) < (N : Int) := by omega
        go_wp2_with fail
        refine (NX5.out).mono ?_
        rintro e w6 ⟨rfl, rfl⟩
        go_wp2_with fail
        go_roundw
        case rel => exact ⟨l', HLEG, by rw [HN.out]; omega, rfl, HP5, HO5⟩
        case measure =>
          rw [HT5.out, c5]
          have := HLN.out
          have := HN.out
          simp [intOf]; omega
end Go.Proofs.YtplgbapbgcipdaaGreat

