/-
  Texts of this claim, put together: TIter, TAll, SameL, DEqual.
-/
import Derived.Test.YtepmfbgmkfkmkaaK20
import Derived.Deep.RegionWith
import Derived.Test.YtepmfbgmkfkmkaaK03
import Derived.Test.YtepmfbgmkfkmkaaK04
import Derived.Test.YtepmfbgmkfkmkaaK06
import Derived.Deep.QuietTactic
import Derived.BigQuiet
/-! Package tree: the iterator of all spanning trees. -/
namespace Go.Proofs.Ytepmfbgmkfkmkaa
open Go.RowKit Go.Shelf

theorem grow_any (n : Nat) (hn1 : 1 ≤ n) (hn : n ≤ 12) (E : List (Nat × Nat)) (hE : BdP n E) (hel : E.length ≤ 1000000) (Ar : Option Addr) (cr l bN bY bE bG base : Nat) (xs : List (List Nat)) (J Jx : List (List Nat) → (Nat → Prop) → World → Prop)
    (hY : Rounds Try.prog l J Jx xs base) (hJ : Bears base (fun _ => False) J) :
    ∀ (m : Nat) (t : List Nat) (e : Nat), E.length - e ≤ m → e ≤ E.length → t.length + 1 ≤ n → (∀ y ∈ t, y < E.length) → GrowC n E Ar cr l bN bY bE bG base xs J Jx t e := by
  intro m
  induction m with
  | zero =>
    intro t e hm he ht htE
    by_cases h1 : t.length + 1 = n
    · intro a0 a1 a2 a3 a4 a5 a6 a7 a8 a9 a10 a11 A c C pre W hF hS hp h0
      exact grow_leaf n hn1 hn E Ar cr l bN bY bE bG base xs J Jx hY hJ t h1 e a0 a1 a2 a3 a4 a5 a6 a7 a8 a9 a10 a11 A c C pre W hS.w hS.own hS.cl hp h0
    · exact grow_step n hn1 hn E hE hel Ar cr l bN bY bE bG base xs J Jx hJ t (by omega) htE e he fun k h1 h2 => absurd h2 (by omega)
  | succ m ih =>
    intro t e hm he ht htE
    by_cases h1 : t.length + 1 = n
    · intro a0 a1 a2 a3 a4 a5 a6 a7 a8 a9 a10 a11 A c C pre W hF hS hp h0
      exact grow_leaf n hn1 hn E Ar cr l bN bY bE bG base xs J Jx hY hJ t h1 e a0 a1 a2 a3 a4 a5 a6 a7 a8 a9 a10 a11 A c C pre W hS.w hS.own hS.cl hp h0
    · refine grow_step n hn1 hn E hE hel Ar cr l bN bY bE bG base xs J Jx hJ t (by omega) htE e he fun k h2 h3 => ih (t ++ [k]) (k + 1) (by omega) (by omega) (by simp; omega) fun y hy => ?_
      rcases List.mem_append.1 hy with hy | hy
      · exact htE y hy
      · rw [List.mem_singleton.1 hy]; exact h3

theorem Blk.newAt {w : World} {g : Nat} {t : TypeId} {cs : Array Value} (hg : g = w.heap.size) : Blk (w.alloc (.cells cs t)) g t cs := by subst hg; exact Blk.new w t cs
theorem growL_all (n : Nat) (E : List (Nat × Nat)) : growL n E [] 0 = treesT n E := by
  unfold growL treesT
  by_cases h : n = 1
  · rw [if_pos (by simp [h]), if_pos h]
  · rw [if_neg (by simp; omega), if_neg h]; rfl

/-- What the iterator leans on. -/
def KT (bN bE : Nat) (Ar : Option Addr) (k : Nat) : Prop := k = bN ∨ k = bE ∨ blockOf Ar k
set_option maxRecDepth 100000 in
set_option maxHeartbeats 4000000 in
theorem trees_iter (n : Nat) (hn1 : 1 ≤ n) (hn : n ≤ 12) (E : List (Nat × Nat)) (hE : BdP n E) (hel : E.length ≤ 1000000) (Ar : Option Addr) (cr bN bE : Nat) (hcap : E.length ≤ cr) (W0 : World)
    (h1 : Blk W0 bN 3 #[.int .i64 n]) (h3 : Blk W0 bE 45 #[.slice Ar E.length cr]) (rd : Reads W0 W0.heap.size 2 Ar E.length (pair2 E)) (hAr : ∀ k, blockOf Ar k → k < W0.heap.size) :
    Iter Try.prog 90 #[.pointer (some ⟨bN, 0, none⟩), .pointer (some ⟨bE, 0, none⟩)] ArgT (KT bN bE Ar) (fun _ => False) (treesT n E) W0 := by
  intro l J Jx C W hL hC hJ hJx hY h0
  have eg := enters_of (P := Try.prog) Try.func91 (by kernel_rfl) rfl
  have hmf : ∀ (fn : Fn) (first cap : Array Value) (w : World), (Instr.makeFunc fn first cap).run Try.prog w = .ok (.func fn first cap) w := fun _ _ _ _ => rfl
  have k1 : Blk W bN 3 #[.int .i64 n] := (hL.block bN h1.lt (.inl rfl)).trans h1
  have k3 : Blk W bE 45 #[.slice Ar E.length cr] := (hL.block bE h3.lt (.inr (.inl rfl))).trans h3
  have k4 : Reads W W.heap.size 2 Ar E.length (pair2 E) := ⟨rd.1, fun hn => by
    obtain ⟨b, off, rfl, hb, hc⟩ := rd.2 hn
    exact ⟨b, off, rfl, by have := hL.size; omega, fun j u hu => (World.cell?_of_block (w := W0) (hL.block b hb (.inr (.inr ⟨_, rfl, rfl⟩)))).trans (hc j u hu)⟩⟩
  have hlb : ∀ k, KT bN bE Ar k → k < W.heap.size := fun k hk => by
    have := hL.size
    rcases hk with rfl | rfl | hk
    · exact k1.lt
    · exact k3.lt
    · have := hAr k hk; omega
  obtain ⟨W2, hW2⟩ : ∃ W2, (W.alloc (.cells #[.func (.yield l) #[] #[]] 105)).alloc (.cells #[growF bN W.heap.size bE (W.heap.size + 1)] 106) = W2 := ⟨_, rfl⟩
  have ho2 : Only (fun _ => False) W W2 := by rw [← hW2]; exact ((Only.refl _ W).alloc _).alloc _
  have hs2 : W2.heap.size = W.heap.size + 1 + 1 := by rw [← hW2]; simp
  have GW : GrowW W2 n E Ar cr l bN W.heap.size bE (W.heap.size + 1) W.heap.size := by
    refine ⟨k1.only ho2 id, ?_, k3.only ho2 id, ?_, reads_onlyN k4 ho2 (Nat.le_refl _) (fun _ _ h => h), by omega, hcap⟩
    · rw [← hW2]; exact (Blk.new W _ _).alloc _
    · rw [← hW2]; exact Blk.newAt (by simp)
  have HGS : Hid (∀ w3, Below W2.heap.size W2 w3 → GrowS n E Ar cr l bN W.heap.size bE (W.heap.size + 1) W.heap.size none 0 [] C w3 ∧ J [] C w3) := by
    intro w3 hb
    have o3 : Only (fun _ => False) W w3 := ho2.trans (Only.of_new hb)
    refine ⟨⟨GW.only (Only.of_new hb) (fun _ _ h => h), OwnI.nil_ _ _, fun k hk => ⟨by have := (hC k hk).1; have := o3.size; omega, fun hf => ?_, fun ⟨a, h, _⟩ => (by cases h)⟩, fun k ⟨a, h, _⟩ => (by cases h), fun k hf => ?_⟩, hJ _ _ _ _ h0 (Stays.of_only o3 (fun _ _ h => h.elim))⟩
    · have h2 := (hC k hk)
      rcases hf with rfl | rfl | rfl | rfl | hf
      · exact h2.2 (.inl rfl)
      · omega
      · exact h2.2 (.inr (.inl rfl))
      · omega
      · exact h2.2 (.inr (.inr hf))
    · have hs3 := hb.size
      rcases hf with rfl | rfl | rfl | rfl | hf
      · have := hlb _ (.inl rfl); omega
      · omega
      · have := hlb _ (.inr (.inl rfl)); omega
      · omega
      · have := hlb _ (.inr (.inr hf)); omega
  have GC := grow_any n hn1 hn E hE hel Ar cr l bN W.heap.size bE (W.heap.size + 1) W.heap.size (treesT n E) J Jx hY hJ (E.length - 0) [] 0 (Nat.le_refl _) (by omega) (by simp; omega) (by simp)
  have HC : Hid (∀ w3, Below W2.heap.size W2 w3 → Calls Try.prog 91 #[.slice none 0 0, .int .i64 0, .agg #[.int .i64 0, .int .i64 1, .int .i64 2, .int .i64 3, .int .i64 4, .int .i64 5, .int .i64 6, .int .i64 7, .int .i64 8, .int .i64 9, .int .i64 10, .int .i64 11], .pointer (some ⟨bN, 0, none⟩), .pointer (some ⟨W.heap.size, 0, none⟩), .pointer (some ⟨bE, 0, none⟩), .pointer (some ⟨W.heap.size + 1, 0, none⟩)] w3
      fun en w' => ∃ b, en = .returned (.bool b) ∧ Hid (∃ C', (J (treesT n E) C' w' ∨ ∃ pre, pre <+: treesT n E ∧ Jx pre C' w'))) := by
    intro w3 hb
    obtain ⟨s1, s2⟩ := HGS.out w3 hb
    refine (GC 0 1 2 3 4 5 6 7 8 9 10 11 none 0 C [] w3 fr_nil s1 (by rw [growL_all]; exact List.prefix_refl _) s2).mono ?_
    rintro en w' ⟨C', b, rfl, _, _, hb1, hb2⟩
    refine ⟨b, rfl, C', ?_⟩
    cases b
    · exact .inr (hb2 rfl)
    · have := (hb1 rfl).1
      rw [growL_all] at this
      exact .inl this
  have g0 := GW.h4.cell 0
  have HW2 := Lib.hid hW2
  have h4' := Lib.hid GW.h4
  clear hY hJ hJx h0 GC GW hL hC k1 k3 k4 h1 h3 rd HGS ho2 hW2 hs2
  go_enter Try.func90, Try.ntmps90
  go_wp2_with fail
  try rw [HW2.out]
  go_region_with (first
    | (go_at_call 59; (with_reducible refine (loose_any _).mono ?_); rintro en w3 ⟨rfl, hb3⟩; have hb3' := Lib.hid (((Below.refl W2.heap.size W2).drew).trans hb3); have g3 := (h4'.out.below hb3'.out h4'.out.lt).cell 0)
    | (go_at_call 91; (with_reducible refine (HC.out _ hb3'.out).mono ?_); rintro en w4 ⟨b, rfl, hr⟩))
  all_goals (
    go_wp2
    refine bodyPost_end (results_none rfl _ _ _) rfl ?_
    exact ⟨⟨_, rfl⟩, hr.out⟩)
end Go.Proofs.Ytepmfbgmkfkmkaa

/-! Package tree: trees, All, Count. -/
namespace Go.Proofs.Ytepmfbgmkfkmkaa
open Go.RowKit Go.Shelf
attribute [local go_sem] Oper.semAt_some

set_option maxHeartbeats 1000000 in
theorem ftrees_any (n : Nat) (Ar : Option Addr) (m cr : Nat) (w : World) :
    Calls Try.prog 72 #[.int .i64 n, .slice Ar m cr] w fun e w' => e = .returned (.func (.func 90) #[] #[.pointer (some ⟨w.heap.size, 0, none⟩), .pointer (some ⟨w.heap.size + 1, 0, none⟩)]) ∧
      (w.alloc (.cells #[.int .i64 n] 3)).alloc (.cells #[.slice Ar m cr] 45) = w' := by
  have hmf : ∀ (fn : Fn) (first cap : Array Value) (w : World), (Instr.makeFunc fn first cap).run Try.prog w = .ok (.func fn first cap) w := fun _ _ _ _ => rfl
  go_enter Try.func72, Try.ntmps72
  go_wp2
  go_ret
  exact ⟨rfl, rfl⟩
/-- What All returns. -/
def tallE (n : Int) (es : List E3) : List (List Int) × Int := if joinErr n es ≠ 0 then ([], joinErr n es) else ((treesT n.toNat (endsL es)).map nI, 0)
theorem OwnQ.cap_ {w : World} {base : Nat} {A : Option Addr} {c : Nat} {ps : List (Nat × Nat)} (h : OwnQ w base A c ps) : ps.length ≤ c := by
  rcases h.2 with ⟨hv, h0⟩ | ⟨g, cap, cur, hv, _, _, h1, _⟩
  · omega
  · injection hv with _ _ e; omega

set_option maxRecDepth 100000 in
set_option maxHeartbeats 4000000 in
theorem tall_err (n : Int) (A : Option Addr) (c : Nat) (es : List E3) (hn : es.length ≤ 10000) (w : World) (h : Reads w w.heap.size 3 A es.length (edgeCells es)) (hj : joinErr n es ≠ 0) :
    Calls Try.prog 38 #[.agg #[.int .i64 n, .slice A es.length c]] w fun e w' => ∃ Ar cr vs, e = .returned (.tuple #[.slice Ar (tallE n es).1.length cr, .int .i64 (tallE n es).2]) ∧ OwnRows w' w.heap.size Ar cr vs (tallE n es).1 ∧ Below w.heap.size w w' := by
  have HE : Hid (tallE n es = ([], joinErr n es)) := if_pos hj
  rw [HE.out]
  have GC := Lib.hid (fun (W : World) (hB : Below w.heap.size w W) => tgiven_any n A c es hn W ((h.below hB).more hB.size))
  obtain ⟨z, hzz⟩ : ∃ z, joinErr n es = z := ⟨_, rfl⟩
  rw [hzz] at GC hj ⊢
  have hb : (z != 0) = true := by simpa using hj
  have HZ := Lib.hid hj
  have g0 := Blk.new w 24 #[.int .i64 n, .slice A es.length c]
  obtain ⟨w0, hw0⟩ : ∃ w0, ((w.alloc (.cells #[.int .i64 n, .slice A es.length c] 24)).alloc (.cells #[.slice none 0 0] 57)).alloc (.cells #[.int .i64 0] 28) = w0 := ⟨_, rfl⟩
  have hB0 : Below w.heap.size w w0 := by rw [← hw0]; exact (((Below.refl _ _).alloc (Nat.le_refl _) _).alloc (by simp) _).alloc (by simp; omega) _
  have rg : Blk w0 w.heap.size 24 #[.int .i64 n, .slice A es.length c] := by rw [← hw0]; exact (g0.alloc _).alloc _
  have r1 : Blk w0 (w.heap.size + 1) 57 #[.slice none 0 0] := by rw [← hw0]; exact (Blk.newAt (by simp)).alloc _
  have r2 : Blk w0 (w.heap.size + 2) 28 #[.int .i64 0] := by rw [← hw0]; exact Blk.newAt (by simp)
  have c0 := rg.cell 0
  have c1 := rg.cell 1
  clear hj hzz HE g0
  refine (callsIn_wide (n := 3)).1 ?_
  refine callsIn_of_wp_marks Try.func38 rfl trivial ?_
  simp only [Try.ntmps38, List.size_toArray, List.length_cons, List.length_nil, Nat.reduceAdd, Nat.reduceSub, Array.replicate_succ, Array.replicate_zero, List.push_toArray, List.append_toArray, List.nil_append, List.cons_append]
  gi_wp2_with fail
  refine ⟨trivial, ?_⟩
  refine (inW (GC.out _ hB0)).mono ?_
  rintro e w1 ⟨Ar, lr, cr, rfl, _, hg2, hb1⟩
  obtain ⟨rfl, rfl⟩ := hg2 HZ.out
  have s1 := r1.next hb1
  have s2 := r2.next hb1
  have e4 := s1.cell 0
  have e5 := s2.cell 0
  have f4 := s1.frozen 0
  have f5 := s2.frozen 0
  have BB := Lib.hid (hB0.trans (hb1.mono hB0.size))
  clear hw0 hB0 hb1 c0 c1 rg r1 r2
  gi_wp2
  have g1 : Blk ((w1.setCell ⟨w.heap.size + 1, 0, none⟩ (.slice none 0 0)).setCell ⟨w.heap.size + 2, 0, none⟩ (.int .i64 z)) (w.heap.size + 1) 57 #[.slice none 0 0] := by
    have := (s1.set_ 0 (.slice none 0 0)).far (p := ⟨w.heap.size + 2, 0, none⟩) (by simp) (.int .i64 z)
    simpa using this
  have g2 : Blk ((w1.setCell ⟨w.heap.size + 1, 0, none⟩ (.slice none 0 0)).setCell ⟨w.heap.size + 2, 0, none⟩ (.int .i64 z)) (w.heap.size + 2) 28 #[.int .i64 z] := by
    have := (s2.far (p := ⟨w.heap.size + 1, 0, none⟩) (by simp) (.slice none 0 0)).set_ 0 (.int .i64 z)
    simpa using this
  have p2 := g1.cell 0
  have p3 := g2.cell 0
  refine end_none (v := .tuple #[.slice none 0 0, .int .i64 z]) (by simp [results, Try.results38, go_sem, p2, p3]) ⟨none, 0, [], rfl, OwnRows.nil_ _ _, (BB.out.setCell (by show w.heap.size ≤ w.heap.size + 1; omega) _).setCell (by show w.heap.size ≤ w.heap.size + 2; omega) _⟩

set_option maxRecDepth 100000 in
set_option maxHeartbeats 8000000 in
theorem tall_ok (n : Nat) (A : Option Addr) (c : Nat) (es : List E3) (hlen : es.length ≤ 10000) (hj : joinErr n es = 0) (xss : List (List Nat)) (hxs : treesT n (endsL es) = xss) (hxl : xss.length ≤ 16384) (w : World) (h : Reads w w.heap.size 3 A es.length (edgeCells es)) :
    Calls Try.prog 38 #[.agg #[.int .i64 n, .slice A es.length c]] w fun e w' => ∃ Ar cr vs, e = .returned (.tuple #[.slice Ar xss.length cr, .int .i64 0]) ∧ OwnRows w' w.heap.size Ar cr vs (xss.map nI) ∧ Below w.heap.size w w' := by
  obtain ⟨hz, hG, _⟩ := join_zero hj
  have hn12 : n ≤ 12 := by have := hG.hi; omega
  have hn1 : 1 ≤ n := by have := hG.lo; omega
  have HX := Lib.hid hxs
  have HBD := Lib.hid (bd_ends hG)
  have HEL : Hid ((endsL es).length ≤ 1000000) := by have := endsL_length hG.ok; unfold Hid; omega
  have GC := Lib.hid (fun (W : World) (hB : Below w.heap.size w W) => tgiven_any n A c es hlen W ((h.below hB).more hB.size))
  rw [hj] at GC
  obtain ⟨E, hE⟩ : ∃ E, endsL es = E := ⟨_, rfl⟩
  rw [hE] at HX HBD HEL GC
  clear hxs hz hG hj hE h
  have g0 := Blk.new w 24 #[.int .i64 n, .slice A es.length c]
  obtain ⟨w0, hw0⟩ : ∃ w0, ((w.alloc (.cells #[.int .i64 n, .slice A es.length c] 24)).alloc (.cells #[.slice none 0 0] 57)).alloc (.cells #[.int .i64 0] 28) = w0 := ⟨_, rfl⟩
  have hs0 : w0.heap.size = w.heap.size + 3 := by rw [← hw0]; simp
  have hB0 : Below w.heap.size w w0 := by rw [← hw0]; exact (((Below.refl _ _).alloc (Nat.le_refl _) _).alloc (by simp) _).alloc (by simp; omega) _
  have rg : Blk w0 w.heap.size 24 #[.int .i64 n, .slice A es.length c] := by rw [← hw0]; exact (g0.alloc _).alloc _
  have r1 : Blk w0 (w.heap.size + 1) 57 #[.slice none 0 0] := by rw [← hw0]; exact (Blk.newAt (by simp)).alloc _
  have r2 : Blk w0 (w.heap.size + 2) 28 #[.int .i64 0] := by rw [← hw0]; exact Blk.newAt (by simp)
  have c0 := rg.cell 0
  have c1 := rg.cell 1
  refine (callsIn_wide (n := 3)).1 ?_
  refine callsIn_of_wp_marks Try.func38 rfl trivial ?_
  simp only [Try.ntmps38, List.size_toArray, List.length_cons, List.length_nil, Nat.reduceAdd, Nat.reduceSub, Array.replicate_succ, Array.replicate_zero, List.push_toArray, List.append_toArray, List.nil_append, List.cons_append]
  gi_wp2_with fail
  refine ⟨trivial, ?_⟩
  refine (inW (GC.out _ hB0)).mono ?_
  rintro e w1 ⟨Aq, lq, cq, rfl, hg1, _, hb1⟩
  obtain ⟨rfl, HQ⟩ := hg1 rfl
  have HQ := Lib.hid HQ
  have hs1 := hb1.size
  have g1 := rg.next hb1
  have hB1 : Below w.heap.size w w1 := hB0.trans (hb1.mono hB0.size)
  have r1' := r1.next hb1
  have r2' := r2.next hb1
  have q0' := Blk.new w1 57 #[.slice none 0 0]
  have c0' := (g1.alloc (.cells #[.slice none 0 0] 57)).cell 0
  obtain ⟨p, hp⟩ : ∃ p, w1.heap.size = p := ⟨_, rfl⟩
  have HPP := Lib.hid hp
  clear hw0 rg r1 r2 hb1 g0 hB0 GC c0 c1
  gi_wp2_with fail
  refine ⟨trivial, ?_⟩
  refine (inW (ftrees_any n Aq E.length cq _)).mono ?_
  rintro e wF ⟨rfl, hwF⟩
  have hgn4 : (w1.alloc (.cells #[.slice none 0 0] 57)).heap.size = p + 1 := by simp [hp]
  have hsF : wF.heap.size = p + 3 := by rw [← hwF]; simp [hp]
  have hB12 : Below w1.heap.size w1 wF := by rw [← hwF]; exact (((Below.refl _ _).alloc (Nat.le_refl _) _).alloc (by simp) _).alloc (by simp; omega) _
  have q0 : Blk wF p 57 #[.slice none 0 0] := by rw [← hwF, ← hp]; exact (q0'.alloc _).alloc _
  have hpz : w.heap.size + 3 ≤ p := by omega
  have hB2 : Below w.heap.size w wF := hB1.trans (hB12.mono hB1.size)
  have s1 := r1'.next hB12
  have s2 := r2'.next hB12
  have HQF : Hid (OwnQ wF w0.heap.size Aq cq E) := own_kept2 HQ.out fun j hj => hB12.block j (World.ownsRow.lt HQ.out j (blockOf_own.2 hj)).2
  have bN : Blk wF (p + 1) 3 #[.int .i64 n] := by rw [← hwF]; exact (Blk.newAt hgn4.symm).alloc _
  have bE : Blk wF (p + 2) 45 #[.slice Aq E.length cq] := by rw [← hwF]; exact Blk.newAt (by simp [hp])
  have HKA : Hid (∀ k, blockOf Aq k → k < p) := fun k hk => by have := (World.ownsRow.lt HQ.out k (blockOf_own.2 hk)).2; omega
  rw [hgn4, show p + 1 + 1 = p + 2 from rfl]
  try rw [hp]
  have HIT := Lib.hid (trees_iter n hn1 hn12 E HBD.out HEL.out Aq cq (p + 1) (p + 2) (OwnQ.cap_ HQF.out) wF bN bE (OwnQ.reads HQF.out) (fun k hk => by have := HKA.out k hk; omega))
  rw [HX.out] at HIT
  clear hwF r1' r2' hB12 hB1 hs0 hs1 g1 q0' c0' bN bE HQ HQF
  gi_wp2_with fail
  refine range_outer (n := 3) (gf := 90) (lb := #[.pointer (some ⟨p + 1, 0, none⟩), .pointer (some ⟨p + 2, 0, none⟩)]) rfl (enters_of Try.func90 (by kernel_rfl) rfl)
    (K := KT (p + 1) (p + 2) Aq) (xs := xss) HIT.out ?hK (fun k => k = p) ?hC
    (fun pre C W => ∃ A c vs, Blk W p 57 #[.slice A pre.length c] ∧ OwnRows W w.heap.size A c vs (pre.map nI) ∧ C p ∧ (∀ k, rowBlock A vs k → C k) ∧ Below w.heap.size w W ∧
      Blk W (w.heap.size + 1) 57 #[.slice none 0 0] ∧ Blk W (w.heap.size + 2) 28 #[.int .i64 0] ∧ (∀ k, C k → k = p ∨ p + 3 ≤ k))
    (fun _ _ _ _ => False) ?hI (fun _ _ _ _ _ h _ => h) ?h0 ?hps ?round ?done (fun _ _ _ _ _ h => h.elim)
  case hK =>
    rintro k (rfl | rfl | h1)
    · omega
    · omega
    · have := HKA.out k h1; omega
  case hC =>
    rintro k rfl
    refine ⟨by omega, ?_⟩
    rintro (e | e | h1)
    · omega
    · omega
    · have := HKA.out _ h1; omega
  case hI =>
    rintro pre C a b ⟨A, c, vs, i1, i2, i3, i4, i5, i6, i7, i8⟩ hst
    refine ⟨A, c, vs, i1.stays hst (.inl i3), i2.kept fun k hk => hst.block k (i2.lt hk).2 (.inl (i4 k hk)), i3, i4, i5.trans (hst.below (fun k hk => .inr ⟨by omega, id⟩) i5.size), i6.stays hst (.inr ⟨by omega, id⟩), i7.stays hst (.inr ⟨by omega, id⟩), i8⟩
  case h0 => exact ⟨none, 0, [], q0, OwnRows.nil_ _ _, rfl, (by rintro k (⟨a, h, _⟩ | ⟨v, h, _⟩) <;> cases h), hB2, s1, s2, fun k hk => .inl hk⟩
  case hps => rintro x' args O W' ⟨A', c', rfl, _⟩; rfl
  case round =>
    intro l pre x args C O W hpre hI hl hC hO harg hlW hnC hnO T hT
    obtain ⟨A, c, vs, i1, i2, i3, i4, i5, i6, i7, i8⟩ := hI
    obtain ⟨A8, c8, rfl, hown8, hO8⟩ := harg
    have hown8' : OwnI W w.heap.size A8 c8 (nI x) := own_rebase hown8 fun k hk => by have := (hO k (hO8 k hk)).2.2; omega
    have hpl : pre.length < 16384 := by
      obtain ⟨z, hz⟩ := hpre
      have := congrArg List.length hz
      simp at this
      omega
    have hpe : ((pre.length : Int) == 16384) = false := by simp; omega
    have hpm : (pre.map nI).length = pre.length := by simp
    have HPM := Lib.hid hpm
    clear hown8 hpm
    gi_wp2
    refine hT _ _ (Only.refl _ _) ?_
    intro w5 h5 _
    have hl5 : ∀ k, C k → k ≠ l := fun k hk e => hnC (e ▸ hk)
    have j1 : Blk w5 p 57 #[.slice A pre.length c] := i1.only h5 (by omega)
    have j2 : OwnRows w5 w.heap.size A c vs (pre.map nI) := i2.kept fun k hk => h5.block k (i2.lt hk).2 (hl5 k (i4 k hk))
    have j5 : Below w.heap.size w w5 := i5.trans (h5.below (fun k hk e => by omega) i5.size)
    have j6 := i6.only h5 (by omega)
    have j7 := i7.only h5 (by omega)
    have j8 : OwnI w5 w.heap.size A8 c8 (nI x) := own_kept hown8' fun k hk => h5.block k (own_lt hown8' hk).2 fun e => hnO (e ▸ hO8 k hk)
    have e1 := j1.cell 0
    have hC5 : ∀ k, C k → k < w5.heap.size := fun k hk => Nat.lt_of_lt_of_le (hC k hk) h5.size
    have hO5 : ∀ k, O k → p + 3 ≤ k ∧ k < w5.heap.size := fun k hk => ⟨by have := (hO k hk).2.2; omega, Nat.lt_of_lt_of_le (hO k hk).2.1 h5.size⟩
    have j21 : w5.ownsRow w.heap.size 25 1 (.slice A pre.length c) pre.length vs := by have := j2.1; rw [HPM.out] at this; exact this
    have hxl8 : (nI x).length = x.length := nI_length x
    have HXL := Lib.hid hxl8
    clear i1 i2 i5 i6 i7 hown8' hC hO hxl8
    gi_wp2_with (gi_at_builtin; refine append_gi rfl (.tmp 24) (.tmp 26) _ rfl w.heap.size 25 Try.underlying57 info_row rfl (by omega) A c pre.length vs rfl (World.ownsRow.alloc j21 _) _ [.slice A8 x.length c8] rfl (Reads.box _ _ _) (by simp [Value.oneCell']) (by omega) (by have := j5.size; simp; omega) ?_; intro A6 c6 w6 hown6 hg6 hb6 hw6; have k1 := (j1.alloc (.cells #[.slice A8 x.length c8] 25)).grown hg6 (own_blk_ne j21 j1 (by decide)); have e2 := k1.cell 0; have f2 := k1.frozen 0)
    have k2 : OwnRows w6 w.heap.size A6 c6 (vs ++ [.slice A8 x.length c8]) (pre.map nI ++ [nI x]) := by
      have := OwnRows.push (w := w5.alloc (.cells #[.slice A8 x.length c8] 25)) (w' := w6) (A' := A6) (c' := c6) (j2.kept fun k hk => Below.heap_alloc _ _ _ (j2.lt hk).2) (OwnI.alloc j8 _) (by rw [HXL.out, HPM.out]; exact hown6) (by rw [HPM.out]; exact hg6)
      rw [HXL.out] at this
      exact this
    have k3 : Only (fun k => C k ∨ O k) w5 w6 := ((Only.refl _ w5).alloc _).grown hg6 fun k hk => .inl (.inl (i4 k (.inl (blockOf_own.1 hk))))
    refine ⟨fun k => C k ∨ O k ∨ (w5.heap.size ≤ k ∧ k < w6.heap.size), k3.setCell (.inl (.inl i3)) _, fun k hk => ?_, A6, c6, vs ++ [.slice A8 x.length c8], ?_, ?_, .inl i3, ?_, ?_, ?_, ?_, ?_⟩
    · simpa [World.setCell] using hk
    · have := k1.set_ 0 (.slice A6 (pre.length + 1) c6)
      simpa using this
    · rw [List.map_append, List.map_singleton]; exact k2.set_blk k1 (by decide) (by decide) _ _
    · rintro k (hk | ⟨v, hv, hk⟩)
      · rcases hw6 with e | e
        · rw [blockOf_own.2 hk] at e
          exact .inl (i4 k (.inl (blockOf_own.1 e.symm)))
        · rw [blockOf_own.2 hk] at e
          injection e with e
          have hlt := (own_lt hown6 hk).2
          exact .inr (.inr ⟨by rw [e]; simp, hlt⟩)
      · rcases List.mem_append.1 hv with hv | hv
        · exact .inl (i4 k (.inr ⟨v, hv, hk⟩))
        · rw [List.mem_singleton.1 hv] at hk
          exact .inr (.inl (hO8 k (blockOf_own.1 hk)))
    · exact (j5.trans (k3.below (fun k hk e => by
        rcases e with e | e
        · have := i8 k e; omega
        · have := (hO5 k e).1; omega) j5.size)).setCell (by show w.heap.size ≤ p; omega) _
    · exact (j6.only k3 (fun e => by
        rcases e with e | e
        · have := i8 _ e; omega
        · have := (hO5 _ e).1; omega)).far (by show w.heap.size + 1 ≠ p; omega) _
    · exact (j7.only k3 (fun e => by
        rcases e with e | e
        · have := i8 _ e; omega
        · have := (hO5 _ e).1; omega)).far (by show w.heap.size + 2 ≠ p; omega) _
    · rintro k (hk | hk | hk)
      · exact i8 k hk
      · exact .inr (hO5 k hk).1
      · exact .inr (by have := h5.size; omega)
  case done =>
    rintro C W ⟨A, c, vs, i1, i2, i3, i4, i5, i6, i7, i8⟩ hnD hD
    have e1 := i1.cell 0
    have e4 := i6.cell 0
    have e5 := i7.cell 0
    have f4 := i6.frozen 0
    have f5 := i7.frozen 0
    gi_wp2
    have g1 : Blk ((W.setCell ⟨w.heap.size + 1, 0, none⟩ (.slice A xss.length c)).setCell ⟨w.heap.size + 2, 0, none⟩ (.int .i64 0)) (w.heap.size + 1) 57 #[.slice A xss.length c] := by
      have := (i6.set_ 0 (.slice A xss.length c)).far (p := ⟨w.heap.size + 2, 0, none⟩) (by simp) (.int .i64 0)
      simpa using this
    have g2 : Blk ((W.setCell ⟨w.heap.size + 1, 0, none⟩ (.slice A xss.length c)).setCell ⟨w.heap.size + 2, 0, none⟩ (.int .i64 0)) (w.heap.size + 2) 28 #[.int .i64 0] := by
      have := (i7.far (p := ⟨w.heap.size + 1, 0, none⟩) (by simp) (.slice A xss.length c)).set_ 0 (.int .i64 0)
      simpa using this
    have g3a : OwnRows (W.setCell ⟨w.heap.size + 1, 0, none⟩ (.slice A xss.length c)) w.heap.size A c vs (xss.map nI) := i2.kept fun k hk => Below.heap_setCell _ _ _ _ (fun e => by have := i8 k (i4 k hk); simp at e; omega)
    have g3 : OwnRows ((W.setCell ⟨w.heap.size + 1, 0, none⟩ (.slice A xss.length c)).setCell ⟨w.heap.size + 2, 0, none⟩ (.int .i64 0)) w.heap.size A c vs (xss.map nI) := g3a.kept fun k hk => Below.heap_setCell _ _ _ _ (fun e => by have := i8 k (i4 k hk); simp at e; omega)
    have g4 : Below w.heap.size w ((W.setCell ⟨w.heap.size + 1, 0, none⟩ (.slice A xss.length c)).setCell ⟨w.heap.size + 2, 0, none⟩ (.int .i64 0)) := (i5.setCell (by simp) _).setCell (by simp) _
    have g5 : ((W.setCell ⟨w.heap.size + 1, 0, none⟩ (.slice A xss.length c)).setCell ⟨w.heap.size + 2, 0, none⟩ (.int .i64 0)).heap[wF.heap.size]? = some (.deferred (some [])) :=
      (Below.heap_setCell _ _ _ _ (by simp; omega)).trans ((Below.heap_setCell _ _ _ _ (by simp; omega)).trans hD)
    have g6 : ∀ k, rowBlock A vs k → k ≠ wF.heap.size := fun k hk e => hnD (e ▸ i4 k hk)
    obtain ⟨Wf, hWf⟩ : ∃ Wf, (W.setCell ⟨w.heap.size + 1, 0, none⟩ (.slice A xss.length c)).setCell ⟨w.heap.size + 2, 0, none⟩ (.int .i64 0) = Wf := ⟨_, rfl⟩
    rw [hWf] at g1 g2 g3 g4 g5
    have p1 := Only.put_one Wf wF.heap.size (.deferred none)
    have p2 := (g1.only p1 (by omega)).cell 0
    have p3 := (g2.only p1 (by omega)).cell 0
    rw [show w.heap.size + 1 + 1 = w.heap.size + 2 from rfl, hWf]
    refine end_mark (v := .tuple #[.slice A xss.length c, .int .i64 0]) g5 (by simp [results, Try.results38, go_sem, p2, p3]) ⟨A, c, vs, rfl, g3.kept fun k hk => p1.block k (g3.lt hk).2 (g6 k hk), g4.trans (p1.below (fun k hk e => by omega) g4.size)⟩
end Go.Proofs.Ytepmfbgmkfkmkaa

/-! ref08.SameInts and ref10.SameLists: whether lists, and lists of lists, are the same. -/
namespace Go.Proofs.Ytepmfbgmkfkmkaa
open Go.RowKit

set_option maxHeartbeats 800000 in
theorem rsameints_any (A : Option Addr) (c : Nat) (xs : List Int) (B : Option Addr) (d : Nat) (ys : List Int) (hn : xs.length ≤ 1048576) (w : World) (h : Reads w w.heap.size 1 A xs.length (ints xs)) (h' : Reads w w.heap.size 1 B ys.length (ints ys)) :
    Calls Try.prog 77 #[.slice A xs.length c, .slice B ys.length d] w fun e w' => e = .returned (.bool (decide (xs = ys))) ∧ Below w.heap.size w w' := by
  by_cases hl : xs.length = ys.length
  · have HL := Lib.hid hl
    have hb : ((xs.length : Int) != (ys.length : Int)) = false := by simp; omega
    clear hl
    go_enter Try.func77, Try.ntmps77
    go_wp2
    clear hb
    go_loopw [5] (fun i wr => ∃ k : Nat, k ≤ xs.length ∧ i = .int .i64 k ∧ Below w.heap.size w wr ∧ Hid (xs.take k = ys.take k)) (fun i _ => xs.length - (intOf i).toNat)
    case atStart => exact ⟨0, by omega, rfl, Below.refl _ _, by simp [Hid]⟩
    case round =>
      obtain ⟨k, hk, rfl, hbel, HS⟩ := hrel
      by_cases hlt : k < xs.length
      · obtain ⟨x, hx⟩ := get_of_lt hlt
        obtain ⟨y, hy⟩ := get_of_lt (xs := ys) (k := k) (by have := HL.out; omega)
        have HX := Lib.hid hx
        have HY := Lib.hid hy
        obtain ⟨b, off, rfl, hb, hcell⟩ := (h.below hbel).at_ (ints_at hx)
        obtain ⟨b', off', rfl, hb', hcell'⟩ := (h'.below hbel).at_ (ints_at hy)
        have hi : (k : Int) < (xs.length : Int) := by omega
        have hi' : (k : Int) < (ys.length : Int) := by have := HL.out; omega
        clear hx hy h h'
        by_cases hxy : x = y
        · subst hxy
          go_wp2
          go_quiet (fail)
          go_wp2
          go_roundw
          case rel => exact ⟨k + 1, by omega, by go_num, below_drewN hbel _, by rw [Hid, take_snoc HX.out, take_snoc HY.out, HS.out]⟩
          case measure => simp [intOf]; omega
        · have hbx : (x != y) = true := by simpa using hxy
          go_wp2
          go_quiet (fail)
          go_wp2
          go_ret
          refine ⟨ret_bool ?_, below_drewN hbel _⟩
          have : ¬ xs = ys := fun e => hxy (by have h1 := HX.out; rw [e, HY.out] at h1; injection h1 with h1; exact h1.symm)
          simp [this]
      · go_wp2
        go_ret
        refine ⟨ret_bool ?_, hbel⟩
        have e : xs = ys := by have h1 := HS.out; rw [show k = xs.length from by omega, List.take_length, HL.out, List.take_length] at h1; exact h1
        simp [e]
  · have hb : ((xs.length : Int) != (ys.length : Int)) = true := by simp; omega
    go_enter Try.func77, Try.ntmps77
    go_wp2
    go_ret
    have : ¬ xs = ys := fun e => hl (by rw [e])
    exact ⟨ret_bool (by simp [this]), Below.refl _ _⟩
set_option maxRecDepth 100000 in
set_option maxHeartbeats 4000000 in
theorem samelists_any (A : Option Addr) (c : Nat) (xss : List (List Int)) (B : Option Addr) (d : Nat) (yss : List (List Int)) (hn : ∀ xs ∈ xss, xs.length ≤ 1048576) (hn2 : xss.length ≤ 1048576) (w : World) (h : RowsR w w.heap.size A xss) (h' : RowsR w w.heap.size B yss) :
    Calls Try.prog 43 #[.slice A xss.length c, .slice B yss.length d] w fun e w' => e = .returned (.bool (decide (xss = yss))) ∧ Below w.heap.size w w' := by
  by_cases hl : xss.length = yss.length
  · have hb : ((xss.length : Int) != (yss.length : Int)) = false := by simp; omega
    obtain ⟨vs, hv, hrow⟩ := h
    obtain ⟨us, hu, hrow'⟩ := h'
    have HV := Lib.hid hv
    have HU := Lib.hid hu
    have HR := Lib.hid hrow
    have HR' := Lib.hid hrow'
    have HN := Lib.hid hn
    have HL := Lib.hid hl
    rw [← hl]
    clear hv hu hrow hrow' hn hl
    go_enter Try.func43, Try.ntmps43
    go_wp2_with fail
    go_loopw [5] (fun i wl => ∃ k : Nat, i = .int .i64 k ∧ k ≤ xss.length ∧ Hid (∀ j, j < k → xss[j]? = yss[j]?) ∧ Hid (Below w.heap.size w wl)) (fun i _ => xss.length - (intOf i).toNat)
    case atStart => exact ⟨0, rfl, by omega, fun j hj => by omega, Below.refl _ _⟩
    case round =>
      obtain ⟨k, rfl, hk, HE, HW⟩ := hrel
      have hwz := HW.out.size
      by_cases hlt : k < xss.length
      · have hi : (k : Int) < (xss.length : Int) := by omega
        obtain ⟨xs, hx⟩ := get_of_lt hlt
        obtain ⟨ys, hy⟩ := get_of_lt (xs := yss) (k := k) (by have := HL.out; omega)
        obtain ⟨A1, c1, hvk, hr1⟩ := HR.out k xs hx
        obtain ⟨A2, c2, huk, hr2⟩ := HR'.out k ys hy
        obtain ⟨b1, o1, hA, _, e1⟩ := (HV.out.below HW.out).at_ hvk
        subst hA
        obtain ⟨b2, o2, hB, _, e2⟩ := (HU.out.below HW.out).at_ huk
        subst hB
        have DS := Lib.hid (rsameints_any A1 c1 xs A2 c2 ys (HN.out xs (List.mem_of_getElem? hx)) wr.drew (by exact (hr1.below HW.out).more hwz) (by exact (hr2.below HW.out).more hwz))
        have HX := Lib.hid hx
        have HY := Lib.hid hy
        have hi2 : (k : Int) < (yss.length : Int) := by have := HL.out; omega
        clear hx hy hvk huk hr1 hr2
        by_cases he : xs = ys
        · rw [decide_eq_true he] at DS
          have HS : Hid (xss[k]? = yss[k]?) := by rw [Hid, HX.out, HY.out, he]
          clear he
          go_wp2_with fail
          refine region_tail 8 (by kernel_rfl) (by kernel_rfl) ?_
          simp only [List.take_succ_cons, List.take_zero, List.drop_succ_cons, List.drop_zero]
          repeat still_step
          refine wpStill_nil ?_
          go_wp2_with fail
          refine (DS.out).mono ?_
          rintro e w5 ⟨rfl, hw5⟩
          have HW5 : Hid (Below w.heap.size w w5) := (below_drewN HW.out 1).trans (hw5.mono hwz)
          clear hw5
          go_wp2
          go_roundw
          case rel => exact ⟨k + 1, by go_num, by omega, fun j hj => by
            by_cases hjk : j = k
            · rw [hjk]; exact HS.out
            · exact HE.out j (by omega), HW5.out⟩
          case measure => simp [intOf]; omega
        · rw [decide_eq_false he] at DS
          have HF : Hid (decide (xss = yss) = false) := by
            rw [Hid, decide_eq_false_iff_not]
            intro hh
            rw [hh, HY.out] at HX
            have := HX.out
            injection this with this
            exact he this.symm
          clear he
          go_wp2_with fail
          refine region_tail 8 (by kernel_rfl) (by kernel_rfl) ?_
          simp only [List.take_succ_cons, List.take_zero, List.drop_succ_cons, List.drop_zero]
          repeat still_step
          refine wpStill_nil ?_
          go_wp2_with fail
          refine (DS.out).mono ?_
          rintro e w5 ⟨rfl, hw5⟩
          have HW5 : Hid (Below w.heap.size w w5) := (below_drewN HW.out 1).trans (hw5.mono hwz)
          clear hw5
          go_wp2
          go_ret
          exact ⟨by rw [HF.out]; rfl, HW5.out⟩
      · have hkl : k = xss.length := by omega
        subst hkl
        have HF : Hid (decide (xss = yss) = true) := by
          rw [Hid, decide_eq_true_iff]
          apply List.ext_getElem?
          intro i
          by_cases hi : i < xss.length
          · exact HE.out i hi
          · have := HL.out
            rw [List.getElem?_eq_none (by omega), List.getElem?_eq_none (by omega)]
        go_wp2
        go_ret
        exact ⟨by rw [HF.out]; rfl, HW.out⟩
  · have hb : ((xss.length : Int) != (yss.length : Int)) = true := by simp; omega
    have HF : Hid (decide (xss = yss) = false) := by
      rw [Hid, decide_eq_false_iff_not]
      exact fun hh => hl (by rw [hh])
    go_enter Try.func43, Try.ntmps43
    go_wp2
    go_ret
    exact ⟨by rw [HF.out]; rfl, Below.refl _ _⟩
end Go.Proofs.Ytepmfbgmkfkmkaa

/-! slices.Equal on divisors. -/
namespace Go.Proofs.Ytepmfbgmkfkmkaa
open Go.RowKit

end Go.Proofs.Ytepmfbgmkfkmkaa

/-! slices.Equal on ints and on scripts. -/
namespace Go.Proofs.Ytepmfbgmkfkmkaa
open Go.RowKit

end Go.Proofs.Ytepmfbgmkfkmkaa

