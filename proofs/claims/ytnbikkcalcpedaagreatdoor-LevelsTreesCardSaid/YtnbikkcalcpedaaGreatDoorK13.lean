/-
 Texts of this claim, put together: BurnI, Grid, Graph2.
-/
import Derived.Test.YtnbikkcalcpedaaGreatDoorK09
import Derived.Test.YtnbikkcalcpedaaGreatDoorK10
import Derived.Test.YtnbikkcalcpedaaGreatDoorK12
set_option maxRecDepth 100000
set_option maxHeartbeats 4000000
namespace Go.Proofs.YtnbikkcalcpedaaGreatDoor
def fire0 (n : Nat) : FireS := ⟨[], [], [], List.replicate n 0⟩
structure BurnI (E : List (Nat × Nat)) (lit : Nat → Nat → Int → Bool) (n q : Nat) (s : FireS) (H : List Int) : Prop where
 wait : ∃ L, H.Perm (nI L) ∧ Wait E s L
 heap : HeapN H H.length
 run : ∃ k, k ≤ E.length ∧ s = runF E lit k (fire1 n q)
 nodup : s.order.Nodup
 lt : ∀ v ∈ s.order, v < n
theorem burnI_start {E : List (Nat × Nat)} {lit : Nat → Nat → Int → Bool} {n q : Nat} {H1 : List Int} (hq : q < n) (p1 : H1.Perm ([] ++ nI (newL E ((fire0 n).order ++ [q]) q E.length))) (h1 : HeapN H1 H1.length) : BurnI E lit n q (fire1 n q) H1 := by
 refine ⟨⟨newL E ((fire0 n).order ++ [q]) q E.length, by simpa using p1, ?_⟩, h1, ⟨0, by omega, rfl⟩, by simp [fire1], by simpa [fire1] using hq⟩
 refine Wait.take (s := fire0 n) (s2 := fire1 n q) (H := []) rfl rfl ⟨by simp [fire1], by simp [fire1], by simp [fire1]⟩ (by simp [fire0]) (by simp) (by simp) (by simp) (by simp) ?_ (by simp [fire0]) (by simp)
 intro e _ hc
 simp [candB, fire0] at hc
theorem pop_perm {H H6 : List Int} {L : List Nat} {e : Nat} (h : ((e : Int) :: H6).Perm H) (hp : H.Perm (nI L)) (he : e ∈ L) : H6.Perm (nI (L.erase e)) ∧ (e :: L.erase e).Perm L := by
 have h1 := (List.perm_cons_erase he)
 have h2 : (nI L).Perm (nI (e :: L.erase e)) := h1.map _
 exact ⟨((h.trans hp).trans h2).cons_inv, h1.symm⟩
theorem BurnI.stale {E : List (Nat × Nat)} {lit : Nat → Nat → Int → Bool} {n q e : Nat} {s : FireS} {H H6 : List Int} {L : List Nat} (h : BurnI E lit n q s H) (hp : H.Perm (nI L)) (hw : Wait E s L) (he : e ∈ L) (h6 : ((e : Int) :: H6).Perm H) (hh : HeapN H6 H6.length) (hc : candB E s e = false) : BurnI E lit n q s H6 := by
 obtain ⟨h1, h2⟩ := pop_perm h6 hp he
 exact ⟨⟨_, h1, hw.stale h2 hc⟩, hh, h.run, h.nodup, h.lt⟩
section
variable {E : List (Nat × Nat)} {lit : Nat → Nat → Int → Bool} {n q e v : Nat} {s : FireS} {H H6 : List Int} {L : List Nat}
theorem BurnI.fi (h : BurnI E lit n q s H) (hb : BdP n E) (hq : q < n) : FI E n q s := by
 obtain ⟨k, _, rfl⟩ := h.run
 exact run_inv (fun _ _ h hn => h.one hb hn) _ _ (.start hq)
theorem BurnI.next (hw : Wait E s L) (hp : H.Perm (nI L)) (he : e ∈ L) (hm : ∀ y ∈ H, (e : Int) ≤ y) (hc : candB E s e = true) : nextF E s = some e := by
 rcases hw.least he (fun f hf => by have := hm f (hp.mem_iff.2 (List.mem_map.2 ⟨f, hf, rfl⟩)); omega) with ⟨_, _, h⟩ | h
 ·rw [h] at hc; cases hc
 ·exact h
theorem BurnI.run1 (h : BurnI E lit n q s H) (hb : BdP n E) (hq : q < n) (hn : nextF E s = some e) : ∃ k, k ≤ E.length ∧ burnOne lit s e (leadV E s e) = runF E lit k (fire1 n q) := by
 obtain ⟨k, hk, rfl⟩ := h.run
 refine ⟨k + 1, ?_, by rw [runF_succ, run_next hn]⟩
 rcases Nat.lt_or_ge k E.length with h1 | h1
 ·exact h1
 ·obtain rfl : k = E.length := by omega
  rw [(FI.run (lit := lit) hb hq).2] at hn; cases hn
theorem BurnI.one (h : BurnI E lit n q s H) (hb : BdP n E) (hq : q < n) (hn : nextF E s = some e) (hw : ∃ L, H6.Perm (nI L) ∧ Wait E (burnOne lit s e (leadV E s e)) L) (hh : HeapN H6 H6.length) : BurnI E lit n q (burnOne lit s e (leadV E s e)) H6 := by
 have hf := (h.fi hb hq).one (lit := lit) hb hn
 exact ⟨hw, hh, h.run1 hb hq hn, hf.ond, hf.olt⟩
theorem BurnI.dark (h : BurnI E lit n q s H) (hb : BdP n E) (hq : q < n) (hp : H.Perm (nI L)) (hw : Wait E s L) (he : e ∈ L) (h6 : ((e : Int) :: H6).Perm H) (hm : ∀ y ∈ H, (e : Int) ≤ y) (hh : HeapN H6 H6.length) (hc : candB E s e = true) (hv : leadV E s e = v) (hl : lit v e (s.times.getD v 0) = false) :
  BurnI E lit n q ({ steps := s.steps ++ [e], order := s.order, tree := s.tree, times := s.times.set v (s.times.getD v 0 + 1) } : FireS) H6 := by
 have hn := BurnI.next hw hp he hm hc
 obtain ⟨h1, h2⟩ := pop_perm h6 hp he
 subst hv
 have := h.one hb hq hn ⟨_, h1, hw.dark h2 hc hl⟩ hh
 have e1 : burnOne lit s e (leadV E s e) = { steps := s.steps ++ [e], order := s.order, tree := s.tree, times := s.times.set (leadV E s e) (s.times.getD (leadV E s e) 0 + 1) } := by unfold burnOne; rw [hl, if_neg (by decide)]
 rw [e1] at this
 exact this
theorem BurnI.light {H7 : List Int} (h : BurnI E lit n q s H) (hb : BdP n E) (hq : q < n) (hp : H.Perm (nI L)) (hw : Wait E s L) (he : e ∈ L) (h6 : ((e : Int) :: H6).Perm H) (hm : ∀ y ∈ H, (e : Int) ≤ y) (hc : candB E s e = true) (hv : leadV E s e = v) (hl : lit v e (s.times.getD v 0) = true)
  (h7 : H7.Perm (H6 ++ nI (newL E (s.order ++ [v]) v E.length))) (hh : HeapN H7 H7.length) :
  BurnI E lit n q ({ steps := s.steps ++ [e], order := s.order ++ [v], tree := s.tree ++ [e], times := s.times } : FireS) H7 := by
 have hn := BurnI.next hw hp he hm hc
 obtain ⟨h1, h2⟩ := pop_perm h6 hp he
 subst hv
 have hnd := h2.nodup_iff.2 hw.nodup
 rw [List.nodup_cons] at hnd
 have e1 : burnOne lit s e (leadV E s e) = { steps := s.steps ++ [e], order := s.order ++ [leadV E s e], tree := s.tree ++ [e], times := s.times } := by unfold burnOne; rw [hl, if_pos rfl]
 have hok := hw.ok.one (lit := lit) (v := leadV E s e) (hw.lt e he) hc
 have := h.one hb hq hn ⟨L.erase e ++ newL E (s.order ++ [leadV E s e]) (leadV E s e) E.length, by
  refine h7.trans ?_
  have : nI (L.erase e ++ newL E (s.order ++ [leadV E s e]) (leadV E s e) E.length) = nI (L.erase e) ++ nI (newL E (s.order ++ [leadV E s e]) (leadV E s e) E.length) := List.map_append
  rw [this]
  exact h1.append_right _, ?_⟩ hh
 ·rw [e1] at this; exact this
 ·-- the state in between: e among the steps
  rw [e1] at hok ⊢
  refine Wait.take (s := { steps := s.steps ++ [e], order := s.order, tree := s.tree, times := s.times }) (s2 := { steps := s.steps ++ [e], order := s.order ++ [leadV E s e], tree := s.tree ++ [e], times := s.times }) rfl rfl hok (show leadV E s e ∉ s.order from lead_new hc) hnd.2
   (fun f hf => hw.lt f (h2.mem_iff.1 (by simp [hf]))) (fun f hf => ?_) (fun f hf => hw.ends f (h2.mem_iff.1 (by simp [hf]))) (fun f hf hcf => ?_) (fun f hf => ?_) (List.Perm.refl _)
  ·intro h3
   rcases List.mem_append.1 h3 with h3 | h3
   ·exact hw.new f (h2.mem_iff.1 (by simp [hf])) h3
   ·rw [List.mem_singleton] at h3; subst h3; exact hnd.1 hf
  ·obtain ⟨c1, c2⟩ := cand_iff.1 hcf
   have hcf' : candB E s f = true := cand_iff.2 ⟨fun h => c1 (List.mem_append_left _ h), c2⟩
   rcases List.mem_cons.1 (h2.mem_iff.2 (hw.all f hf hcf')) with rfl | h3
   ·exact absurd (by simp) c1
   ·exact h3
  ·rcases List.mem_append.1 hf with hf | hf
   ·exact hw.ok.ends f hf
   ·rw [List.mem_singleton] at hf; subst hf; exact cand_end (s := s) hc
theorem BurnI.done (h : BurnI E lit n q s []) : runF E lit E.length (fire1 n q) = s := by
 obtain ⟨L, hp, hw⟩ := h.wait
 have hL : L = [] := by
  have := hp.length_eq
  rw [nI, List.length_map] at this
  exact List.eq_nil_of_length_eq_zero this.symm
 subst hL
 obtain ⟨k, hk, hs⟩ := h.run
 exact run_all hs hk hw.end_
end
end Go.Proofs.YtnbikkcalcpedaaGreatDoor
namespace Go.Proofs.YtnbikkcalcpedaaGreatDoor
open Go.RowKit
theorem table_any (n : Nat) (hn : n ≤ 1000) (w : World) :
  Calls Tryz.prog 190 #[.int .i64 n] w fun e w' =>
   ∃ A c gs, e = .returned (.slice A n c) ∧ Hid (gs.length = n) ∧ Grid w' w.heap.size A c n gs (List.replicate n (List.replicate n 0)) ∧ Below w.heap.size w w' := by
 have hmk := make_ints n (by omega)
 go_enter Tryz.func190, Tryz.ntmps190
 go_wp2
 go_loopw [3, 4] (fun v i wr => ∃ (k : Nat) (A' : Option Addr) (c' : Nat) (gs : List Nat), k ≤ n ∧ i = .int .i64 k ∧ v = .slice A' k c' ∧ Hid (gs.length = k) ∧ Grid wr w.heap.size A' c' n gs (List.replicate k (List.replicate n 0)) ∧ Below w.heap.size w wr) (fun _ i _ => n - (intOf i).toNat)
 case atStart => exact ⟨0, none, 0, [], by omega, rfl, rfl, by simp [Hid], Grid.nil_ _ _ _, Below.refl _ _⟩
 case round =>
  obtain ⟨k, A', c', gs, hk, rfl, rfl, HL, hown, hbel⟩ := hrel
  by_cases hlt : k < n
  ·have hi : (k : Int) < (n : Int) := by omega
   have hz := hbel.size
   have hbx : w.heap.size ≤ ((wr.alloc (.cells (ints (List.replicate n 0)).toArray 3)).alloc (.cells #[.slice (some ⟨wr.heap.size, 0, none⟩) n n] 25)).heap.size := by simp; omega
   have hown2 : ((wr.alloc (.cells (ints (List.replicate n 0)).toArray 3)).alloc (.cells #[.slice (some ⟨wr.heap.size, 0, none⟩) n n] 25)).ownsRow w.heap.size 25 1 (.slice A' k c') k (gs.map fun g => .slice (some ⟨g, 0, none⟩) n n) := by
    have := HL.out; subst this; exact (World.ownsRow.alloc (World.ownsRow.alloc hown.outer _) _)
   have hbox : Reads ((wr.alloc (.cells (ints (List.replicate n 0)).toArray 3)).alloc (.cells #[.slice (some ⟨wr.heap.size, 0, none⟩) n n] 25)) (wr.heap.size + 1 + 1) 1 (some ⟨wr.heap.size + 1, 0, none⟩) 1 [.slice (some ⟨wr.heap.size, 0, none⟩) n n] := by
    have := Reads.box (wr.alloc (.cells (ints (List.replicate n 0)).toArray 3)) (.slice (some ⟨wr.heap.size, 0, none⟩) n n) 25
    simpa using this
   go_wp2_with (at_builtin; refine append_go rfl (.tmp 10) (.tmp 13) _ rfl w.heap.size 25 Tryz.underlying82 info_row rfl (by omega) A' c' k (gs.map fun g => .slice (some ⟨g, 0, none⟩) n n) rfl hown2 _ [.slice (some ⟨wr.heap.size, 0, none⟩) n n] rfl hbox (by simp [Value.oneCell']) (by omega) hbx ?_; intro A2 c2 w2 hown3 hg2 hb2 _)
   have gB : Below w.heap.size w w2 := hbel.trans ((((Below.refl _ _).alloc hz _).alloc (by simp; omega) _).trans hb2)
   have hgw : Grid ((wr.alloc (.cells (ints (List.replicate n 0)).toArray 3)).alloc (.cells #[.slice (some ⟨wr.heap.size, 0, none⟩) n n] 25)) w.heap.size A' c' n gs (List.replicate k (List.replicate n 0)) :=
    hown.next (((Below.refl _ _).alloc (Nat.le_refl _) _).alloc (by simp) _)
   have hnb := (Blk.new wr 3 (ints (List.replicate n 0)).toArray).alloc (.cells #[.slice (some ⟨wr.heap.size, 0, none⟩) n n] 25)
   have hpush : Grid w2 w.heap.size A2 c2 n (gs ++ [wr.heap.size]) (List.replicate k (List.replicate n 0) ++ [List.replicate n 0]) := by
    have hL := HL.out
    subst hL
    exact hgw.push hnb (by simp) hz (fun g' hg' => by obtain ⟨cs, hc, _⟩ := hown.blk hg'; exact Nat.ne_of_lt hc.lt) hown3 hg2
   go_roundw
   case rel => exact ⟨k + 1, A2, c2, gs ++ [wr.heap.size], by omega, by go_num, rfl, by simp [Hid, HL.out], by rw [List.replicate_succ']; exact hpush, gB⟩
   case measure => simp [intOf]; omega
  ·have hi : ¬ (k : Int) < (n : Int) := by omega
   obtain rfl : k = n := by omega
   go_wp2
   go_ret
   exact ⟨A', c', rfl, gs, HL, hown, hbel⟩
theorem rvertex_any (n v : Int) (A : Option Addr) (k c : Nat) (w : World) :
  Calls Tryz.prog 151 #[.agg #[.int .i64 n, .slice A k c], .int .i64 v] w fun e w' => e = .returned (.bool (vertB n v)) ∧ w.alloc (.cells #[.int .i64 n, .slice A k c] 24) = w' := by
 go_enter Tryz.func151, Tryz.ntmps151
 go_wp2
 all_goals (go_ret; exact ⟨by simp only [vertB]; simp [*]; try omega, rfl⟩)
theorem redge_cases (n : Int) (p : Option E3) (e : E3) :
  (vertB n e.1 = false ∧ edgeErr n p e = 2) ∨ (vertB n e.1 = true ∧ vertB n e.2.1 = false ∧ edgeErr n p e = 2) ∨
  (vertB n e.1 = true ∧ vertB n e.2.1 = true ∧ e.2.2 < 1 ∧ edgeErr n p e = 2) ∨ (vertB n e.1 = true ∧ vertB n e.2.1 = true ∧ 50 < e.2.2 ∧ ¬ e.2.2 < 1 ∧ edgeErr n p e = 2) ∨
  (vertB n e.1 = true ∧ vertB n e.2.1 = true ∧ ¬ e.2.2 < 1 ∧ ¬ 50 < e.2.2 ∧ e.2.1 < e.1 ∧ edgeErr n p e = 9) ∨
  (vertB n e.1 = true ∧ vertB n e.2.1 = true ∧ ¬ e.2.2 < 1 ∧ ¬ 50 < e.2.2 ∧ ¬ e.2.1 < e.1 ∧ edgeErr n p e = match p with | none => 0 | some y => if e.1 < y.1 ∨ (e.1 = y.1 ∧ e.2.1 ≤ y.2.1) then 9 else 0) := by
 have v1 := vertB_true (n := n) (v := e.1)
 have v2 := vertB_true (n := n) (v := e.2.1)
 cases g1 : vertB n e.1
 ·refine .inl ⟨rfl, ?_⟩
  rw [vertB_false] at g1
  unfold edgeErr; rw [if_pos (by omega)]
 rw [g1] at v1
 have v1 := v1.1 rfl
 cases g2 : vertB n e.2.1
 ·refine .inr (.inl ⟨rfl, rfl, ?_⟩)
  rw [vertB_false] at g2
  unfold edgeErr; rw [if_pos (by omega)]
 rw [g2] at v2
 have v2 := v2.1 rfl
 by_cases h1 : e.2.2 < 1
 ·refine .inr (.inr (.inl ⟨rfl, rfl, h1, ?_⟩))
  unfold edgeErr; rw [if_pos (by omega)]
 by_cases h2 : 50 < e.2.2
 ·refine .inr (.inr (.inr (.inl ⟨rfl, rfl, h2, h1, ?_⟩)))
  unfold edgeErr; rw [if_pos (by omega)]
 by_cases h4 : e.2.1 < e.1
 ·refine .inr (.inr (.inr (.inr (.inl ⟨rfl, rfl, h1, h2, h4, ?_⟩))))
  unfold edgeErr; rw [if_neg (by omega), if_pos h4]
 ·refine .inr (.inr (.inr (.inr (.inr ⟨rfl, rfl, h1, h2, h4, ?_⟩))))
  unfold edgeErr; rw [if_neg (by omega), if_neg h4]; cases p <;> rfl
theorem redge_any (n : Int) (A : Option Addr) (c : Nat) (es : List E3) (hn : es.length ≤ 1048576) (k : Nat) (e : E3) (hx : es[k]? = some e) (w : World) (h : Reads w w.heap.size 3 A es.length (edgeCells es)) :
  Calls Tryz.prog 162 #[.agg #[.int .i64 n, .slice A es.length c], .int .i64 k] w fun e' w' => e' = .returned (.int .i64 (edgeErr n (prevOf es k) e)) ∧ Below w.heap.size w w' := by
 have hcs := redge_cases n (prevOf es k) e
 have hlt := (List.getElem?_eq_some_iff.1 hx).1
 obtain ⟨r, hr⟩ : ∃ r, edgeErr n (prevOf es k) e = r := ⟨_, rfl⟩
 rw [hr] at hcs ⊢
 have HR := Lib.hid hr
 clear hr
 obtain ⟨a, b, m⟩ := e
 obtain ⟨bb, off, rfl, hb, q1, q2, q3⟩ := h.edge hx
 have HX := Lib.hid hx
 have H := Lib.hid h
 have hi : (k : Int) < (es.length : Int) := by omega
 dsimp only at hcs q1 q2 q3
 clear hx h
 rcases hcs with ⟨v1, rfl⟩ | ⟨v1, v2, rfl⟩ | ⟨v1, v2, h3, rfl⟩ | ⟨v1, v2, h3, h4, rfl⟩ | ⟨v1, v2, h3, h4, h5, rfl⟩ | ⟨v1, v2, h3, h4, h5, hE⟩
 ·go_enter Tryz.func162, Tryz.ntmps162
  go_wp2_with (go_at_call 151; refine (rvertex_any _ _ _ _ _ _).mono ?_; rintro e w' ⟨rfl, rfl⟩)
  go_ret
  refine ⟨rfl, ?_⟩
  repeat first | exact Below.refl _ _ | refine Below.alloc ?_ (by first | exact Nat.le_refl _ | (simp; done) | (simp; omega)) _
 ·go_enter Tryz.func162, Tryz.ntmps162
  go_wp2_with (go_at_call 151; refine (rvertex_any _ _ _ _ _ _).mono ?_; rintro e w' ⟨rfl, rfl⟩)
  go_ret
  refine ⟨rfl, ?_⟩
  repeat first | exact Below.refl _ _ | refine Below.alloc ?_ (by first | exact Nat.le_refl _ | (simp; done) | (simp; omega)) _
 ·go_enter Tryz.func162, Tryz.ntmps162
  go_wp2_with (go_at_call 151; refine (rvertex_any _ _ _ _ _ _).mono ?_; rintro e w' ⟨rfl, rfl⟩)
  go_ret
  refine ⟨rfl, ?_⟩
  repeat first | exact Below.refl _ _ | refine Below.alloc ?_ (by first | exact Nat.le_refl _ | (simp; done) | (simp; omega)) _
 ·go_enter Tryz.func162, Tryz.ntmps162
  go_wp2_with (go_at_call 151; refine (rvertex_any _ _ _ _ _ _).mono ?_; rintro e w' ⟨rfl, rfl⟩)
  go_ret
  refine ⟨rfl, ?_⟩
  repeat first | exact Below.refl _ _ | refine Below.alloc ?_ (by first | exact Nat.le_refl _ | (simp; done) | (simp; omega)) _
 ·go_enter Tryz.func162, Tryz.ntmps162
  go_wp2_with (go_at_call 151; refine (rvertex_any _ _ _ _ _ _).mono ?_; rintro e w' ⟨rfl, rfl⟩)
  go_ret
  refine ⟨rfl, ?_⟩
  repeat first | exact Below.refl _ _ | refine Below.alloc ?_ (by first | exact Nat.le_refl _ | (simp; done) | (simp; omega)) _
 ·rcases k with _ | k
  ·have hE' : r = 0 := by rw [hE]; simp [prevOf]
   subst hE'
   clear hE
   rw [show ((0 : Nat) : Int) = 0 from rfl] at hi ⊢
   simp only [Nat.zero_mul, Nat.add_zero] at q1 q2 q3
   go_enter Tryz.func162, Tryz.ntmps162
   go_wp2_with (go_at_call 151; refine (rvertex_any _ _ _ _ _ _).mono ?_; rintro e w' ⟨rfl, rfl⟩)
   go_ret
   refine ⟨rfl, ?_⟩
   repeat first | exact Below.refl _ _ | refine Below.alloc ?_ (by first | exact Nat.le_refl _ | (simp; done) | (simp; omega)) _
  ·obtain ⟨⟨a1, b1, m1⟩, hy⟩ := get_of_lt (xs := es) (k := k) (by omega)
   obtain ⟨bb', off', hA', hb', p1, p2, p3⟩ := H.out.edge hy
   injection hA' with hA'; injection hA' with e1 e2; subst e1 e2
   have hE' : r = if a < a1 ∨ (a = a1 ∧ b ≤ b1) then 9 else 0 := by rw [hE, prevOf_succ, hy]
   rw [show ((k + 1 : Nat) : Int) = (k : Int) + 1 from by omega] at hi ⊢
   have hk1 : ((k : Int) + 1 - 1) = (k : Int) := by omega
   have hk2 : 0 < (k : Int) + 1 := by omega
   have hk3 : (k : Int) < (es.length : Int) := by omega
   have h6 : (a = a1 ↔ a = a1) := Iff.rfl
   clear hE hy H h6
   dsimp only at p1 p2 p3
   have hb4 : Below w.heap.size w ((((w.alloc (.cells #[.int .i64 n, .slice (some ⟨bb, off, none⟩) es.length c] 24)).alloc (.cells #[.int .i64 a, .int .i64 b, .int .i64 m] 107)).alloc (.cells #[.int .i64 n, .slice (some ⟨bb, off, none⟩) es.length c] 24)).alloc (.cells #[.int .i64 n, .slice (some ⟨bb, off, none⟩) es.length c] 24)) :=
    ((((Below.refl _ _).alloc (Nat.le_refl _) _).alloc (by simp) _).alloc (by simp; omega) _).alloc (by simp; omega) _
   have P1 := (hb4.cell (p := ⟨bb, off + k * 3, none⟩) hb').trans p1
   have P2 := (hb4.cell (p := ⟨bb, off + k * 3 + 1, none⟩) hb').trans p2
   have P3 := (hb4.cell (p := ⟨bb, off + k * 3 + 1 + 1, none⟩) hb').trans p3
   clear hb4
   by_cases g1 : a < a1
   ·rw [if_pos (.inl g1)] at hE'
    subst hE'
    have hd1 : decide (a < a1) = true := decide_eq_true g1
    go_enter Tryz.func162, Tryz.ntmps162
    go_wp2_with (go_at_call 151; refine (rvertex_any _ _ _ _ _ _).mono ?_; rintro e w' ⟨rfl, rfl⟩)
    go_ret
    refine ⟨rfl, ?_⟩
    repeat first | exact Below.refl _ _ | refine Below.alloc ?_ (by first | exact Nat.le_refl _ | (simp; done) | (simp; omega)) _
   ·have hd1 : decide (a < a1) = false := decide_eq_false g1
    by_cases g2 : a = a1
    ·subst g2
     have hd2 : (a == a) = true := by simp
     by_cases g3 : b ≤ b1
     ·rw [if_pos (.inr ⟨rfl, g3⟩)] at hE'
      subst hE'
      have hd3 : decide (b ≤ b1) = true := decide_eq_true g3
      go_enter Tryz.func162, Tryz.ntmps162
      go_wp2_with (go_at_call 151; refine (rvertex_any _ _ _ _ _ _).mono ?_; rintro e w' ⟨rfl, rfl⟩)
      go_ret
      refine ⟨rfl, ?_⟩
      repeat first | exact Below.refl _ _ | refine Below.alloc ?_ (by first | exact Nat.le_refl _ | (simp; done) | (simp; omega)) _
     ·rw [if_neg (by omega)] at hE'
      subst hE'
      have hd3 : decide (b ≤ b1) = false := decide_eq_false g3
      go_enter Tryz.func162, Tryz.ntmps162
      go_wp2_with (go_at_call 151; refine (rvertex_any _ _ _ _ _ _).mono ?_; rintro e w' ⟨rfl, rfl⟩)
      go_ret
      refine ⟨rfl, ?_⟩
      repeat first | exact Below.refl _ _ | refine Below.alloc ?_ (by first | exact Nat.le_refl _ | (simp; done) | (simp; omega)) _
    ·have hd2 : (a == a1) = false := by simpa using g2
     rw [if_neg (by omega)] at hE'
     subst hE'
     clear g2
     go_enter Tryz.func162, Tryz.ntmps162
     go_wp2_with (go_at_call 151; refine (rvertex_any _ _ _ _ _ _).mono ?_; rintro e w' ⟨rfl, rfl⟩)
     go_ret
     refine ⟨rfl, ?_⟩
     repeat first | exact Below.refl _ _ | refine Below.alloc ?_ (by first | exact Nat.le_refl _ | (simp; done) | (simp; omega)) _
theorem rgcheck_any (n : Int) (A : Option Addr) (c : Nat) (es : List E3) (hn : es.length ≤ 1048576) (w : World) (h : Reads w w.heap.size 3 A es.length (edgeCells es)) :
  Calls Tryz.prog 107 #[.agg #[.int .i64 n, .slice A es.length c]] w fun e w' => e = .returned (.int .i64 (checkG n es)) ∧ Below w.heap.size w w' := by
 by_cases h1 : n < 1
 ·have hd : checkG n es = 2 := by unfold checkG; rw [if_pos (.inl h1)]
  rw [hd]
  go_enter Tryz.func107, Tryz.ntmps107
  go_wp2
  go_ret
  exact ⟨rfl, (Below.refl _ _).alloc (Nat.le_refl _) _⟩
 by_cases h2 : 12 < n
 ·have hd : checkG n es = 2 := by unfold checkG; rw [if_pos (.inr h2)]
  rw [hd]
  go_enter Tryz.func107, Tryz.ntmps107
  go_wp2
  go_ret
  exact ⟨rfl, (Below.refl _ _).alloc (Nat.le_refl _) _⟩
 have hd : checkG n es = edgesErr n none es := by unfold checkG; rw [if_neg (by omega)]
 rw [hd]
 obtain ⟨r, hr⟩ : ∃ r, edgesErr n none es = r := ⟨_, rfl⟩
 rw [hr]
 have HR := Lib.hid hr
 clear hr hd
 go_enter Tryz.func107, Tryz.ntmps107
 go_wp2
 go_loopw [3] (fun i wr => ∃ k : Nat, k ≤ es.length ∧ i = .int .i64 k ∧ Below w.heap.size w wr ∧ Blk wr w.heap.size 24 #[.int .i64 n, .slice A es.length c] ∧ Hid (edgesErr n none es = edgesErr n (prevOf es k) (es.drop k))) (fun i _ => es.length - (intOf i).toNat)
 case atStart => exact ⟨0, by omega, rfl, (Below.refl _ _).alloc (Nat.le_refl _) _, Blk.new _ _ _, by simp [Hid, prevOf]⟩
 case round =>
  obtain ⟨k, hk, rfl, hbel, g1, HS⟩ := hrel
  have c0 := g1.cell 0
  have c1 := g1.cell 1
  have hsz := hbel.size
  by_cases hlt : k < es.length
  ·obtain ⟨e, hx⟩ := get_of_lt hlt
   have hi : (k : Int) < (es.length : Int) := by omega
   have HE := Lib.hid (redge_any n A c es hn k e hx wr ((h.below hbel).more hsz))
   have HX := Lib.hid hx
   have HB := Lib.hid hbel
   clear hx h hbel
   by_cases h0 : edgeErr n (prevOf es k) e = 0
   ·have HN := Lib.hid (edgesErr_go HX.out h0 HS.out)
    rw [h0] at HE
    clear h0
    go_wp2_with (go_at_call 162; refine (HE.out).mono ?_; rintro e' w' ⟨rfl, hb'⟩)
    go_roundw
    case rel => exact ⟨k + 1, by omega, by go_num, HB.out.trans (hb'.mono hsz), g1.next hb', HN.out⟩
    case measure => simp [intOf]; omega
   ·have HN := Lib.hid (edgesErr_stop HX.out rfl h0 HS.out)
    obtain ⟨q, hq⟩ : ∃ q, edgeErr n (prevOf es k) e = q := ⟨_, rfl⟩
    rw [hq] at HE HN h0
    have hb0 : (q != 0) = true := by simpa using h0
    clear hq h0
    go_wp2_with (go_at_call 162; refine (HE.out).mono ?_; rintro e' w' ⟨rfl, hb'⟩)
    go_ret
    exact ⟨ret_int (by rw [← HR.out, HN.out]), HB.out.trans (hb'.mono hsz)⟩
  ·go_wp2
   go_ret
   refine ⟨ret_int ?_, hbel⟩
   have e : edgesErr n none es = 0 := by rw [HS.out, List.drop_eq_nil_of_le (by omega)]; rfl
   rw [← HR.out, e]
end Go.Proofs.YtnbikkcalcpedaaGreatDoor
