/-
  Texts of this claim, put together: BurnI.
-/
import Derived.Test.YtghigdcpinengaaGreatK16
/-! The fire and its waiting heap together, plain laws. No program is in sight. -/
namespace Go.Proofs.YtghigdcpinengaaGreat
def fire0 (n : Nat) : FireS := ⟨[], [], [], List.replicate n 0⟩
/-- What holds while the fire burns. -/
structure BurnI (E : List (Nat × Nat)) (lit : Nat → Nat → Int → Bool) (n q : Nat) (s : FireS) (H : List Int) : Prop where
  wait : ∃ L, H.Perm (nI L) ∧ Wait E s L
  heap : HeapN H H.length
  run : ∃ k, k ≤ E.length ∧ s = runF E lit k (fire1 n q)
  nodup : s.order.Nodup
  lt : ∀ v ∈ s.order, v < n

theorem burnI_start {E : List (Nat × Nat)} {lit : Nat → Nat → Int → Bool} {n q : Nat} {H1 : List Int} (hq : q < n) (p1 : H1.Perm ([] ++ nI (newL E ((fire0 n).order ++ [q]) q E.length))) (h1 : HeapN H1 H1.length) : BurnI E lit n q (fire1 n q) H1 := by
  refine ⟨⟨newL E ((fire0 n).order ++ [q]) q E.length, by simpa using p1, ?_⟩, h1, ⟨0, by omega, rfl⟩, by simp [fire1], by simpa [fire1] using hq⟩
  refine Wait.take (s := fire0 n) (s2 := fire1 n q) (H := []) rfl rfl ⟨by simp [fire1], by simp [fire1], by simp [fire1]⟩ (by simp [fire0]) (by simp) (by simp) (by simp) (by simp) ?_ (by simp [fire0]) (by simp)
  intro e _ hc
  simp [candB, fire0] at hc

theorem pop_perm {H H6 : List Int} {L : List Nat} {e : Nat} (h : ((e : Int) :: H6).Perm H) (hp : H.Perm (nI L)) (he : e ∈ L) : H6.Perm (nI (L.erase e)) ∧ (e :: L.erase e).Perm L := by
  have h1 := (List.perm_cons_erase he)
  have h2 : (nI L).Perm (nI (e :: L.erase e)) := h1.map _
  exact ⟨((h.trans hp).trans h2).cons_inv, h1.symm⟩
theorem BurnI.stale {E : List (Nat × Nat)} {lit : Nat → Nat → Int → Bool} {n q e : Nat} {s : FireS} {H H6 : List Int} {L : List Nat} (h : BurnI E lit n q s H) (hp : H.Perm (nI L)) (hw : Wait E s L) (he : e ∈ L) (h6 : ((e : Int) :: H6).Perm H) (hh : HeapN H6 H6.length) (hc : candB E s e = false) : BurnI E lit n q s H6 := by
  obtain ⟨h1, h2⟩ := pop_perm h6 hp he
  exact ⟨⟨_, h1, hw.stale h2 hc⟩, hh, h.run, h.nodup, h.lt⟩


section
variable {E : List (Nat × Nat)} {lit : Nat → Nat → Int → Bool} {n q e v : Nat} {s : FireS} {H H6 : List Int} {L : List Nat}
theorem BurnI.fi (h : BurnI E lit n q s H) (hb : BdP n E) (hq : q < n) : FI E n q s := by
  obtain ⟨k, _, rfl⟩ := h.run
  exact run_inv (fun _ _ h hn => h.one hb hn) _ _ (.start hq)
/-- The least one that waits is next. -/
theorem BurnI.next (hw : Wait E s L) (hp : H.Perm (nI L)) (he : e ∈ L) (hm : ∀ y ∈ H, (e : Int) ≤ y) (hc : candB E s e = true) : nextF E s = some e := by
  rcases hw.least he (fun f hf => by have := hm f (hp.mem_iff.2 (List.mem_map.2 ⟨f, hf, rfl⟩)); omega) with ⟨_, _, h⟩ | h
  · rw [h] at hc; cases hc
  · exact h
theorem BurnI.run1 (h : BurnI E lit n q s H) (hb : BdP n E) (hq : q < n) (hn : nextF E s = some e) : ∃ k, k ≤ E.length ∧ burnOne lit s e (leadV E s e) = runF E lit k (fire1 n q) := by
  obtain ⟨k, hk, rfl⟩ := h.run
  refine ⟨k + 1, ?_, by rw [runF_succ, run_next hn]⟩
  rcases Nat.lt_or_ge k E.length with h1 | h1
  · exact h1
  · obtain rfl : k = E.length := by omega
    rw [(FI.run (lit := lit) hb hq).2] at hn; cases hn
theorem BurnI.one (h : BurnI E lit n q s H) (hb : BdP n E) (hq : q < n) (hn : nextF E s = some e) (hw : ∃ L, H6.Perm (nI L) ∧ Wait E (burnOne lit s e (leadV E s e)) L) (hh : HeapN H6 H6.length) : BurnI E lit n q (burnOne lit s e (leadV E s e)) H6 := by
  have hf := (h.fi hb hq).one (lit := lit) hb hn
  exact ⟨hw, hh, h.run1 hb hq hn, hf.ond, hf.olt⟩
/-- It does not light. -/
theorem BurnI.dark (h : BurnI E lit n q s H) (hb : BdP n E) (hq : q < n) (hp : H.Perm (nI L)) (hw : Wait E s L) (he : e ∈ L) (h6 : ((e : Int) :: H6).Perm H) (hm : ∀ y ∈ H, (e : Int) ≤ y) (hh : HeapN H6 H6.length) (hc : candB E s e = true) (hv : leadV E s e = v) (hl : lit v e (s.times.getD v 0) = false) :
    BurnI E lit n q ({ steps := s.steps ++ [e], order := s.order, tree := s.tree, times := s.times.set v (s.times.getD v 0 + 1) } : FireS) H6 := by
  have hn := BurnI.next hw hp he hm hc
  obtain ⟨h1, h2⟩ := pop_perm h6 hp he
  subst hv
  have := h.one hb hq hn ⟨_, h1, hw.dark h2 hc hl⟩ hh
  have e1 : burnOne lit s e (leadV E s e) = { steps := s.steps ++ [e], order := s.order, tree := s.tree, times := s.times.set (leadV E s e) (s.times.getD (leadV E s e) 0 + 1) } := by unfold burnOne; rw [hl, if_neg (by decide)]
  rw [e1] at this
  exact this
/-- It lights. -/
theorem BurnI.light {H7 : List Int} (h : BurnI E lit n q s H) (hb : BdP n E) (hq : q < n) (hp : H.Perm (nI L)) (hw : Wait E s L) (he : e ∈ L) (h6 : ((e : Int) :: H6).Perm H) (hm : ∀ y ∈ H, (e : Int) ≤ y) (hc : candB E s e = true) (hv : leadV E s e = v) (hl : lit v e (s.times.getD v 0) = true)
    (h7 : H7.Perm (H6 ++ nI (newL E (s.order ++ [v]) v E.length))) (hh : HeapN H7 H7.length) :
    BurnI E lit n q ({ steps := s.steps ++ [e], order := s.order ++ [v], tree := s.tree ++ [e], times := s.times } : FireS) H7 := by
  have hn := BurnI.next hw hp he hm hc
  obtain ⟨h1, h2⟩ := pop_perm h6 hp he
  subst hv
  have hnd := h2.nodup_iff.2 hw.nodup
  rw [List.nodup_cons] at hnd
  have e1 : burnOne lit s e (leadV E s e) = { steps := s.steps ++ [e], order := s.order ++ [leadV E s e], tree := s.tree ++ [e], times := s.times } := by unfold burnOne; rw [hl, if_pos rfl]
  have hok := hw.ok.one (lit := lit) (v := leadV E s e) (hw.lt e he) hc
  have := h.one hb hq hn ⟨L.erase e ++ newL E (s.order ++ [leadV E s e]) (leadV E s e) E.length, by
    refine h7.trans ?_
    have : nI (L.erase e ++ newL E (s.order ++ [leadV E s e]) (leadV E s e) E.length) = nI (L.erase e) ++ nI (newL E (s.order ++ [leadV E s e]) (leadV E s e) E.length) := List.map_append
    rw [this]
    exact h1.append_right _, ?_⟩ hh
  · rw [e1] at this; exact this
  · -- the state in between: e among the steps
    rw [e1] at hok ⊢
    refine Wait.take (s := { steps := s.steps ++ [e], order := s.order, tree := s.tree, times := s.times }) (s2 := { steps := s.steps ++ [e], order := s.order ++ [leadV E s e], tree := s.tree ++ [e], times := s.times }) rfl rfl hok (show leadV E s e ∉ s.order from lead_new hc) hnd.2
      (fun f hf => hw.lt f (h2.mem_iff.1 (by simp [hf]))) (fun f hf => ?_) (fun f hf => hw.ends f (h2.mem_iff.1 (by simp [hf]))) (fun f hf hcf => ?_) (fun f hf => ?_) (List.Perm.refl _)
    · intro h3
      rcases List.mem_append.1 h3 with h3 | h3
      · exact hw.new f (h2.mem_iff.1 (by simp [hf])) h3
      · rw [List.mem_singleton] at h3; subst h3; exact hnd.1 hf
    · obtain ⟨c1, c2⟩ := cand_iff.1 hcf
      have hcf' : candB E s f = true := cand_iff.2 ⟨fun h => c1 (List.mem_append_left _ h), c2⟩
      rcases List.mem_cons.1 (h2.mem_iff.2 (hw.all f hf hcf')) with rfl | h3
      · exact absurd (by simp) c1
      · exact h3
    · rcases List.mem_append.1 hf with hf | hf
      · exact hw.ok.ends f hf
      · rw [List.mem_singleton] at hf; subst hf; exact cand_end (s := s) hc
/-- Nothing waits: all has burnt. -/
theorem BurnI.done (h : BurnI E lit n q s []) : runF E lit E.length (fire1 n q) = s := by
  obtain ⟨L, hp, hw⟩ := h.wait
  have hL : L = [] := by
    have := hp.length_eq
    rw [nI, List.length_map] at this
    exact List.eq_nil_of_length_eq_zero this.symm
  subst hL
  obtain ⟨k, hk, hs⟩ := h.run
  exact run_all hs hk hw.end_
end
end Go.Proofs.YtghigdcpinengaaGreat

