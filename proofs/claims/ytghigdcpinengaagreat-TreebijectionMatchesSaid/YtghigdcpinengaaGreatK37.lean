/-
  Texts of this claim, put together: Sup2.
-/
import Derived.Test.YtghigdcpinengaaGreatK36
import Derived.Test.YtghigdcpinengaaGreatK10
import Derived.Stop.RegionWithIn
/-! Package superstable: the iterator configurations, a closure that calls itself. -/
namespace Go.Proofs.YtghigdcpinengaaGreat
open Go.RowKit Go.Shelf
attribute [local go_sem] Oper.semAt_some


/-- Where the closure's parts lie. -/
structure FA where
  bg : Nat
  by_ : Nat
  bc : Nat
  bq : Nat
  bf : Nat
  gc : Nat
  A : Option Addr
  cA : Nat
def FB (a : FA) (es : List E3) (k : Nat) : Prop := k = a.bg ∨ k = a.by_ ∨ k = a.bc ∨ k = a.bq ∨ k = a.bf ∨ k = a.gc ∨ (es.length ≠ 0 ∧ blockOf a.A k)
def caps (a : FA) : Array Value := #[.pointer (some ⟨a.bg, 0, none⟩), .pointer (some ⟨a.by_, 0, none⟩), .pointer (some ⟨a.bc, 0, none⟩), .pointer (some ⟨a.bq, 0, none⟩), .pointer (some ⟨a.bf, 0, none⟩)]
structure FromW (W : World) (n q l : Nat) (es : List E3) (a : FA) (cs : List Int) : Prop where
  g : Blk W a.bg 24 #[.int .i64 n, .slice a.A es.length a.cA]
  y : Blk W a.by_ 144 #[.func (.yield l) #[] #[]]
  c : Blk W a.bc 26 #[.slice (some ⟨a.gc, 0, none⟩) n n]
  q : Blk W a.bq 3 #[.int .i64 q]
  f : Blk W a.bf 57 #[.func (.func 111) #[] (caps a)]
  e : Reads W W.heap.size 3 a.A es.length (edgeCells es)
  cc : Blk W a.gc 3 (intCells cs)
  len : cs.length = n
  ne : a.bq ≠ a.gc
  ng : a.bg ≠ a.gc
  nA : es.length ≠ 0 → ¬ blockOf a.A a.gc
section
variable {W W' : World} {n q l : Nat} {es : List E3} {a : FA} {cs : List Int}
theorem FromW.kept (h : FromW W n q l es a cs) (hs : W.heap.size ≤ W'.heap.size) (hk : ∀ k, k < W.heap.size → FB a es k → W'.heap[k]? = W.heap[k]?) : FromW W' n q l es a cs :=
  ⟨(hk _ h.g.lt (.inl rfl)).trans h.g, (hk _ h.y.lt (.inr (.inl rfl))).trans h.y, (hk _ h.c.lt (.inr (.inr (.inl rfl)))).trans h.c, (hk _ h.q.lt (.inr (.inr (.inr (.inl rfl))))).trans h.q, (hk _ h.f.lt (.inr (.inr (.inr (.inr (.inl rfl)))))).trans h.f,
    ⟨h.e.1, fun hn => by
      obtain ⟨b, off, hA, hb, hc⟩ := h.e.2 hn
      exact ⟨b, off, hA, by omega, fun j u hu => (World.cell?_of_block (w := W) (hk b hb (.inr (.inr (.inr (.inr (.inr (.inr ⟨by omega, _, hA, rfl⟩)))))))).trans (hc j u hu)⟩⟩,
    (hk _ h.cc.lt (.inr (.inr (.inr (.inr (.inr (.inl rfl))))))).trans h.cc, h.len, h.ne, h.ng, h.nA⟩
theorem FromW.only {C : Nat → Prop} (h : FromW W n q l es a cs) (ho : Only C W W') (hC : ∀ k, C k → ¬ FB a es k) : FromW W' n q l es a cs := h.kept ho.size fun k hk hf => ho.block k hk fun hc => hC k hc hf
theorem FromW.next (h : FromW W n q l es a cs) (hb : Below W.heap.size W W') : FromW W' n q l es a cs := h.kept hb.size fun k hk _ => hb.block k hk
theorem FromW.set (h : FromW W n q l es a cs) (v : Nat) (x : Int) : FromW (W.setCell ⟨a.gc, v, none⟩ (.int .i64 x)) n q l es a (cs.set v x) := by
  have t1 := h.y.ne_ h.cc (by decide)
  have t2 := h.c.ne_ h.cc (by decide)
  have t3 := h.f.ne_ h.cc (by decide)
  refine ⟨h.g.far h.ng _, h.y.far t1 _, h.c.far t2 _, h.q.far h.ne _, h.f.far t3 _, ⟨h.e.1, fun hn => ?_⟩, by rw [← intCells_set]; exact h.cc.set_ v _, by simpa using h.len, h.ne, h.ng, h.nA⟩
  obtain ⟨b, off, hA, hb, hc⟩ := h.e.2 hn
  exact ⟨b, off, hA, by simpa [World.setCell] using hb, fun j u hu => (World.cell?_of_block (w := W) (Below.heap_setCell W ⟨a.gc, v, none⟩ _ b (fun e => h.nA (by omega) ⟨_, hA, e⟩))).trans (hc j u hu)⟩
theorem FromW.lt (h : FromW W n q l es a cs) {k : Nat} (hk : FB a es k) : k < W.heap.size := by
  rcases hk with rfl | rfl | rfl | rfl | rfl | rfl | ⟨hn, ad, hA, hk⟩
  · exact h.g.lt
  · exact h.y.lt
  · exact h.c.lt
  · exact h.q.lt
  · exact h.f.lt
  · exact h.cc.lt
  · obtain ⟨b, off, e, hb, _⟩ := h.e.2 (by omega)
    rw [e] at hA; injection hA with hA; subst hA; subst hk; exact hb
theorem FromW.drew (h : FromW W n q l es a cs) : FromW W.drew n q l es a cs := h.kept (Nat.le_refl _) (fun _ _ _ => rfl)
theorem FromW.rc (h : FromW W n q l es a cs) : Reads W W.heap.size 1 (some ⟨a.gc, 0, none⟩) cs.length (ints cs) :=
  ⟨by simp [ints], fun _ => ⟨a.gc, 0, rfl, h.cc.lt, fun j u hu => by rw [Nat.zero_add, h.cc.cell j]; simpa [intCells] using hu⟩⟩
end

/-- The end of a call of the closure. -/
def FromEnd (n q l : Nat) (es : List E3) (a : FA) (cs : List Int) (xs : List (List Int)) (J Jx : List (List Int) → (Nat → Prop) → World → Prop) (done : List (List Int)) (W : World) (b : Bool) (W' : World) : Prop :=
  ∃ C', (b = true → J done C' W' ∧ FromW W' n q l es a cs ∧ (∀ k, C' k → k < W'.heap.size ∧ ¬ FB a es k) ∧ W.heap.size ≤ W'.heap.size) ∧ (b = false → ∃ pre', pre' <+: xs ∧ Jx pre' C' W')

set_option maxRecDepth 100000 in
set_option maxHeartbeats 8000000 in
theorem from_any (n : Nat) (hn : n ≤ 12) (es : List E3) (hes : es.length ≤ 1048576) (q l : Nat) (a : FA) (xs : List (List Int)) (B0 : Nat) (hgc : B0 ≤ a.gc) (J Jx : List (List Int) → (Nat → Prop) → World → Prop) (hJ : Bears B0 (fun _ => False) J)
    (hY : ∀ pre x C W1 args O, pre ++ [x] <+: xs → J pre C W1 → B0 ≤ W1.heap.size → (∀ k, C k → k < W1.heap.size) → (∀ k, O k → ¬ C k ∧ k < W1.heap.size ∧ B0 ≤ k) → ArgD x args O W1 → Round Tryz.prog l J Jx pre x C O W1 args) (m : Nat) :
    ∀ (v : Nat), v + m = n → ∀ (cs : List Int) (pre : List (List Int)) (C : Nat → Prop) (W : World), FromW W n q l es a cs → (∀ i, v ≤ i → i < n → i ≠ q → cs[i]? = some 0) → pre ++ enumF n q (calmB n es q) m cs <+: xs → J pre C W → B0 ≤ W.heap.size → (∀ k, C k → k < W.heap.size ∧ ¬ FB a es k) →
    Calls Tryz.prog 111 (#[.int .i64 v] ++ caps a) W fun e W' => ∃ b, e = .returned (.bool b) ∧ FromEnd n q l es a cs xs J Jx (pre ++ enumF n q (calmB n es q) m cs) W b W' := by
  have HJ := Lib.hid hJ
  have HY := Lib.hid hY
  clear hJ hY
  induction m with
  | zero =>
    intro v hv cs pre C W hF _ hp h0 hB hC
    obtain rfl : v = n := by omega
    have hG0 := hF.g.cell 0
    have hy0 := hF.y.cell 0
    have hc0 := hF.c.cell 0
    have hlen := hF.len
    have HF := Lib.hid hF
    have HC := Lib.hid hC
    have CL := Lib.hid (fun (W : World) (h : FromW W v q l es a cs) => dclone_any (some ⟨a.gc, 0, none⟩) v cs (by omega) W h.rc)
    rw [hlen] at CL
    obtain ⟨bg, by_, bc, bq, bf, gc, A, cA⟩ := a
    refine (callsIn_wide (n := 3)).1 ?_
    refine callsIn_of_wp_marks Tryz.func111 rfl trivial ?_
    simp only [caps, Tryz.ntmps111, List.size_toArray, List.length_cons, List.length_nil, Nat.reduceAdd, Nat.reduceSub, Array.replicate_succ, Array.replicate_zero, List.push_toArray, List.append_toArray, List.nil_append, List.cons_append]
    dsimp only at hG0 hy0 hc0
    have HLEN := Lib.hid hlen
    have hyb := HF.out.y.lt
    dsimp only at hyb
    clear hF hC hlen
    gi_wp2_with fail
    refine wpIn_nopanic ?_
    gi_region_with (first
      | (refine ⟨trivial, ?_⟩; gi_at_call 82; refine (inW (CL.out _ HF.out.drew)).mono ?_; rintro e w1 ⟨A', c', rfl, hown, hbel⟩
         have ho1 : Only (fun _ => False) W w1 := ((Only.refl _ W).drew).trans (Only.of_new hbel)
         have cy : w1.cell? ⟨by_, 0, none⟩ = some (.func (.yield l) #[] #[]) := (hbel.cell (p := ⟨by_, 0, none⟩) hyb).trans hy0
         have hs1 := ho1.size
         have hOw : Hid (∀ k, blockOf A' k → W.heap.size ≤ k ∧ k < w1.heap.size) := fun k hk => hown.lt k (blockOf_own.2 hk)
         obtain ⟨fn, tmps, assign, body, hy, hR⟩ := HY.out pre cs C w1 #[.slice A' v c'] (blockOf A') hp (HJ.out _ _ _ _ h0 (Stays.of_only ho1 (fun _ _ h => h.elim))) (by omega) (fun k hk => by have := (HC.out k hk).1; omega) (fun k hk => ⟨fun h => by have := (HC.out k h).1; have := (hOw.out k hk).1; omega, (hOw.out k hk).2, by have := (hOw.out k hk).1; omega⟩) ⟨A', c', by rw [HLEN.out], hown.mono (Nat.zero_le _), fun k hk => hk⟩)
      | (refine (roundIn_wide hR).mono ?_; rintro e w2 ⟨C2, b2, ho2, hg2, rfl, hj2, hx2⟩))
    all_goals (
      refine nopanic_normal ?_
      have F1 := HF.out.kept ho1.size (fun k hk _ => ho1.block k hk id)
      have hFl : ∀ k, FB ⟨bg, by_, bc, bq, bf, gc, A, cA⟩ es k → k < W.heap.size := fun k hk => HF.out.lt hk
      have F2 := F1.only ho2 (fun k hk hf => hk.elim (fun h => (HC.out k h).2 hf) (fun h => by have := (hOw.out k h).1; have := hFl k hf; omega))
      have hs2 := ho2.size
      have HC2 : ∀ k, C2 k → k < w2.heap.size ∧ ¬ FB ⟨bg, by_, bc, bq, bf, gc, A, cA⟩ es k := fun k hk => by
        rcases hg2 k hk with h | h | h
        · exact ⟨by have := (HC.out k h).1; omega, (HC.out k h).2⟩
        · exact ⟨by have := (hOw.out k h).2; omega, fun hf => by have := (hOw.out k h).1; have := hFl k hf; omega⟩
        · exact ⟨h.2, fun hf => by have := hFl k hf; omega⟩
      have END : FromEnd v q l es ⟨bg, by_, bc, bq, bf, gc, A, cA⟩ cs xs J Jx (pre ++ enumF v q (calmB v es q) 0 cs) W b2 w2 := ⟨C2, fun h => ⟨hj2 h, F2, HC2, by omega⟩, fun h => ⟨_, hp, hx2 h⟩⟩
      have END := Lib.hid END
      clear hj2 hx2 hR hy ho2 hg2 F1 F2 HC2 hFl
      gi_wp2
      exact ⟨_, results_tmp rfl _ _ _, b2, rfl, END.out⟩)
  | succ m ih =>
    intro v hv cs pre C W hF hz hp h0 hB hC
    have IHC := Lib.hid (ih (v + 1) (by omega))
    clear ih
    have hG0 := hF.g.cell 0
    have hq0 := hF.q.cell 0
    have hf0 := hF.f.cell 0
    have hlen := hF.len
    have HF := Lib.hid hF
    have HC := Lib.hid hC
    have HZ := Lib.hid hz
    have hn1 : ((v : Int) == (n : Int)) = false := by simp; omega
    obtain ⟨bg, by_, bc, bq, bf, gc, A, cA⟩ := a
    have HLEN := Lib.hid hlen
    refine (callsIn_wide (n := 3)).1 ?_
    refine callsIn_of_wp_marks Tryz.func111 rfl trivial ?_
    simp only [caps, Tryz.ntmps111, List.size_toArray, List.length_cons, List.length_nil, Nat.reduceAdd, Nat.reduceSub, Array.replicate_succ, Array.replicate_zero, List.push_toArray, List.append_toArray, List.nil_append, List.cons_append]
    dsimp only at hG0 hq0 hf0
    simp only [caps] at hf0
    clear hF hC hlen hz
    have hwv : IntKind.i64.wrap ((v : Int) + 1) = (v : Int) + 1 := IntWalk.i64_in _ (by omega)
    by_cases hvq : v = q
    · have hvq2 : ((v : Int) == (q : Int)) = true := by simp [hvq]
      rw [enumF_sink hv hvq] at hp ⊢
      subst hvq
      gi_wp2_with fail
      refine ⟨trivial, ?_⟩
      refine (inW (IHC.out cs pre C W HF.out (fun i h1 h2 h3 => HZ.out i (by omega) h2 h3) hp h0 hB HC.out)).mono ?_
      rintro e w2 ⟨b, rfl, hE⟩
      have HE := Lib.hid hE
      clear hE
      gi_wp2
      exact ⟨_, results_tmp rfl _ _ _, b, rfl, HE.out⟩
    · have hvq2 : ((v : Int) == (q : Int)) = false := by simp; omega
      rw [enumF_succ hv hvq] at hp ⊢
      have CM := Lib.hid (fun (W : World) (cs : List Int) (h : FromW W n q l es ⟨bg, by_, bc, bq, bf, gc, A, cA⟩ cs) => calm_any n A cA es hes q (some ⟨gc, 0, none⟩) n cs (by have := h.len; omega) W h.e h.rc)
      have hcv : cs.set v (0 : Int) = cs := by
        apply List.ext_getElem?
        intro i
        by_cases hi : i = v
        · subst hi
          rw [List.getElem?_set_self (by rw [HLEN.out]; omega), HZ.out i (Nat.le_refl _) (by omega) hvq]
        · rw [List.getElem?_set_ne (fun e => hi e.symm)]
      have hcv' := Lib.hid hcv
      obtain ⟨xss, hxss⟩ : ∃ xss, remF n q (calmB n es q) m cs v 0 = xss := ⟨_, rfl⟩
      rw [hxss] at hp ⊢
      gi_wp2_with fail
      gi_loopw [7] (fun _ wl => ∃ (s : Nat) (C' : Nat → Prop) (dn : List (List Int)), s ≤ 600 ∧ wl.cell? ⟨gc, v, none⟩ = some (.int .i64 s) ∧ Hid (dn ++ remF n q (calmB n es q) m cs v s = xss) ∧ Hid (J (pre ++ dn) C' wl) ∧ Hid (FromW wl n q l es ⟨bg, by_, bc, bq, bf, gc, A, cA⟩ (cs.set v (s : Int))) ∧ W.heap.size ≤ wl.heap.size ∧ Hid (∀ k, C' k → k < wl.heap.size ∧ ¬ FB ⟨bg, by_, bc, bq, bf, gc, A, cA⟩ es k)) (fun _ wl => 601 - (intOf ((wl.cell? ⟨gc, v, none⟩).getD (.int .i64 0))).toNat)
      case atStart =>
        refine ⟨0, C, [], by omega, ?_, by simpa [Hid] using hxss, by simpa [Hid] using h0, by show FromW _ _ _ _ _ _ (cs.set v ((0 : Nat) : Int)); rw [show ((0 : Nat) : Int) = 0 from rfl, hcv]; exact HF.out, Nat.le_refl _, HC⟩
        exact (HF.out.cc.cell v).trans (intCells_get (HZ.out v (Nat.le_refl _) (by omega) hvq))
      case round =>
        obtain ⟨s, C', dn, hs, hcs, HD, IJ, IF, hsz, IC⟩ := hrel
        clear hcv h0 hxss hG0 hq0 hf0
        have r0 := IF.out.g.cell 0
        have r1 := IF.out.g.cell 1
        have rq := IF.out.q.cell 0
        have rf := IF.out.f.cell 0
        have rc := IF.out.c.cell 0
        dsimp only at r0 r1 rq rf rc
        simp only [caps] at rf
        have CMs := CM.out wr _ IF.out
        rw [IF.out.len] at CMs
        have CMs := Lib.hid CMs
        gi_wp2_with fail
        refine ⟨trivial, ?_⟩
        refine (inW (CMs.out)).mono ?_
        rintro e w2 ⟨rfl, hb2⟩
        have F2 := IF.out.next hb2
        have hs2 := hb2.size
        have J2 := Lib.hid (HJ.out _ _ _ _ IJ.out (Stays.of_new hb2))
        have hcs2 : w2.cell? ⟨gc, v, none⟩ = some (.int .i64 s) := (hb2.cell (p := ⟨gc, v, none⟩) IF.out.cc.lt).trans hcs
        have hIC := IC.out
        have IC2 : Hid (∀ k, C' k → k < w2.heap.size ∧ ¬ FB ⟨bg, by_, bc, bq, bf, gc, A, cA⟩ es k) := fun k hk => by
          have := hIC k hk
          exact ⟨by omega, this.2⟩
        clear hIC
        have hgw : gc < w2.heap.size := F2.cc.lt
        have hvn : (v : Int) < (n : Int) := by omega
        have r0 := F2.g.cell 0
        have rf := F2.f.cell 0
        have rc := F2.c.cell 0
        dsimp only at r0 rf rc
        simp only [caps] at rf
        obtain ⟨bo, hbo⟩ : ∃ b, calmB n es q (cs.set v (s : Int)) = b := ⟨_, rfl⟩
        rw [hbo]
        cases bo
        · have hfz := F2.cc.frozen v
          dsimp only at hfz
          have F3 := F2.set v 0
          rw [List.set_set, show cs.set v (0 : Int) = cs from hcv'.out] at F3
          have J3 := HJ.out _ _ _ _ J2.out (Stays.of_only (C' := C') (D := fun k => k = gc) ((Only.refl (fun k => k = gc) w2).setCell (p := ⟨gc, v, none⟩) (.inl rfl) (.int .i64 0)) (fun k hk e => by subst e; exact ⟨fun h => (IC2.out _ h).2 (.inr (.inr (.inr (.inr (.inr (.inl rfl)))))), .inl hgc⟩))
          have hdn : dn = xss := by have := HD.out; rwa [remF_stop (by omega) hbo, List.append_nil] at this
          have END : FromEnd n q l es ⟨bg, by_, bc, bq, bf, gc, A, cA⟩ cs xs J Jx (pre ++ xss) W true (w2.setCell ⟨gc, v, none⟩ (.int .i64 0)) := ⟨C', fun _ => ⟨by rw [← hdn]; exact J3, F3, fun k hk => by have := IC2.out k hk; simpa [World.setCell] using this, by simp [World.setCell]; omega⟩, fun h => by cases h⟩
          have END := Lib.hid END
          clear F3 F2 J3 hdn hbo
          gi_wp2
          exact ⟨_, results_tmp rfl _ _ _, true, rfl, END.out⟩
        · have hs600 : s < 600 := by
            rcases Nat.lt_or_ge s 600 with h | h
            · exact h
            · have hb := calm_big (n := n) (es := es) (q := q) (c := cs.set v (s : Int)) (v := v) (by omega) hvq (by rw [getD_at (List.getElem?_set_self (by rw [HLEN.out]; omega))]; omega)
              rw [hbo] at hb; cases hb
          have hst := remF_step (n := n) (q := q) (m := m) (by omega) hbo
          have hpp : pre ++ dn ++ enumF n q (calmB n es q) m (cs.set v (s : Int)) <+: xs := by
            have h1 := HD.out
            rw [hst] at h1
            refine List.IsPrefix.trans ?_ hp
            rw [← h1]
            exact ⟨remF n q (calmB n es q) m cs v (s + 1), by simp⟩
          have IH1 := IHC.out (cs.set v (s : Int)) (pre ++ dn) C' w2 F2 (fun i h1 h2 h3 => by rw [List.getElem?_set_ne (by omega)]; exact HZ.out i (by omega) h2 h3) hpp J2.out (by omega) IC2.out
          have IH1 := Lib.hid IH1
          have HST := Lib.hid hst
          clear hst hpp F2 hbo
          gi_wp2_with fail
          refine ⟨trivial, ?_⟩
          refine (inW IH1.out).mono ?_
          rintro e w3 ⟨b, rfl, C3, hT, hFl⟩
          cases b
          · have END : FromEnd n q l es ⟨bg, by_, bc, bq, bf, gc, A, cA⟩ cs xs J Jx (pre ++ xss) W false w3 := ⟨C3, (fun h => by cases h), hFl⟩
            have END := Lib.hid END
            clear hT hFl
            gi_wp2
            exact ⟨_, results_tmp rfl _ _ _, false, rfl, END.out⟩
          · obtain ⟨J3, F3, IC3, hs3⟩ := hT rfl
            have J3 := Lib.hid J3
            have IC3 := Lib.hid IC3
            have rc3 := F3.c.cell 0
            have hfz := F3.cc.frozen v
            have hcs3 : w3.cell? ⟨gc, v, none⟩ = some (.int .i64 s) := (F3.cc.cell v).trans (intCells_get (List.getElem?_set_self (by rw [HLEN.out]; omega)))
            dsimp only at rc3 hfz
            have F4 := F3.set v ((s : Int) + 1)
            rw [List.set_set] at F4
            have J4 := Lib.hid (HJ.out _ _ _ _ J3.out (Stays.of_only (C' := C3) (D := fun k => k = gc) ((Only.refl (fun k => k = gc) w3).setCell (p := ⟨gc, v, none⟩) (.inl rfl) (.int .i64 ((s : Int) + 1))) (fun k hk e => by subst e; exact ⟨fun h => (IC3.out _ h).2 (.inr (.inr (.inr (.inr (.inr (.inl rfl)))))), .inl hgc⟩)))
            have F4 := Lib.hid F4
            have hbk : Hid (∀ k, C3 k → k < (w3.setCell ⟨gc, v, none⟩ (.int .i64 ((s : Int) + 1))).heap.size ∧ ¬ FB ⟨bg, by_, bc, bq, bf, gc, A, cA⟩ es k) := fun k hk => by have := IC3.out k hk; simpa [World.setCell] using this
            have hcs4 : (w3.setCell ⟨gc, v, none⟩ (.int .i64 ((s : Int) + 1))).cell? ⟨gc, v, none⟩ = some (.int .i64 ((s + 1 : Nat) : Int)) := (F4.out.cc.cell v).trans (intCells_get (List.getElem?_set_self (by rw [HLEN.out]; omega)))
            clear F3 hT hFl r0 rf rc
            gi_wp2
            go_roundw
            case rel =>
              refine ⟨s + 1, C3, dn ++ enumF n q (calmB n es q) m (cs.set v (s : Int)), by omega, hcs4, ?_, ?_, F4, by simp [World.setCell]; omega, hbk⟩
              · have := HD.out; rw [HST.out, ← List.append_assoc] at this; exact this
              · have := J4.out; rw [List.append_assoc] at this; exact this
            case measure =>
              have h1 : ((w3.setCell ⟨gc, v, none⟩ (.int .i64 ((s : Int) + 1))).cell? ⟨gc, v, none⟩) = some (.int .i64 ((s + 1 : Nat) : Int)) := hcs4
              rw [h1, hcs]
              simp [intOf]; omega
end Go.Proofs.YtghigdcpinengaaGreat

