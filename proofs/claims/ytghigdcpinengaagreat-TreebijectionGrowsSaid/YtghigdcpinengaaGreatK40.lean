/-
  Texts of this claim, put together: DualE, DualS, Sup2, Sup3, RMin, RListP, RMinimal, RecF.
-/
import Derived.Test.YtghigdcpinengaaGreatK37
import Derived.Test.YtghigdcpinengaaGreatK38
import Derived.Test.YtghigdcpinengaaGreatK39
import Derived.Test.YtghigdcpinengaaGreatK11
import Derived.Test.YtghigdcpinengaaGreatK36
import Derived.Test.YtghigdcpinengaaGreatK28
import Derived.Stop.RegionWithIn
import Derived.Laws.EntriesVeiled
import Derived.Deep.CutRange
import Derived.Deep.RegionHeld3
import Derived.Test.YtghigdcpinengaaGreatK32
/-! recurrent.Dual; ref24.Turned, Dual: the dual of a stable configuration. -/
namespace Go.Proofs.YtghigdcpinengaaGreat
open Go.RowKit

/-- A list less another one, as far as k. -/
def trnTo (n : Nat) (top cs : List Int) (k : Nat) : List Int := (List.range n).map fun v : Nat => if v < k then top.getD v 0 - cs.getD v 0 else top.getD v 0
theorem trnTo_length (n : Nat) (top cs : List Int) (k : Nat) : (trnTo n top cs k).length = n := by simp [trnTo]
theorem trnTo_zero {n : Nat} {top : List Int} (cs : List Int) (h : top.length = n) : trnTo n top cs 0 = top := by
  apply List.ext_getElem?
  intro i
  unfold trnTo
  by_cases hi : i < n
  · simp [hi, h]
  · simp [hi, h]
theorem trnTo_at {n v : Nat} {top cs : List Int} (hv : v < n) {x : Int} (hx : top[v]? = some x) : (trnTo n top cs v)[v]? = some x := by
  unfold trnTo
  simp [hv, hx]
theorem trnTo_succ {n k : Nat} {top cs : List Int} {x y : Int} (hx : top[k]? = some x) (hy : cs[k]? = some y) : trnTo n top cs (k + 1) = (trnTo n top cs k).set k (x - y) := by
  apply List.ext_getElem?
  intro i
  unfold trnTo
  by_cases hi : i < n
  · by_cases h : i = k
    · subst h
      rw [List.getElem?_set_self (by simpa using hi)]
      simp [hi, hx, hy]
    · rw [List.getElem?_set_ne (fun e => h e.symm)]
      simp only [List.getElem?_map, List.getElem?_range hi, Option.map_some]
      by_cases h2 : i < k
      · rw [if_pos h2, if_pos (by omega)]
      · rw [if_neg h2, if_neg (by omega)]
  · rw [List.getElem?_eq_none (by simp; omega), List.getElem?_eq_none (by simp; omega)]
theorem trn_dul {n q : Nat} {es : List E3} {cs : List Int} (hok : ∀ e ∈ es, okE n e) (h0 : cs.getD q 0 = 0) : trnTo n (maxL n es q) cs n = dulL n es cs q := by
  unfold trnTo dulL dulTo
  apply List.map_congr_left
  intro v hv
  have hv := List.mem_range.1 hv
  rw [if_pos hv, maxL_get hok hv]
  by_cases h : v = q
  · rw [if_pos h, if_neg (fun e => e.2 h), h, h0]; rfl
  · rw [if_neg h, if_pos ⟨hv, h⟩]
theorem maxL_bd {n q : Nat} {es : List E3} (hlen : es.length ≤ 10000) (hok : ∀ e ∈ es, okE n e) : ∀ x ∈ maxL n es q, -1 ≤ x ∧ x ≤ 1000000 := fun x hx => by
  obtain ⟨i, hi⟩ := List.getElem?_of_mem hx
  have hin : i < n := by have := (List.getElem?_eq_some_iff.1 hi).1; rw [maxL_length] at this; exact this
  have h1 := maxL_get (q := q) hok hin
  rw [getD_at hi] at h1
  have h2 := valE_bd hok i
  rw [h1]
  split <;> omega

end Go.Proofs.YtghigdcpinengaaGreat

/-! stabilize.Stable; superstable.Dual of a superstable configuration; ref28.Turned. -/
namespace Go.Proofs.YtghigdcpinengaaGreat
open Go.RowKit

theorem firstT_neg (ws : List Bool) : decide (firstT ws < 0) = (List.range ws.length).all fun v => !ws.getD v false := by
  unfold firstT
  rcases hf : (List.range ws.length).find? fun v => ws.getD v false with _ | v
  · rw [List.find?_eq_none] at hf
    symm
    show ((List.range ws.length).all fun v => !ws.getD v false) = true
    rw [List.all_eq_true]
    intro v hv
    have := hf v hv
    simpa using this
  · have h1 := List.find?_some hf
    have h2 := List.mem_of_find?_eq_some hf
    have h3 : ¬ ((v : Int) < 0) := by omega
    simp only [decide_eq_false h3]
    symm
    rw [List.all_eq_false]
    exact ⟨v, h2, by simpa using h1⟩
theorem stable_wait {n q : Nat} {es : List E3} (hn : n ≤ 12) (hok : ∀ e ∈ es, okE n e) (cs : List Int) : decide (firstT (waitL n q cs (valL n (endsL es))) < 0) = stabTo es cs q n := by
  rw [firstT_neg]
  have hl : (waitL n q cs (valL n (endsL es))).length = 12 := by simp [waitL]
  have hg : ∀ v, v < 12 → (waitL n q cs (valL n (endsL es))).getD v false = (decide (v < n) && unst q cs (valL n (endsL es)) v) := fun v hv => by
    unfold waitL
    rw [List.getD_eq_getElem?_getD, List.getElem?_map, List.getElem?_range hv]; rfl
  rw [hl, Bool.eq_iff_iff]
  unfold stabTo
  rw [List.all_eq_true, List.all_eq_true]
  constructor
  · intro h v hv
    have hvn := List.mem_range.1 hv
    have := h v (List.mem_range.2 (by omega))
    rw [hg v (by omega), decide_eq_true hvn, Bool.true_and] at this
    unfold unst at this
    rw [valL_val (n := n) hok (v := v) ] at this
    by_cases hq : v = q
    · simp [hq]
    · have hq' : ((v : Int) ≠ (q : Int)) := by omega
      simp only [decide_eq_true hq', Bool.true_and, Bool.not_eq_true', decide_eq_false_iff_not] at this
      rw [Bool.or_eq_true]; right; exact decide_eq_true (by omega)
  · intro h v hv
    rw [hg v (List.mem_range.1 hv)]
    by_cases hvn : v < n
    · have := h v (List.mem_range.2 hvn)
      rw [Bool.or_eq_true, decide_eq_true_eq, decide_eq_true_eq] at this
      unfold unst
      rw [valL_val (n := n) hok (v := v)]
      rcases this with h1 | h1
      · simp [h1]
      · have h2 : ¬ valE es v ≤ cs.getD v 0 := by omega
        rw [decide_eq_false h2]; simp
    · simp [hvn]

set_option maxRecDepth 100000 in
set_option maxHeartbeats 4000000 in
theorem sstable_ok (n : Nat) (A : Option Addr) (c : Nat) (es : List E3) (hlen : es.length ≤ 10000) (q : Nat) (B : Option Addr) (cB : Nat) (d : List Int) (hc : confErr n es q d = 0) (w : World)
    (h : Reads w w.heap.size 3 A es.length (edgeCells es)) (h' : Reads w w.heap.size 1 B d.length (ints d)) :
    Calls Tryz.prog 91 #[.agg #[.int .i64 n, .slice A es.length c], .int .i64 q, .slice B d.length cB] w fun e w' => e = .returned (.tuple #[.bool (stabTo es d q n), .int .i64 0]) ∧ Below w.heap.size w w' := by
  have hG := (conf_zero hc).1
  have hn12 : n ≤ 12 := by have := hG.hi; omega
  have hST : decide (firstT (waitL n q d (valL n (endsL es))) < 0) = stabTo es d q n := stable_wait hn12 hG.ok d
  have GC := Lib.hid (fun (W : World) (hB : Below w.heap.size w W) => given_ok n A c es hlen q B cB d hc W ((h.below hB).more hB.size) ((h'.below hB).more hB.size))
  have g0 := Blk.new w 24 #[.int .i64 n, .slice A es.length c]
  have hb0 : Below w.heap.size w (w.alloc (.cells #[.int .i64 n, .slice A es.length c] 24)) := (Below.refl _ _).alloc (Nat.le_refl _) _
  have c0 := g0.cell 0
  have c1 := g0.cell 1
  obtain ⟨S, hS⟩ : ∃ S, stabTo es d q n = S := ⟨_, rfl⟩
  rw [hS] at hST ⊢
  obtain ⟨rows, hrows⟩ : ∃ r, rowsL n (endsL es) = r := ⟨_, rfl⟩
  obtain ⟨val, hval⟩ : ∃ r, valL n (endsL es) = r := ⟨_, rfl⟩
  rw [hrows, hval] at GC
  rw [hval] at hST
  obtain ⟨ws, hws⟩ : ∃ r, waitL n q d val = r := ⟨_, rfl⟩
  rw [hws] at GC hST
  obtain ⟨x, hx⟩ : ∃ x, firstT ws = x := ⟨_, rfl⟩
  have HX := Lib.hid hx
  rw [hx] at hST
  clear hS hrows hval hws hG hc h h' hx
  have HS := Lib.hid hST
  clear hST
  go_enter Tryz.func91, Tryz.ntmps91
  go_wp2_with fail
  refine (GC.out _ hb0).mono ?_
  rintro e w1 ⟨bp, a, rfl, P1, hb1⟩
  have B1 := hb0.trans (hb1.mono hb0.size)
  have NX : Hid (Calls Tryz.prog 121 #[.pointer (some ⟨bp, 0, none⟩)] w1 fun e w' => e = .returned (.int .i64 x) ∧ w' = w1) := by
    have := pnext_any _ bp n a d q rows val (List.replicate n 0) 0 ws w1 P1
    rw [HX.out] at this
    exact this
  clear P1
  go_wp2_with fail
  refine (NX.out).mono ?_
  rintro e w2 ⟨rfl, rfl⟩
  go_wp2
  go_ret2
  exact ⟨by rw [← HS.out]; rfl, B1⟩

set_option maxRecDepth 100000 in
set_option maxHeartbeats 4000000 in
theorem sdual_ok (n : Nat) (A : Option Addr) (c : Nat) (es : List E3) (hlen : es.length ≤ 10000) (q : Nat) (B : Option Addr) (d : Nat) (cs : List Int) (hb : burnErr n es q cs = 0) (hst : stabTo es cs q n = true) (w : World)
    (h : Reads w w.heap.size 3 A es.length (edgeCells es)) (h' : Reads w w.heap.size 1 B cs.length (ints cs)) :
    Calls Tryz.prog 58 #[.agg #[.int .i64 n, .slice A es.length c], .int .i64 q, .slice B cs.length d] w fun e w' => ∃ A' c', e = .returned (.tuple #[.slice A' n c', .int .i64 0]) ∧ OwnI w' w.heap.size A' c' (dulL n es cs q) ∧ Below w.heap.size w w' := by
  obtain ⟨hc, h0⟩ := burn_zero hb
  rw [Int.toNat_natCast] at h0
  obtain ⟨hG, _, hq0, hqn, hcl, hcb, _⟩ := conf_zero hc
  have hcl : cs.length = n := by omega
  have hr : rootErr n es q = 0 := by
    rcases conf_cases n es q cs with ⟨h1, h2⟩ | ⟨h1, _⟩ | ⟨h1, _⟩
    · exact absurd (h2 ▸ hc) h1
    · exact h1
    · exact h1
  have SU : Hid (∀ W, Below w.heap.size w W → Calls Tryz.prog 84 #[.agg #[.int .i64 n, .slice A es.length c], .int .i64 q, .slice B cs.length d] W fun e w' => ∃ b, e = .returned (.tuple #[.bool b, .int .i64 0]) ∧ Below W.heap.size W w') := by
    intro W hB
    refine (super_any n A c es (by omega) q B d cs (by have := hG.hi; omega) W ((h.below hB).more hB.size) ((h'.below hB).more hB.size)).mono ?_
    rintro e w' ⟨rfl, hb'⟩
    have e0 : (superE n es q cs).2 = 0 := by unfold superE; rw [if_pos hb]
    exact ⟨_, by rw [e0], hb'⟩
  have ST : Hid (∀ W, Below w.heap.size w W → Calls Tryz.prog 91 #[.agg #[.int .i64 n, .slice A es.length c], .int .i64 q, .slice B cs.length d] W fun e w' => e = .returned (.tuple #[.bool true, .int .i64 0]) ∧ Below W.heap.size W w') := by
    intro W hB
    have := sstable_ok n A c es hlen q B d cs hc W ((h.below hB).more hB.size) ((h'.below hB).more hB.size)
    rw [hst] at this
    exact this
  have FI' := Lib.hid (fun (W : World) (hB : Below w.heap.size w W) => sfirst_ok n A c es hlen q hr W ((h.below hB).more hB.size))
  have g0 := Blk.new w 24 #[.int .i64 n, .slice A es.length c]
  have B0 : Below w.heap.size w (w.alloc (.cells #[.int .i64 n, .slice A es.length c] 24)) := (Below.refl _ _).alloc (Nat.le_refl _) _
  have c0 := g0.cell 0
  have c1 := g0.cell 1
  have HD : Hid (trnTo n (maxL n es q) cs n = dulL n es cs q) := trn_dul hG.ok h0
  have HDl : Hid ((dulL n es cs q).length = n) := dulL_length n es cs q
  have hml := maxL_length n es q
  have HTB : Hid (∀ x ∈ maxL n es q, -1 ≤ x ∧ x ≤ 1000000) := maxL_bd hlen hG.ok
  have HCL := Lib.hid hcl
  have HCB := Lib.hid hcb
  have hn1 : 1 ≤ n := by have := hG.lo; omega
  have hn12 : n ≤ 12 := by have := hG.hi; omega
  obtain ⟨T, hT⟩ : ∃ T, maxL n es q = T := ⟨_, rfl⟩
  obtain ⟨R, hR⟩ : ∃ R, dulL n es cs q = R := ⟨_, rfl⟩
  rw [hT] at FI' HD hml HTB
  rw [hR] at HD HDl ⊢
  have HML := Lib.hid hml
  rw [hcl] at SU ST h' ⊢
  clear hG hcl hcb h0 hml hT hR hb hc hst hr hq0 hqn
  go_enter Tryz.func58, Tryz.ntmps58
  go_wp2_with fail
  refine (SU.out _ B0).mono ?_
  rintro e w1 ⟨bb, rfl, hb1⟩
  have B1 := B0.trans (hb1.mono B0.size)
  have g1 := g0.next hb1
  have c0 := g1.cell 0
  have c1 := g1.cell 1
  clear hb1
  go_wp2_with fail
  refine (ST.out _ B1).mono ?_
  rintro e w2 ⟨rfl, hb2⟩
  have B2 := B1.trans (hb2.mono B1.size)
  have g2 := g1.next hb2
  have c0 := g2.cell 0
  have c1 := g2.cell 1
  clear hb2
  go_wp2_with fail
  refine (FI'.out _ B2).mono ?_
  rintro e w3 ⟨A3, c3, rfl, o3, hb3⟩
  have B3 := B2.trans (hb3.mono B2.size)
  have o3 := o3.mono B2.size
  obtain ⟨g, rfl, hg, _, _⟩ := o3.block (by rw [HML.out]; omega)
  clear g0 B0 c0 c1 hb3 g1 g2 B1 B2
  go_wp2_with fail
  go_loopw [13, 14, 48] (fun _ _ i wl => ∃ v : Nat, v ≤ n ∧ i = .int .i64 v ∧ Hid (OwnI wl w.heap.size (some ⟨g, 0, none⟩) c3 (trnTo n T cs v)) ∧ Hid (Below w.heap.size w wl)) (fun _ _ i _ => n - (intOf i).toNat)
  case atStart => exact ⟨0, by omega, rfl, by rw [Hid, trnTo_zero cs HML.out]; exact o3, B3⟩
  case round =>
    obtain ⟨v, hv, rfl, HO, HB⟩ := hrel
    clear o3 B3
    by_cases hlt : v < n
    · have hi : (v : Int) < (n : Int) := by omega
      obtain ⟨x, hx⟩ := get_of_lt (xs := T) (k := v) (by rw [HML.out]; exact hlt)
      obtain ⟨y, hy⟩ := get_of_lt (xs := cs) (k := v) (by rw [HCL.out]; exact hlt)
      have hxb := HTB.out x (List.mem_of_getElem? hx)
      have hyb := HCB.out y (List.mem_of_getElem? hy)
      obtain ⟨bB, oB, hA, hbB, hcell⟩ := (h'.below HB.out).at_ (ints_at hy)
      subst hA
      have hms := trnTo_succ (n := n) hx hy
      have hat := trnTo_at (n := n) (cs := cs) hlt hx
      obtain ⟨g', hg', hgb, hfz, hcz⟩ := HO.out.block (by rw [trnTo_length]; omega)
      injection hg' with hg'
      injection hg' with hg'
      subst hg'
      have k0 := hcz v x hat
      have f0 := hfz v
      have hw1 : IntKind.i64.wrap (x - y) = x - y := IntWalk.i64_in _ (by omega)
      have O2 := HO.out.put v (x - y)
      rw [← hms] at O2
      have HO2 := Lib.hid O2
      have B2 := Lib.hid (HB.out.setCell (p := ⟨g, v, none⟩) (by show w.heap.size ≤ g; exact hgb) (.int .i64 (x - y)))
      clear hx hy hms hat O2 hfz hcz
      go_wp2
      go_roundw
      case rel => exact ⟨v + 1, by omega, by go_num, HO2, B2⟩
      case measure => simp [intOf]; omega
    · obtain rfl : v = n := by omega
      have hO := HO.out
      rw [HD.out] at hO
      have hB := HB.out
      go_wp2
      go_ret2
      exact ⟨_, _, rfl, hO, hB⟩
end Go.Proofs.YtghigdcpinengaaGreat

/-! Package superstable: the iterator configurations, a closure that calls itself. -/
namespace Go.Proofs.YtghigdcpinengaaGreat
open Go.RowKit Go.Shelf
attribute [local go_sem] Oper.semAt_some


/-- Where the closure's parts lie. -/
structure FA where
  bg : Nat
  by_ : Nat
  bc : Nat
  bq : Nat
  bf : Nat
  gc : Nat
  A : Option Addr
  cA : Nat
def FB (a : FA) (es : List E3) (k : Nat) : Prop := k = a.bg ∨ k = a.by_ ∨ k = a.bc ∨ k = a.bq ∨ k = a.bf ∨ k = a.gc ∨ (es.length ≠ 0 ∧ blockOf a.A k)
def caps (a : FA) : Array Value := #[.pointer (some ⟨a.bg, 0, none⟩), .pointer (some ⟨a.by_, 0, none⟩), .pointer (some ⟨a.bc, 0, none⟩), .pointer (some ⟨a.bq, 0, none⟩), .pointer (some ⟨a.bf, 0, none⟩)]
structure FromW (W : World) (n q l : Nat) (es : List E3) (a : FA) (cs : List Int) : Prop where
  g : Blk W a.bg 24 #[.int .i64 n, .slice a.A es.length a.cA]
  y : Blk W a.by_ 144 #[.func (.yield l) #[] #[]]
  c : Blk W a.bc 26 #[.slice (some ⟨a.gc, 0, none⟩) n n]
  q : Blk W a.bq 3 #[.int .i64 q]
  f : Blk W a.bf 57 #[.func (.func 111) #[] (caps a)]
  e : Reads W W.heap.size 3 a.A es.length (edgeCells es)
  cc : Blk W a.gc 3 (intCells cs)
  len : cs.length = n
  ne : a.bq ≠ a.gc
  ng : a.bg ≠ a.gc
  nA : es.length ≠ 0 → ¬ blockOf a.A a.gc
section
variable {W W' : World} {n q l : Nat} {es : List E3} {a : FA} {cs : List Int}
theorem FromW.kept (h : FromW W n q l es a cs) (hs : W.heap.size ≤ W'.heap.size) (hk : ∀ k, k < W.heap.size → FB a es k → W'.heap[k]? = W.heap[k]?) : FromW W' n q l es a cs :=
  ⟨(hk _ h.g.lt (.inl rfl)).trans h.g, (hk _ h.y.lt (.inr (.inl rfl))).trans h.y, (hk _ h.c.lt (.inr (.inr (.inl rfl)))).trans h.c, (hk _ h.q.lt (.inr (.inr (.inr (.inl rfl))))).trans h.q, (hk _ h.f.lt (.inr (.inr (.inr (.inr (.inl rfl)))))).trans h.f,
    ⟨h.e.1, fun hn => by
      obtain ⟨b, off, hA, hb, hc⟩ := h.e.2 hn
      exact ⟨b, off, hA, by omega, fun j u hu => (World.cell?_of_block (w := W) (hk b hb (.inr (.inr (.inr (.inr (.inr (.inr ⟨by omega, _, hA, rfl⟩)))))))).trans (hc j u hu)⟩⟩,
    (hk _ h.cc.lt (.inr (.inr (.inr (.inr (.inr (.inl rfl))))))).trans h.cc, h.len, h.ne, h.ng, h.nA⟩
theorem FromW.only {C : Nat → Prop} (h : FromW W n q l es a cs) (ho : Only C W W') (hC : ∀ k, C k → ¬ FB a es k) : FromW W' n q l es a cs := h.kept ho.size fun k hk hf => ho.block k hk fun hc => hC k hc hf
theorem FromW.next (h : FromW W n q l es a cs) (hb : Below W.heap.size W W') : FromW W' n q l es a cs := h.kept hb.size fun k hk _ => hb.block k hk
theorem FromW.set (h : FromW W n q l es a cs) (v : Nat) (x : Int) : FromW (W.setCell ⟨a.gc, v, none⟩ (.int .i64 x)) n q l es a (cs.set v x) := by
  have t1 := h.y.ne_ h.cc (by decide)
  have t2 := h.c.ne_ h.cc (by decide)
  have t3 := h.f.ne_ h.cc (by decide)
  refine ⟨h.g.far h.ng _, h.y.far t1 _, h.c.far t2 _, h.q.far h.ne _, h.f.far t3 _, ⟨h.e.1, fun hn => ?_⟩, by rw [← intCells_set]; exact h.cc.set_ v _, by simpa using h.len, h.ne, h.ng, h.nA⟩
  obtain ⟨b, off, hA, hb, hc⟩ := h.e.2 hn
  exact ⟨b, off, hA, by simpa [World.setCell] using hb, fun j u hu => (World.cell?_of_block (w := W) (Below.heap_setCell W ⟨a.gc, v, none⟩ _ b (fun e => h.nA (by omega) ⟨_, hA, e⟩))).trans (hc j u hu)⟩
theorem FromW.lt (h : FromW W n q l es a cs) {k : Nat} (hk : FB a es k) : k < W.heap.size := by
  rcases hk with rfl | rfl | rfl | rfl | rfl | rfl | ⟨hn, ad, hA, hk⟩
  · exact h.g.lt
  · exact h.y.lt
  · exact h.c.lt
  · exact h.q.lt
  · exact h.f.lt
  · exact h.cc.lt
  · obtain ⟨b, off, e, hb, _⟩ := h.e.2 (by omega)
    rw [e] at hA; injection hA with hA; subst hA; subst hk; exact hb
theorem FromW.drew (h : FromW W n q l es a cs) : FromW W.drew n q l es a cs := h.kept (Nat.le_refl _) (fun _ _ _ => rfl)
end

end Go.Proofs.YtghigdcpinengaaGreat

/-! Package superstable: the iterator configurations, and All. -/
namespace Go.Proofs.YtghigdcpinengaaGreat
open Go.RowKit Go.Shelf
attribute [local go_sem] Oper.semAt_some

end Go.Proofs.YtghigdcpinengaaGreat

/-! Package recurrent: Minimal. -/
namespace Go.Proofs.YtghigdcpinengaaGreat
open Go.RowKit

end Go.Proofs.YtghigdcpinengaaGreat

/-! Plain: the recurrent configurations are those below the maximal stable one with the property; they are few. -/
namespace Go.Proofs.YtghigdcpinengaaGreat
open Go.RowKit

section
variable {n q : Nat} {es : List E3}
end
end Go.Proofs.YtghigdcpinengaaGreat

/-! Package recurrent: All and Minimal, with errors. -/
namespace Go.Proofs.YtghigdcpinengaaGreat
open Go.RowKit Go.Shelf

theorem RowsR.nil_ (w : World) (B : Nat) : RowsR w B none [] := ⟨[], Reads.nil_, fun i xs h => by cases h⟩
end Go.Proofs.YtghigdcpinengaaGreat

/-! treebijection.Recurrent; superstable.All with its errors. -/
namespace Go.Proofs.YtghigdcpinengaaGreat
open Go.RowKit

def recFE (n : Int) (es : List E3) (q : Int) (xs : List Int) : List Int × Int := if grownErr n es q xs = 0 then (dulL n.toNat es (confN (endsL es) n.toNat q.toNat (xs.map Int.toNat)) q.toNat, 0) else ([], grownErr n es q xs)

set_option maxRecDepth 100000 in
set_option maxHeartbeats 4000000 in
theorem recur30_any (n q : Int) (A : Option Addr) (c : Nat) (es : List E3) (hlen : es.length ≤ 10000) (hm0 : checkG n es = 0 → (endsL es).length ≤ 60) (B : Option Addr) (d : Nat) (xs : List Int) (hl : xs.length ≤ 1048576) (w : World) (h : Reads w w.heap.size 3 A es.length (edgeCells es)) (h' : Reads w w.heap.size 1 B xs.length (ints xs)) :
    Calls Tryz.prog 22 #[.agg #[.int .i64 n, .slice A es.length c], .int .i64 q, .slice B xs.length d] w fun e w' => ∃ A' c', e = .returned (.tuple #[.slice A' (recFE n es q xs).1.length c', .int .i64 (recFE n es q xs).2]) ∧ OwnI w' w.heap.size A' c' (recFE n es q xs).1 ∧ Below w.heap.size w w' := by
  have g0 := Blk.new w 24 #[.int .i64 n, .slice A es.length c]
  have hB0 : Below w.heap.size w (w.alloc (.cells #[.int .i64 n, .slice A es.length c] 24)) := (Below.refl _ _).alloc (Nat.le_refl _) _
  have c0 := g0.cell 0
  have c1 := g0.cell 1
  have CO := Lib.hid (fun (W : World) (hB : Below w.heap.size w W) => config30_any n q A c es hlen hm0 B d xs hl W ((h.below hB).more hB.size) ((h'.below hB).more hB.size))
  by_cases hz : grownErr n es q xs = 0
  · have hCE : confFE n es q xs = (confN (endsL es) n.toNat q.toNat (xs.map Int.toNat), 0) := by unfold confFE; rw [if_pos hz]
    rw [hCE] at CO
    have hE : recFE n es q xs = (dulL n.toNat es (confN (endsL es) n.toNat q.toNat (xs.map Int.toNat)) q.toNat, 0) := by unfold recFE; rw [if_pos hz]
    rw [hE]
    dsimp only at CO ⊢
    obtain ⟨m, p, t, rfl, rfl, rfl, hp, hm12, hR, hte⟩ := grown_nat hz
    rw [nI_toNat] at CO ⊢
    simp only [Int.toNat_natCast] at CO ⊢
    have hm := hm0 (join_zero (tree_join hte)).1
    obtain ⟨hcz, hst⟩ := conf_cfg (tree_join hte) hR hp (by omega)
    have hb := (cfg_zero hcz).1
    have hcl : (confN (endsL es) m p t).length = m := (conf_facts hR.hT.bd hp t).1
    obtain ⟨C, hC⟩ : ∃ C, confN (endsL es) m p t = C := ⟨_, rfl⟩
    rw [hC] at CO hb hst hcl ⊢
    have DU := Lib.hid (fun (B : Option Addr) (d : Nat) (W : World) (hB : Below w.heap.size w W) (h2 : Reads W W.heap.size 1 B C.length (ints C)) => sdual_ok m A c es hlen p B d C hb hst W ((h.below hB).more hB.size) h2)
    rw [dulL_length]
    clear hE hCE hz h h' hm hR hte hl hcz hb hst hC hcl
    go_enter Tryz.func22, Tryz.ntmps22
    go_wp2_with fail
    refine (CO.out _ hB0).mono ?_
    rintro e w1 ⟨A1, c1', rfl, o1, hb1⟩
    have hB1 := hB0.trans (hb1.mono hB0.size)
    have g1 := g0.next hb1
    have k0 := g1.cell 0
    have k1 := g1.cell 1
    clear c0 c1
    go_wp2_with fail
    refine (DU.out _ _ _ hB1 o1.reads).mono ?_
    rintro e w2 ⟨A2, c2, rfl, o2, hb2⟩
    have hB2 := hB1.trans (hb2.mono hB1.size)
    have o2 := o2.mono hB1.size
    go_wp2
    go_ret2
    exact ⟨_, _, rfl, o2, hB2⟩
  · have hCE : confFE n es q xs = ([], grownErr n es q xs) := by unfold confFE; rw [if_neg hz]
    have hE : recFE n es q xs = ([], grownErr n es q xs) := by unfold recFE; rw [if_neg hz]
    rw [hCE] at CO
    rw [hE]
    dsimp only at CO ⊢
    obtain ⟨z, hzz⟩ : ∃ z, grownErr n es q xs = z := ⟨_, rfl⟩
    rw [hzz] at CO hz ⊢
    have hzb : (z != 0) = true := by simpa using hz
    clear hE hCE hzz hz h h' hm0
    go_enter Tryz.func22, Tryz.ntmps22
    go_wp2_with fail
    refine (CO.out _ hB0).mono ?_
    rintro e w1 ⟨A1, c1', rfl, o1, hb1⟩
    have hB1 := hB0.trans (hb1.mono hB0.size)
    go_wp2
    go_ret2
    exact ⟨_, _, rfl, OwnI.nil_ _ _, hB1⟩

theorem root_natF {n : Int} {es : List E3} {q : Int} (h : rootErr n es q = 0) : ∃ m p : Nat, n = m ∧ q = p ∧ p < m ∧ RightG m es ∧ AllConn m es ∧ checkG n es = 0 ∧ joinErr n es = 0 := by
  rcases root_cases n es q with ⟨a, b⟩ | ⟨_, _, b⟩ | ⟨_, _, _, b⟩ | ⟨a, b, c, _⟩
  · exact absurd (b ▸ h) a
  · rw [h] at b; cases b
  · rw [h] at b; cases b
  · have hG := right_of a
    have hlo := hG.lo
    unfold vertB at c
    simp at c
    obtain ⟨m, rfl⟩ := Int.eq_ofNat_of_zero_le (show 0 ≤ n by omega)
    obtain ⟨p, rfl⟩ := Int.eq_ofNat_of_zero_le (show 0 ≤ q by omega)
    refine ⟨m, p, rfl, rfl, by omega, hG, (connB_iff hG).1 (by simpa using b), a, ?_⟩
    unfold joinErr
    rw [if_neg (fun h => h a)]
    rw [Int.toNat_natCast] at b ⊢
    rw [b]; rfl
end Go.Proofs.YtghigdcpinengaaGreat

