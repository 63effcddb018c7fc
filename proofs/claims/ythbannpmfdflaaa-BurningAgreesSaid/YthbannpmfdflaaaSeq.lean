/-
  slices.Values, AppendSeq, Collect, Sorted on ints.
-/
import Derived.Test.YthbannpmfdflaaaIterF
import Derived.Test.YthbannpmfdflaaaRows2
import Derived.Test.YthbannpmfdflaaaLit
import Derived.Test.YthbannpmfdflaaaIterX
import Derived.Test.YthbannpmfdflaaaOwnSet
import Derived.Test.YthbannpmfdflaaaSort
import Derived.Laws.EntriesVeiled
namespace Go.Proofs.Ythbannpmfdflaaa
open Go.RowKit Go.Shelf
attribute [local go_sem] Oper.semAt_some

/-- What comes: an int. -/
def ArgI (x : Int) (args : Array Value) (_ : Nat → Prop) (_ : World) : Prop := args = #[.int .i64 x]
set_option maxHeartbeats 1000000 in
theorem values_any (A : Option Addr) (c : Nat) (xs : List Int) (w : World) :
    Calls Try.prog 45 #[.slice A xs.length c] w fun e w' => e = .returned (.func (.func 91) #[] #[.pointer (some ⟨w.heap.size, 0, none⟩)]) ∧ w.alloc (.cells #[.slice A xs.length c] 25) = w' := by
  have hmf : ∀ (fn : Fn) (first cap : Array Value) (w : World), (Instr.makeFunc fn first cap).run Try.prog w = .ok (.func fn first cap) w := fun _ _ _ _ => rfl
  go_enter Try.func45, Try.ntmps45
  go_wp2
  go_ret
  exact ⟨rfl, rfl⟩

set_option maxRecDepth 100000 in
set_option maxHeartbeats 4000000 in
theorem values_iter (A : Option Addr) (c : Nat) (xs : List Int) (hn : xs.length ≤ 1048576) (bw : Nat) (W0 : World)
    (h1 : Blk W0 bw 25 #[.slice A xs.length c]) (h3 : Reads W0 W0.heap.size 1 A xs.length (ints xs)) :
    IterF Try.prog 91 #[.pointer (some ⟨bw, 0, none⟩)] ArgI (fun k => k = bw ∨ blockOf A k) (fun _ => False) xs (fun _ => True) W0 := by
  intro l' J Jx C W hL hC hJ hJx hY h0
  have k1 : Blk W bw 25 #[.slice A xs.length c] := (hL.block bw h1.lt (.inl rfl)).trans h1
  have k3 : Reads W W.heap.size 1 A xs.length (ints xs) := ⟨h3.1, fun hn => by
    obtain ⟨b, off, rfl, hb, hc⟩ := h3.2 hn
    exact ⟨b, off, rfl, by have := hL.size; omega, fun j u hu => (World.cell?_of_block (w := W0) (hL.block b hb (.inr ⟨_, rfl, rfl⟩))).trans (hc j u hu)⟩⟩
  have hbW : bw < W.heap.size := k1.lt
  have HA : Hid (xs.length ≠ 0 → ∀ k, blockOf A k → k < W.heap.size) := fun hx k ⟨a, ha, hk⟩ => by
    obtain ⟨b, off, e, hb, _⟩ := k3.2 (by omega)
    rw [e] at ha; injection ha with ha; subst ha; subst hk; exact hb
  have c0 := k1.cell 0
  clear h1 h3 hL
  refine (callsIn_wide (n := 3)).1 ?_
  refine callsIn_of_wp_marks Try.func91 rfl trivial ?_
  simp only [Try.ntmps91, List.size_toArray, List.length_cons, List.length_nil, Nat.reduceAdd, Nat.reduceSub, Array.replicate_succ, Array.replicate_zero, List.push_toArray, List.append_toArray, List.nil_append, List.cons_append]
  have HC := Lib.hid hC
  have HY := Lib.hid hY
  have HJ := Lib.hid hJ
  clear hC hY hJ hJx
  gi_wp2
  gi_loopw [4, 7] (fun _ v wl => ∃ (u : Nat) (C' : Nat → Prop), v = .int .i64 u ∧ u ≤ xs.length ∧ W.heap.size ≤ wl.heap.size ∧ Reads wl W.heap.size 1 A xs.length (ints xs) ∧
    Hid (J (xs.take u) C' wl) ∧ Hid (∀ k, C' k → k < wl.heap.size ∧ ¬ (k = bw ∨ blockOf A k))) (fun _ v _ => xs.length - (intOf v).toNat)
  case atStart => exact ⟨0, C, rfl, by omega, Nat.le_refl _, k3, h0, HC.out⟩
  case round =>
    obtain ⟨u, C', rfl, hu, hsz, i3, IJ, IC⟩ := hrel
    clear k1 k3 h0 c0
    by_cases hlt : u < xs.length
    · obtain ⟨x, hx⟩ := get_of_lt hlt
      have hi : (u : Int) < (xs.length : Int) := by omega
      obtain ⟨b, off, rfl, hb, hcell⟩ := i3.at_ (ints_at hx)
      have htk := take_snoc hx
      have hpx : xs.take u ++ [x] <+: xs := by rw [← htk]; exact List.take_prefix _ _
      have hIC := IC.out
      have HTK := Lib.hid htk
      obtain ⟨fn, tmps, assign, body, hy, hR⟩ := HY.out (xs.take u) x C' wr #[.int .i64 x] (fun _ => False) hpx IJ.out (by omega) (fun k hk => (hIC k hk).1) (fun k hk => hk.elim) rfl
      clear htk hx hpx
      gi_wp2_with fail
      refine (roundIn_wide hR).mono ?_
      rintro e w2 ⟨C2, b2, ho2, hg2, rfl, hj2, hx2⟩
      cases b2
      · have HX2 := Lib.hid (hx2 rfl)
        rw [← HTK.out] at HX2
        clear hj2 hx2
        gi_wp2
        exact ⟨_, results_none rfl _ _ _, ⟨⟨_, rfl⟩, C2, .inr ⟨xs.take (u + 1), List.take_prefix _ _, HX2.out⟩⟩⟩
      · have HJ2 := Lib.hid (hj2 rfl)
        rw [← HTK.out] at HJ2
        have m3 := reads_only i3 ho2 (by omega) (fun k hk hc => hc.elim (fun hc => (hIC _ hc).2 (.inr hk)) id)
        have hsz2 := ho2.size
        have hAl := HA.out (by omega)
        have hIC2 : Hid (∀ k, C2 k → k < w2.heap.size ∧ ¬ (k = bw ∨ blockOf (some ⟨b, off, none⟩) k)) := by
          intro k hk
          rcases hg2 k hk with h | h | h
          · have := hIC k h; exact ⟨by omega, this.2⟩
          · exact h.elim
          · refine ⟨h.2, ?_⟩
            rintro (e | e)
            · omega
            · have := hAl k e; omega
        clear hj2 hx2 ho2 hg2 hR hy i3 hIC hAl hcell
        gi_wp2
        go_roundw
        case rel => exact ⟨u + 1, C2, by go_num, by omega, by omega, m3, HJ2.out, hIC2.out⟩
        case measure => simp [intOf]; omega
    · obtain rfl : u = xs.length := by omega
      rw [List.take_length] at IJ
      gi_wp2
      exact ⟨_, results_none rfl _ _ _, ⟨⟨_, rfl⟩, C', .inl ⟨IJ.out, trivial⟩⟩⟩

set_option maxRecDepth 100000 in
set_option maxHeartbeats 4000000 in
theorem appendseq_any (A : Option Addr) (c : Nat) (xs : List Int) (hn : xs.length ≤ 12) (bw : Nat) (w : World) (h1 : Blk w bw 25 #[.slice A xs.length c]) (h3 : Reads w w.heap.size 1 A xs.length (ints xs)) (hA : ∀ k, blockOf A k → k < w.heap.size) :
    Calls Try.prog 136 #[.slice none 0 0, .func (.func 91) #[] #[.pointer (some ⟨bw, 0, none⟩)]] w fun e w' => ∃ Ar cr, e = .returned (.slice Ar xs.length cr) ∧ OwnI w' w.heap.size Ar cr xs ∧ Below w.heap.size w w' := by
  have r1 := Blk.new w 25 #[.slice none 0 0]
  have b1 := h1.alloc (.cells #[.slice none 0 0] 25)
  have h4 := (h3.alloc (Nat.le_refl _) (.cells #[.slice none 0 0] 25)).more (B' := (w.alloc (.cells #[.slice none 0 0] 25)).heap.size) (by simp)
  have hbel1 : Below w.heap.size w (w.alloc (.cells #[.slice none 0 0] 25)) := (Below.refl _ _).alloc (Nat.le_refl _) _
  have hs3 : (w.alloc (.cells #[.slice none 0 0] 25)).heap.size = w.heap.size + 1 := by simp
  obtain ⟨w3, hw3⟩ : ∃ w3, w.alloc (.cells #[.slice none 0 0] 25) = w3 := ⟨_, rfl⟩
  rw [hw3] at r1 b1 h4 hbel1 hs3
  have HW3 := Lib.hid hw3
  have hbw : bw < w.heap.size := h1.lt
  clear h1 h3 hw3
  refine (callsIn_wide (n := 3)).1 ?_
  refine callsIn_of_wp_marks Try.func136 rfl trivial ?_
  simp only [Try.ntmps136, List.size_toArray, List.length_cons, List.length_nil, Nat.reduceAdd, Nat.reduceSub, Array.replicate_succ, Array.replicate_zero, List.push_toArray, List.append_toArray, List.nil_append, List.cons_append]
  gi_wp2_with fail
  rw [HW3.out]
  refine rangeF_outer (n := 3) (gf := 91) (lb := #[.pointer (some ⟨bw, 0, none⟩)]) (by rfl) (enters_of Try.func91 (by kernel_rfl) rfl)
    (values_iter A c xs (by omega) bw w3 b1 h4) ?hF0 ?hK (fun k => k = w.heap.size) ?hC
    (fun pre C W => ∃ Ar cr, Blk W w.heap.size 25 #[.slice Ar pre.length cr] ∧ OwnI W w.heap.size Ar cr pre ∧ C w.heap.size ∧ (∀ k, blockOf Ar k → C k) ∧ Below w.heap.size w W ∧ w3.heap.size ≤ W.heap.size ∧ (∀ k, C k → k = w.heap.size ∨ w3.heap.size ≤ k))
    (fun _ _ _ _ => False) ?hI (fun _ _ _ _ _ h _ => h) ?h0 ?hps ?round ?done (fun _ _ _ _ _ h => h.elim)
  case hF0 => intro a b hf ho; trivial
  case hK =>
    rintro k (rfl | hk)
    · omega
    · have := hA k hk; omega
  case hC =>
    rintro k rfl
    refine ⟨by omega, ?_⟩
    rintro (e | e)
    · omega
    · have := hA _ e; omega
  case hI =>
    rintro pre C a b ⟨Ar, cr, i1, i2, i3, i4, i5, i6, i7⟩ hst
    exact ⟨Ar, cr, i1.stays hst (.inl i3), own_kept i2 fun k hk => hst.block k (own_lt i2 hk).2 (.inl (i4 k hk)), i3, i4, i5.trans (hst.below (fun k hk => .inr ⟨by omega, fun h => h⟩) i5.size), Nat.le_trans i6 hst.size, i7⟩
  case h0 =>
    refine ⟨none, 0, r1, OwnI.nil_ _ _, rfl, ?_, hbel1, Nat.le_refl _, fun k hk => .inl hk⟩
    rintro k ⟨a, ha, hk⟩; cases ha
  case hps => intro x' args O W' (ha : args = _); subst ha; rfl
  case round =>
    intro l pre x args C O W hpre hI hl hC hO harg hlW hnC hnO T hT
    obtain ⟨Ar, cr, i1, i2, i3, i4, i5, i6, i7⟩ := hI
    obtain rfl : args = #[.int .i64 x] := harg
    have hpl : pre.length ≤ 12 := by
      obtain ⟨z, hz⟩ := hpre
      have := congrArg List.length hz
      simp at this
      omega
    clear hpre r1 b1 h4 hbel1
    gi_wp2
    refine hT _ _ (Only.refl _ _) ?_
    intro w5 h5 _
    have hl5 : ∀ k, C k → k ≠ l := fun k hk e => hnC (e ▸ hk)
    have j1 : Blk w5 w.heap.size 25 #[.slice Ar pre.length cr] := i1.only h5 (hl5 _ i3)
    have j2 : OwnI w5 w.heap.size Ar cr pre := own_kept i2 fun k hk => h5.block k (own_lt i2 hk).2 (hl5 k (i4 k hk))
    have j5 : Below w.heap.size w w5 := i5.trans (h5.below (fun k hk e => by omega) i5.size)
    have e1 := j1.cell 0
    have hC5 : ∀ k, C k → k < w5.heap.size := fun k hk => Nat.lt_of_lt_of_le (hC k hk) h5.size
    have hs5 := h5.size
    have hj5s := j5.size
    clear i1 i2 i5 hC
    gi_wp2_with (gi_at_builtin; refine append_gi rfl (.tmp 8) (.tmp 10) _ rfl w.heap.size 3 Try.underlying25 info_int rfl (by omega) Ar cr pre.length (ints pre) rfl (World.ownsRow.alloc j2 _) _ [.int .i64 x] rfl (Reads.box _ _ _) (by simp [Value.oneCell']) (by omega) (by simp; omega) ?_; intro A6 c6 w6 hown6 hg6 hb6 hw6; have k1 := (j1.alloc (.cells #[.int .i64 x] 3)).grown hg6 (own_blk_ne j2 j1 (by decide)); have e2 := k1.cell 0; have f2 := k1.frozen 0)
    have k2 : OwnI w6 w.heap.size A6 c6 (pre ++ [x]) := by
      unfold OwnI
      rw [List.length_append, ints_snoc]
      exact hown6
    have k3 : Only (fun k => C k ∨ O k) w5 w6 := ((Only.refl _ w5).alloc _).grown hg6 fun k hk => .inl (.inl (i4 k (blockOf_own.1 hk)))
    refine ⟨fun k => C k ∨ (w5.heap.size ≤ k ∧ k < w6.heap.size), k3.setCell (.inl (.inl i3)) _, fun k hk => ?_, A6, c6, ?_, ?_, .inl i3, ?_, ?_, ?_, ?_⟩
    · rcases hk with hk | hk
      · exact .inl hk
      · exact .inr (.inr (by simpa [World.setCell] using hk))
    · have := k1.set_ 0 (.slice A6 (pre.length + 1) c6)
      rw [List.length_append]
      simpa using this
    · exact k2.set_blk k1 (by decide) _ _
    · intro k hk
      rcases hw6 with e | e
      · rw [blockOf_own.2 hk] at e
        exact .inl (i4 k (blockOf_own.1 e.symm))
      · rw [blockOf_own.2 hk] at e
        injection e with e
        have hlt := (own_lt hown6 hk).2
        exact .inr ⟨by rw [e]; simp, hlt⟩
    · exact (j5.trans (k3.below (fun k hk e => by
        rcases e with e | e
        · have := i7 k e; omega
        · have := (hO k e).2.2; omega) j5.size)).setCell (by simp) _
    · have := k3.size; simp [World.setCell]; omega
    · rintro k (hk | hk)
      · exact i7 k hk
      · exact .inr (by omega)
  case done =>
    rintro C W ⟨Ar, cr, i1, i2, i3, i4, i5, i6, i7⟩ _ hnD hD
    have e1 := i1.cell 0
    clear r1 b1 h4 hbel1
    gi_wp2
    have p1 := Only.put_one W w3.heap.size (.deferred none)
    refine end_mark (v := .slice Ar xs.length cr) hD (by simp [results, Try.results136, go_sem]) ⟨Ar, cr, rfl, ?_, i5.trans (p1.below (fun k hk e => by omega) i5.size)⟩
    exact own_kept i2 fun k hk => p1.block k (own_lt i2 hk).2 fun e => hnD (by rw [← e]; exact i4 k hk)
end Go.Proofs.Ythbannpmfdflaaa
