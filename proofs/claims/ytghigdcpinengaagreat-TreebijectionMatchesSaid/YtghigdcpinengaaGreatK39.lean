/-
  Texts of this claim, put together: Sup3, RTop, RMin, RListP, DualE, RMinimal.
-/
import Derived.Test.YtghigdcpinengaaGreatK37
import Derived.Test.YtghigdcpinengaaGreatK10
import Derived.Laws.EntriesVeiled
import Derived.Test.YtghigdcpinengaaGreatK35
import Derived.Test.YtghigdcpinengaaGreatK38
import Derived.Deep.CutRange
import Derived.Deep.RegionHeld3
import Derived.Test.YtghigdcpinengaaGreatK09
import Derived.Test.YtghigdcpinengaaGreatK33
import Derived.Test.YtghigdcpinengaaGreatK25
import Derived.Test.YtghigdcpinengaaGreatK15
/-! Package superstable: the iterator configurations, and All. -/
namespace Go.Proofs.YtghigdcpinengaaGreat
open Go.RowKit Go.Shelf
attribute [local go_sem] Oper.semAt_some

/-- All superstable configurations, in order. -/
def supL (n : Nat) (es : List E3) (q : Nat) : List (List Int) := enumF n q (calmB n es q) n (List.replicate n 0)
def KB (bg bq : Nat) (es : List E3) (A : Option Addr) (k : Nat) : Prop := k = bg ∨ k = bq ∨ (es.length ≠ 0 ∧ blockOf A k)

set_option maxRecDepth 100000 in
set_option maxHeartbeats 4000000 in
theorem confs_iter (n : Nat) (hn : n ≤ 12) (es : List E3) (hes : es.length ≤ 1048576) (q bg bq : Nat) (A : Option Addr) (cA : Nat) (W0 : World)
    (h1 : Blk W0 bg 24 #[.int .i64 n, .slice A es.length cA]) (h2 : Blk W0 bq 3 #[.int .i64 q]) (h3 : Reads W0 W0.heap.size 3 A es.length (edgeCells es)) :
    Iter Tryz.prog 110 #[.pointer (some ⟨bg, 0, none⟩), .pointer (some ⟨bq, 0, none⟩)] ArgD (KB bg bq es A) (fun _ => False) (supL n es q) W0 := by
  intro l J Jx C W hL hC hJ hJx hY h0
  have k1 : Blk W bg 24 #[.int .i64 n, .slice A es.length cA] := (hL.block bg h1.lt (.inl rfl)).trans h1
  have k2 : Blk W bq 3 #[.int .i64 q] := (hL.block bq h2.lt (.inr (.inl rfl))).trans h2
  have k3 : Reads W W.heap.size 3 A es.length (edgeCells es) := ⟨h3.1, fun hn => by
    obtain ⟨b, off, hA, hb, hc⟩ := h3.2 hn
    exact ⟨b, off, hA, by have := hL.size; omega, fun j u hu => (World.cell?_of_block (w := W0) (hL.block b hb (.inr (.inr ⟨by omega, _, hA, rfl⟩)))).trans (hc j u hu)⟩⟩
  have hmf : ∀ (fn : Fn) (first cap : Array Value) (w : World), (Instr.makeFunc fn first cap).run Tryz.prog w = .ok (.func fn first cap) w := fun _ _ _ _ => rfl
  have hmd := make_div n (by omega)
  have g1 := k1.alloc (.cells #[.func (.yield l) #[] #[]] 144)
  have c0 := g1.cell 0
  have FA := from_any n hn es hes q l ⟨bg, W.heap.size, W.heap.size + 1 + 1, bq, W.heap.size + 1 + 1 + 1, W.heap.size + 1, A, cA⟩ (supL n es q) W.heap.size (by show W.heap.size ≤ W.heap.size + 1; omega) J Jx hJ hY n 0 (by omega) (List.replicate n 0) [] C
  have FA := Lib.hid FA
  have HC := Lib.hid hC
  have HJ := Lib.hid hJ
  have HK3 := Lib.hid k3
  clear h1 h2 h3 hY hJx hC hJ k3
  refine (callsIn_wide (n := 3)).1 ?_
  refine callsIn_of_wp_marks Tryz.func110 rfl trivial ?_
  simp only [Tryz.ntmps110, List.size_toArray, List.length_cons, List.length_nil, Nat.reduceAdd, Nat.reduceSub, Array.replicate_succ, Array.replicate_zero, List.push_toArray, List.append_toArray, List.nil_append, List.cons_append]
  gi_wp2_with fail
  obtain ⟨W4, hW4⟩ : ∃ W4, ((((W.alloc (.cells #[.func (.yield l) #[] #[]] 144)).alloc (.cells (ints (List.replicate n 0)).toArray 3)).alloc (.cells #[.slice (some ⟨W.heap.size + 1, 0, none⟩) n n] 26)).alloc
    (.cells #[.func (.func 111) #[] #[.pointer (some ⟨bg, 0, none⟩), .pointer (some ⟨W.heap.size, 0, none⟩), .pointer (some ⟨W.heap.size + 1 + 1, 0, none⟩), .pointer (some ⟨bq, 0, none⟩), .pointer (some ⟨W.heap.size + 1 + 1 + 1, 0, none⟩)]] 57)) = W4 := ⟨_, rfl⟩
  have hs4 : W4.heap.size = W.heap.size + 4 := by rw [← hW4]; simp
  have hB4 : Below W.heap.size W W4 := by rw [← hW4]; exact ((((Below.refl _ _).alloc (Nat.le_refl _) _).alloc (by simp) _).alloc (by simp; omega) _).alloc (by simp; omega) _
  have F4 : FromW W4 n q l es ⟨bg, W.heap.size, W.heap.size + 1 + 1, bq, W.heap.size + 1 + 1 + 1, W.heap.size + 1, A, cA⟩ (List.replicate n 0) := by
    refine ⟨k1.next hB4, ?_, ?_, k2.next hB4, ?_, (HK3.out.below hB4).more (by omega), ?_, by simp, ?_, ?_, ?_⟩
    · rw [← hW4]; exact (((Blk.new W _ _).alloc _).alloc _).alloc _
    · rw [← hW4]; exact (Blk.new_at (by simp)).alloc _
    · rw [← hW4]; exact Blk.new_at (by simp)
    · rw [← hW4]; exact ((Blk.new_at (by simp)).alloc _).alloc _
    · have := k2.lt; dsimp only; omega
    · have := k1.lt; dsimp only; omega
    · rintro hne ⟨ad, hA, hk⟩
      obtain ⟨b, off, e, hb, _⟩ := HK3.out.2 (by omega)
      rw [e] at hA; injection hA with hA; subst hA
      have e2 : b = W.heap.size + 1 := hk
      omega
  have J4 := HJ.out _ _ _ _ h0 (Stays.of_new hB4)
  have FR := FA.out W4 F4 (fun i _ h _ => by simp [h]) (by rw [List.nil_append]; exact List.prefix_refl _) J4 (by omega) (fun k hk => by
    have h1 := HC.out k hk
    refine ⟨by omega, ?_⟩
    rintro (e | e | e | e | e | e | e)
    · exact h1.2 (.inl e)
    · dsimp only at e; omega
    · dsimp only at e; omega
    · exact h1.2 (.inr (.inl e))
    · dsimp only at e; omega
    · dsimp only at e; omega
    · exact h1.2 (.inr (.inr e)))
  have FR := Lib.hid FR
  rw [hW4]
  clear F4 J4 hW4 hmf hmd g1 c0 k1 k2 h0
  refine ⟨trivial, ?_⟩
  refine (inW FR.out).mono ?_
  rintro e w5 ⟨b, rfl, C5, hT, hFl⟩
  have EN : ∃ C', J (supL n es q) C' w5 ∨ ∃ pre, pre <+: supL n es q ∧ Jx pre C' w5 := by
    cases b
    · exact ⟨C5, .inr (hFl rfl)⟩
    · exact ⟨C5, .inl (hT rfl).1⟩
  have EN := Lib.hid EN
  clear hT hFl
  gi_wp2
  exact ⟨_, results_none rfl _ _ _, ⟨⟨_, rfl⟩, EN.out⟩⟩

set_option maxRecDepth 100000 in
set_option maxHeartbeats 8000000 in
theorem sall_ok (n : Nat) (A : Option Addr) (cA : Nat) (es : List E3) (hlen : es.length ≤ 10000) (q : Nat) (hx : rootErr n es q = 0) (xss : List (List Int)) (hxs : supL n es q = xss) (hxl : xss.length ≤ 16384) (w : World) (h : Reads w w.heap.size 3 A es.length (edgeCells es)) :
    Calls Tryz.prog 45 #[.agg #[.int .i64 n, .slice A es.length cA], .int .i64 q] w fun e w' => ∃ Ar cr vs, e = .returned (.tuple #[.slice Ar xss.length cr, .int .i64 0]) ∧ OwnDivs w' w.heap.size Ar cr vs xss ∧ Below w.heap.size w w' := by
  have hn : n ≤ 12 := by
    rcases root_cases n es q with ⟨h1, h2⟩ | ⟨_, _, h2⟩ | ⟨_, _, _, h2⟩ | ⟨h1, _, h2, _⟩
    · rw [hx] at h2; exact absurd h2.symm h1
    · rw [hx] at h2; cases h2
    · rw [hx] at h2; cases h2
    · have := (right_of h1).hi; omega
  have FI := Lib.hid (sfirst_ok n A cA es hlen q hx)
  have HX := Lib.hid hxs
  clear hxs hx
  have g0 := Blk.new w 24 #[.int .i64 n, .slice A es.length cA]
  refine (callsIn_wide (n := 3)).1 ?_
  refine callsIn_of_wp_marks Tryz.func45 rfl trivial ?_
  simp only [Tryz.ntmps45, List.size_toArray, List.length_cons, List.length_nil, Nat.reduceAdd, Nat.reduceSub, Array.replicate_succ, Array.replicate_zero, List.push_toArray, List.append_toArray, List.nil_append, List.cons_append]
  gi_wp2_with fail
  obtain ⟨w0, hw0⟩ : ∃ w0, ((w.alloc (.cells #[.int .i64 n, .slice A es.length cA] 24)).alloc (.cells #[.slice none 0 0] 74)).alloc (.cells #[.int .i64 0] 29) = w0 := ⟨_, rfl⟩
  have hs0 : w0.heap.size = w.heap.size + 3 := by rw [← hw0]; simp
  have hB0 : Below w.heap.size w w0 := by rw [← hw0]; exact (((Below.refl _ _).alloc (Nat.le_refl _) _).alloc (by simp) _).alloc (by simp; omega) _
  have rg : Blk w0 w.heap.size 24 #[.int .i64 n, .slice A es.length cA] := by rw [← hw0]; exact (g0.alloc _).alloc _
  have r1 : Blk w0 (w.heap.size + 1) 74 #[.slice none 0 0] := by rw [← hw0]; exact (Blk.new_at (by simp)).alloc _
  have r2 : Blk w0 (w.heap.size + 2) 29 #[.int .i64 0] := by rw [← hw0]; exact Blk.new_at (by simp)
  rw [hw0]
  refine ⟨trivial, ?_⟩
  refine (inW (FI.out _ ((h.below hB0).more hB0.size))).mono ?_
  rintro e w1 ⟨Am, cm, rfl, _, hb1⟩
  have hs1 := hb1.size
  have g1 := rg.next hb1
  have c0 := g1.cell 0
  have c1 := g1.cell 1
  have hB1 : Below w.heap.size w w1 := hB0.trans (hb1.mono hB0.size)
  have r1' := r1.next hb1
  have r2' := r2.next hb1
  have c0' := (g1.alloc (.cells #[.slice none 0 0] 74)).cell 0
  have c1' := (g1.alloc (.cells #[.slice none 0 0] 74)).cell 1
  clear hw0 rg r1 r2 hb1 FI g0
  gi_wp2_with fail
  refine ⟨trivial, ?_⟩
  refine (inW (confs_any n A cA es.length q _)).mono ?_
  rintro e w2 ⟨rfl, hw2⟩
  obtain ⟨p, hp⟩ : ∃ p, w1.heap.size = p := ⟨_, rfl⟩
  have hs2 : w2.heap.size = p + 3 := by rw [← hw2, ← hp]; simp
  have hB12 : Below w1.heap.size w1 w2 := by rw [← hw2]; exact (((Below.refl _ _).alloc (Nat.le_refl _) _).alloc (by simp) _).alloc (by simp; omega) _
  have q0 : Blk w2 p 74 #[.slice none 0 0] := by rw [← hw2, ← hp]; exact ((Blk.new _ _ _).alloc _).alloc _
  have q1 : Blk w2 (p + 1) 24 #[.int .i64 n, .slice A es.length cA] := by rw [← hw2, ← hp]; exact (Blk.new_at (by simp)).alloc _
  have q2 : Blk w2 (p + 2) 3 #[.int .i64 q] := by rw [← hw2, ← hp]; exact Blk.new_at (by simp)
  have hB2 : Below w.heap.size w w2 := hB1.trans (hB12.mono hB1.size)
  have s1 := r1'.next hB12
  have s2 := r2'.next hB12
  have h2 := (h.below hB2).more hB2.size
  have hgs : (w1.alloc (.cells #[.slice none 0 0] 74)).heap.size = p + 1 := by simp [hp]
  rw [hgs]
  clear hw2 c0 c1 c0' c1' g1 r1' r2' hB12 hB1 hB0 hgs
  rw [hp] at hs1
  have hps3 : w.heap.size + 3 ≤ p := by omega
  clear hs1 hs0
  have hAlt : ∀ k, es.length ≠ 0 → blockOf A k → k < w.heap.size := fun k hne ⟨ad, hA, hk⟩ => by
    obtain ⟨b, off, e, hb, _⟩ := h.2 (by omega)
    rw [e] at hA; injection hA with hA; subst hA; subst hk; exact hb
  gi_wp2_with fail
  refine range_outer (n := 3) (gf := 110) (lb := #[.pointer (some ⟨p + 1, 0, none⟩), .pointer (some ⟨p + 2, 0, none⟩)]) rfl (enters_of Tryz.func110 (by kernel_rfl) rfl)
    (K := KB (p + 1) (p + 2) es A) (xs := xss)
    (by rw [← HX.out]; exact confs_iter n hn es (by omega) q (p + 1) (p + 2) A cA w2 q1 q2 h2) ?hK (fun k => k = p) ?hC
    (fun pre C W => ∃ A c vs, Blk W p 74 #[.slice A pre.length c] ∧ OwnDivs W w.heap.size A c vs pre ∧ C p ∧ (∀ k, rowBlock A vs k → C k) ∧ Below w.heap.size w W ∧
      Blk W (w.heap.size + 1) 74 #[.slice none 0 0] ∧ Blk W (w.heap.size + 2) 29 #[.int .i64 0] ∧ (∀ k, C k → k = p ∨ p + 3 ≤ k))
    (fun _ _ _ _ => False) ?hI (fun _ _ _ _ _ h _ => h) ?h0 ?hps ?round ?done (fun _ _ _ _ _ h => h.elim)
  case hK =>
    rintro k (rfl | rfl | ⟨h1, h2⟩)
    · omega
    · omega
    · have := hAlt k h1 h2; omega
  case hC =>
    rintro k rfl
    refine ⟨by omega, ?_⟩
    rintro (e | e | ⟨h1, h2⟩)
    · omega
    · omega
    · have := hAlt k h1 h2; omega
  case hI =>
    rintro pre C a b ⟨A, c, vs, i1, i2, i3, i4, i5, i6, i7, i8⟩ hst
    refine ⟨A, c, vs, i1.stays hst (.inl i3), i2.kept fun k hk => hst.block k (i2.lt hk).2 (.inl (i4 k hk)), i3, i4, i5.trans (hst.below (fun k hk => .inr ⟨by omega, id⟩) i5.size), i6.stays hst (.inr ⟨by omega, id⟩), i7.stays hst (.inr ⟨by omega, id⟩), i8⟩
  case h0 => exact ⟨none, 0, [], q0, OwnDivs.nil_ _ _, rfl, (by rintro k (⟨a, h, _⟩ | ⟨v, h, _⟩) <;> cases h), hB2, s1, s2, fun k hk => .inl hk⟩
  case hps => rintro x' args O W' ⟨A', c', rfl, _⟩; rfl
  case round =>
    intro l pre x args C O W hpre hI hl hC hO harg hlW hnC hnO T hT
    obtain ⟨A, c, vs, i1, i2, i3, i4, i5, i6, i7, i8⟩ := hI
    obtain ⟨A8, c8, rfl, hown8, hO8⟩ := harg
    have hown8' : OwnI W w.heap.size A8 c8 x := own_rebase hown8 fun k hk => by have := (hO k (hO8 k hk)).2.2; omega
    have hpl : pre.length < 16384 := by
      obtain ⟨z, hz⟩ := hpre
      have := congrArg List.length hz
      simp at this
      omega
    have hpe : ((pre.length : Int) == 16384) = false := by simp; omega
    clear hown8
    gi_wp2
    refine hT _ _ (Only.refl _ _) ?_
    intro w5 h5 _
    have hl5 : ∀ k, C k → k ≠ l := fun k hk e => hnC (e ▸ hk)
    have j1 : Blk w5 p 74 #[.slice A pre.length c] := i1.only h5 (by omega)
    have j2 : OwnDivs w5 w.heap.size A c vs pre := i2.kept fun k hk => h5.block k (i2.lt hk).2 (hl5 k (i4 k hk))
    have j5 : Below w.heap.size w w5 := i5.trans (h5.below (fun k hk e => by omega) i5.size)
    have j6 := i6.only h5 (by omega)
    have j7 := i7.only h5 (by omega)
    have j8 : OwnI w5 w.heap.size A8 c8 x := own_kept hown8' fun k hk => h5.block k (own_lt hown8' hk).2 fun e => hnO (e ▸ hO8 k hk)
    have e1 := j1.cell 0
    have hC5 : ∀ k, C k → k < w5.heap.size := fun k hk => Nat.lt_of_lt_of_le (hC k hk) h5.size
    have hO5 : ∀ k, O k → p + 3 ≤ k ∧ k < w5.heap.size := fun k hk => ⟨by have := (hO k hk).2.2; omega, Nat.lt_of_lt_of_le (hO k hk).2.1 h5.size⟩
    clear i1 i2 i5 i6 i7 hown8' hC hO
    gi_wp2_with (gi_at_builtin; refine append_gi rfl (.tmp 26) (.tmp 28) _ rfl w.heap.size 26 Tryz.underlying74 info_divs rfl (by omega) A c pre.length vs rfl (World.ownsRow.alloc j2.1 _) _ [.slice A8 x.length c8] rfl (Reads.box _ _ _) (by simp [Value.oneCell']) (by omega) (by have := j5.size; simp; omega) ?_; intro A6 c6 w6 hown6 hg6 hb6 hw6; have k1 := (j1.alloc (.cells #[.slice A8 x.length c8] 26)).grown hg6 (own_blk_ne j2.1 j1 (by decide)); have e2 := k1.cell 0; have f2 := k1.frozen 0)
    have k2 : OwnDivs w6 w.heap.size A6 c6 (vs ++ [.slice A8 x.length c8]) (pre ++ [x]) := OwnDivs.push (j2.kept fun k hk => Below.heap_alloc _ _ _ (j2.lt hk).2) (OwnI.alloc j8 _) hown6 hg6
    have k3 : Only (fun k => C k ∨ O k) w5 w6 := ((Only.refl _ w5).alloc _).grown hg6 fun k hk => .inl (.inl (i4 k (.inl (blockOf_own.1 hk))))
    refine ⟨fun k => C k ∨ O k ∨ (w5.heap.size ≤ k ∧ k < w6.heap.size), k3.setCell (.inl (.inl i3)) _, fun k hk => ?_, A6, c6, vs ++ [.slice A8 x.length c8], ?_, ?_, .inl i3, ?_, ?_, ?_, ?_, ?_⟩
    · simpa [World.setCell] using hk
    · have := k1.set_ 0 (.slice A6 (pre.length + 1) c6)
      simpa using this
    · exact k2.set_blk k1 (by decide) (by decide) _ _
    · rintro k (hk | ⟨v, hv, hk⟩)
      · rcases hw6 with e | e
        · rw [blockOf_own.2 hk] at e
          exact .inl (i4 k (.inl (blockOf_own.1 e.symm)))
        · rw [blockOf_own.2 hk] at e
          injection e with e
          have hlt := (own_lt hown6 hk).2
          exact .inr (.inr ⟨by rw [e]; simp, hlt⟩)
      · rcases List.mem_append.1 hv with hv | hv
        · exact .inl (i4 k (.inr ⟨v, hv, hk⟩))
        · rw [List.mem_singleton.1 hv] at hk
          exact .inr (.inl (hO8 k (blockOf_own.1 hk)))
    · exact (j5.trans (k3.below (fun k hk e => by
        rcases e with e | e
        · have := i8 k e; omega
        · have := (hO5 k e).1; omega) j5.size)).setCell (by show w.heap.size ≤ p; omega) _
    · exact (j6.only k3 (fun e => by
        rcases e with e | e
        · have := i8 _ e; omega
        · have := (hO5 _ e).1; omega)).far (by show w.heap.size + 1 ≠ p; omega) _
    · exact (j7.only k3 (fun e => by
        rcases e with e | e
        · have := i8 _ e; omega
        · have := (hO5 _ e).1; omega)).far (by show w.heap.size + 2 ≠ p; omega) _
    · rintro k (hk | hk | hk)
      · exact i8 k hk
      · exact .inr (hO5 k hk).1
      · exact .inr (by have := h5.size; omega)
  case done =>
    rintro C W ⟨A, c, vs, i1, i2, i3, i4, i5, i6, i7, i8⟩ hnD hD
    have e1 := i1.cell 0
    have e4 := i6.cell 0
    have e5 := i7.cell 0
    have f4 := i6.frozen 0
    have f5 := i7.frozen 0
    gi_wp2
    have g1 : Blk ((W.setCell ⟨w.heap.size + 1, 0, none⟩ (.slice A xss.length c)).setCell ⟨w.heap.size + 2, 0, none⟩ (.int .i64 0)) (w.heap.size + 1) 74 #[.slice A xss.length c] := by
      have := (i6.set_ 0 (.slice A xss.length c)).far (p := ⟨w.heap.size + 2, 0, none⟩) (by simp) (.int .i64 0)
      simpa using this
    have g2 : Blk ((W.setCell ⟨w.heap.size + 1, 0, none⟩ (.slice A xss.length c)).setCell ⟨w.heap.size + 2, 0, none⟩ (.int .i64 0)) (w.heap.size + 2) 29 #[.int .i64 0] := by
      have := (i7.far (p := ⟨w.heap.size + 1, 0, none⟩) (by simp) (.slice A xss.length c)).set_ 0 (.int .i64 0)
      simpa using this
    have g3 : OwnDivs ((W.setCell ⟨w.heap.size + 1, 0, none⟩ (.slice A xss.length c)).setCell ⟨w.heap.size + 2, 0, none⟩ (.int .i64 0)) w.heap.size A c vs xss :=
      (i2.set_blk i6 (by decide) (by decide) 0 _).set_blk (i7.far (p := ⟨w.heap.size + 1, 0, none⟩) (by simp) _) (by decide) (by decide) 0 _
    have g4 : Below w.heap.size w ((W.setCell ⟨w.heap.size + 1, 0, none⟩ (.slice A xss.length c)).setCell ⟨w.heap.size + 2, 0, none⟩ (.int .i64 0)) := (i5.setCell (by simp) _).setCell (by simp) _
    have g5 : ((W.setCell ⟨w.heap.size + 1, 0, none⟩ (.slice A xss.length c)).setCell ⟨w.heap.size + 2, 0, none⟩ (.int .i64 0)).heap[w2.heap.size]? = some (.deferred (some [])) :=
      (Below.heap_setCell _ _ _ _ (by simp; omega)).trans ((Below.heap_setCell _ _ _ _ (by simp; omega)).trans hD)
    have g6 : ∀ k, rowBlock A vs k → k ≠ w2.heap.size := fun k hk e => hnD (e ▸ i4 k hk)
    obtain ⟨Wf, hWf⟩ : ∃ Wf, (W.setCell ⟨w.heap.size + 1, 0, none⟩ (.slice A xss.length c)).setCell ⟨w.heap.size + 2, 0, none⟩ (.int .i64 0) = Wf := ⟨_, rfl⟩
    rw [hWf] at g1 g2 g3 g4 g5
    have p1 := Only.put_one Wf w2.heap.size (.deferred none)
    have p2 := (g1.only p1 (by omega)).cell 0
    have p3 := (g2.only p1 (by omega)).cell 0
    rw [show w.heap.size + 1 + 1 = w.heap.size + 2 from rfl, hWf]
    refine end_mark (v := .tuple #[.slice A xss.length c, .int .i64 0]) g5 (by simp [results, Tryz.results45, go_sem, p2, p3]) ⟨A, c, vs, rfl, g3.kept fun k hk => p1.block k (g3.lt hk).2 (g6 k hk), g4.trans (p1.below (fun k hk e => by omega) g4.size)⟩
end Go.Proofs.YtghigdcpinengaaGreat

/-! ref19.Top: the maximal stable configuration. -/
namespace Go.Proofs.YtghigdcpinengaaGreat
open Go.RowKit

end Go.Proofs.YtghigdcpinengaaGreat

/-! Package recurrent: Minimal. -/
namespace Go.Proofs.YtghigdcpinengaaGreat
open Go.RowKit

end Go.Proofs.YtghigdcpinengaaGreat

/-! Plain: the recurrent configurations are those below the maximal stable one with the property; they are few. -/
namespace Go.Proofs.YtghigdcpinengaaGreat
open Go.RowKit

theorem bel_len {top : List Int} (v : Nat) : (belL top (v + 1)).length = (belL top v).length * (top.getD v 0 + 1).toNat := by
  rw [belL, List.length_flatMap]
  have : ∀ l : List (List Int), (l.map fun p => ((List.range (top.getD v 0 + 1).toNat).map fun k : Nat => p ++ [(k : Int)]).length).sum = l.length * (top.getD v 0 + 1).toNat := by
    intro l
    induction l with
    | nil => simp
    | cons a l ih => rw [List.map_cons, List.sum_cons, ih, List.length_map, List.length_range, List.length_cons, Nat.add_mul]; omega
  exact this _
theorem bel_few {top : List Int} {q K : Nat} (hK : ∀ v, v ≠ q → top.getD v 0 + 1 ≤ K) (hq : top.getD q 0 = 0) : ∀ v, (belL top v).length * (if q < v then K else 1) ≤ K ^ v
  | 0 => by simp [belL]
  | v + 1 => by
    have ih := bel_few hK hq v
    rw [bel_len, Nat.pow_succ]
    by_cases h : v = q
    · subst h
      rw [if_neg (Nat.lt_irrefl _), Nat.mul_one] at ih
      rw [if_pos (Nat.lt_succ_self _), hq]
      have : ((0 : Int) + 1).toNat = 1 := rfl
      rw [this, Nat.mul_one]
      exact Nat.mul_le_mul_right K ih
    · have h1 := hK v h
      have h2 : (top.getD v 0 + 1).toNat ≤ K := by omega
      have h3 : (if q < v + 1 then K else 1) = if q < v then K else 1 := by
        by_cases h4 : q < v
        · rw [if_pos h4, if_pos (by omega)]
        · rw [if_neg h4, if_neg (by omega)]
      rw [h3, Nat.mul_right_comm]
      exact Nat.mul_le_mul ih h2
section
variable {n q : Nat} {es : List E3}
end
end Go.Proofs.YtghigdcpinengaaGreat

/-! recurrent.Dual; ref24.Turned, Dual: the dual of a stable configuration. -/
namespace Go.Proofs.YtghigdcpinengaaGreat
open Go.RowKit

/-- A list less another one, as far as k. -/
def trnTo (n : Nat) (top cs : List Int) (k : Nat) : List Int := (List.range n).map fun v : Nat => if v < k then top.getD v 0 - cs.getD v 0 else top.getD v 0
theorem trnTo_length (n : Nat) (top cs : List Int) (k : Nat) : (trnTo n top cs k).length = n := by simp [trnTo]
theorem trnTo_zero {n : Nat} {top : List Int} (cs : List Int) (h : top.length = n) : trnTo n top cs 0 = top := by
  apply List.ext_getElem?
  intro i
  unfold trnTo
  by_cases hi : i < n
  · simp [hi, h]
  · simp [hi, h]
theorem trnTo_at {n v : Nat} {top cs : List Int} (hv : v < n) {x : Int} (hx : top[v]? = some x) : (trnTo n top cs v)[v]? = some x := by
  unfold trnTo
  simp [hv, hx]
theorem trnTo_succ {n k : Nat} {top cs : List Int} {x y : Int} (hx : top[k]? = some x) (hy : cs[k]? = some y) : trnTo n top cs (k + 1) = (trnTo n top cs k).set k (x - y) := by
  apply List.ext_getElem?
  intro i
  unfold trnTo
  by_cases hi : i < n
  · by_cases h : i = k
    · subst h
      rw [List.getElem?_set_self (by simpa using hi)]
      simp [hi, hx, hy]
    · rw [List.getElem?_set_ne (fun e => h e.symm)]
      simp only [List.getElem?_map, List.getElem?_range hi, Option.map_some]
      by_cases h2 : i < k
      · rw [if_pos h2, if_pos (by omega)]
      · rw [if_neg h2, if_neg (by omega)]
  · rw [List.getElem?_eq_none (by simp; omega), List.getElem?_eq_none (by simp; omega)]
theorem trn_dul {n q : Nat} {es : List E3} {cs : List Int} (hok : ∀ e ∈ es, okE n e) (h0 : cs.getD q 0 = 0) : trnTo n (maxL n es q) cs n = dulL n es cs q := by
  unfold trnTo dulL dulTo
  apply List.map_congr_left
  intro v hv
  have hv := List.mem_range.1 hv
  rw [if_pos hv, maxL_get hok hv]
  by_cases h : v = q
  · rw [if_pos h, if_neg (fun e => e.2 h), h, h0]; rfl
  · rw [if_neg h, if_pos ⟨hv, h⟩]
theorem maxL_bd {n q : Nat} {es : List E3} (hlen : es.length ≤ 10000) (hok : ∀ e ∈ es, okE n e) : ∀ x ∈ maxL n es q, -1 ≤ x ∧ x ≤ 1000000 := fun x hx => by
  obtain ⟨i, hi⟩ := List.getElem?_of_mem hx
  have hin : i < n := by have := (List.getElem?_eq_some_iff.1 hi).1; rw [maxL_length] at this; exact this
  have h1 := maxL_get (q := q) hok hin
  rw [getD_at hi] at h1
  have h2 := valE_bd hok i
  rw [h1]
  split <;> omega

end Go.Proofs.YtghigdcpinengaaGreat

/-! Package recurrent: All and Minimal, with errors. -/
namespace Go.Proofs.YtghigdcpinengaaGreat
open Go.RowKit Go.Shelf

theorem RowsR.nil_ (w : World) (B : Nat) : RowsR w B none [] := ⟨[], Reads.nil_, fun i xs h => by cases h⟩
end Go.Proofs.YtghigdcpinengaaGreat

