/-
  Texts of this claim, put together: Sorted.
-/
import Derived.Test.YtplgbapbgcipdaaGreatK44
import Derived.Test.YtplgbapbgcipdaaGreatK14
/-! orientation.sorted: vertices without waiting heads, one by one. -/
namespace Go.Proofs.YtplgbapbgcipdaaGreat
open Go.RowKit Go.Shelf
attribute [local go_sem] Oper.semAt_some

/-- The heads of v's arrows wait once less. -/
def decS (v : Int) (w : List Int) (x : Nat × Nat) : List Int := if (x.1 : Int) = v then w.set x.2 (w.getD x.2 0 - 1) else w
def decL (l : List (Nat × Nat)) (v : Int) (w : List Int) : List Int := l.foldl (decS v) w
theorem decS_length {v : Int} {w : List Int} {x : Nat × Nat} : (decS v w x).length = w.length := by unfold decS; split <;> simp
theorem decL_length {l : List (Nat × Nat)} {v : Int} : ∀ {w : List Int}, (decL l v w).length = w.length := by
  induction l with
  | nil => intro w; rfl
  | cons x l ih => intro w; show (decL l v (decS v w x)).length = _; rw [ih, decS_length]
theorem decL_snoc {l : List (Nat × Nat)} {v : Int} {w : List Int} {x : Nat × Nat} : decL (l ++ [x]) v w = decS v (decL l v w) x := by simp [decL, List.foldl_append]
/-- Whether all vertices come up. -/
def kahn (l : List (Nat × Nat)) : Nat → List Int → Bool
  | 0, _ => true
  | k + 1, w => if idxGo w 0 0 < 0 then false else kahn l k (decL l (idxGo w 0 0) (w.set (idxGo w 0 0).toNat (-1)))
/-- What stands at the head of a round; S: all of it lies below. -/
structure KW (W : World) (S bw g pb n : Nat) (GA : Array Value) (waits : List Int) (Ax : Option Addr) (cx : Nat) (ol : List Int) (ds : List Deferred) : Prop where
  wl : waits.length = n
  wb : Blk W g 3 (intCells waits)
  ps : Blk W pb 25 #[.slice (some ⟨g, 0, none⟩) n n]
  gr : Blk W bw 24 GA
  oo : OwnI W (pb + 1) Ax cx ol
  ob : ∀ k, blockOf Ax k → k < S
  mks : MarksAt ds W
  md : ∀ D, ({ target := .collected D, args := #[] } : Deferred) ∈ ds → pb < D ∧ D < S
  hg : g < pb
  hb : bw < pb
  hS : pb < S ∧ S ≤ W.heap.size
section
variable {W W' : World} {S bw g pb n : Nat} {GA : Array Value} {waits waits' : List Int} {Ax : Option Addr} {cx : Nat} {ol : List Int} {ds : List Deferred}
theorem KW.keep (h : KW W S bw g pb n GA waits Ax cx ol ds) (hk : ∀ k, k < S → k ≠ g → W'.heap[k]? = W.heap[k]?) (hs : W.heap.size ≤ W'.heap.size) (hw : Blk W' g 3 (intCells waits')) (hl : waits'.length = n) : KW W' S bw g pb n GA waits' Ax cx ol ds := by
  have hS := h.hS
  have hgp := h.hg
  have hbp := h.hb
  have hbg : bw ≠ g := fun e => by subst e; exact absurd rfl (h.gr.ne_ h.wb (by decide))
  exact ⟨hl, hw, (hk pb (by omega) (by omega)).trans h.ps, (hk bw (by omega) hbg).trans h.gr, own_kept h.oo (fun k hk' => hk k (h.ob k hk') (by have := (own_lt h.oo hk').1; omega)), h.ob,
    h.mks.keep (fun D hD => hk D (h.md D hD).2 (by have := (h.md D hD).1; omega)), h.md, h.hg, h.hb, hS.1, by omega⟩
theorem KW.next (h : KW W S bw g pb n GA waits Ax cx ol ds) (hb : Below W.heap.size W W') : KW W' S bw g pb n GA waits Ax cx ol ds :=
  h.keep (fun k hk _ => hb.block k (Nat.lt_of_lt_of_le hk h.hS.2)) hb.size (h.wb.next hb) h.wl
theorem KW.raise {S' : Nat} (h : KW W S bw g pb n GA waits Ax cx ol ds) (h1 : S ≤ S') (h2 : S' ≤ W.heap.size) : KW W S' bw g pb n GA waits Ax cx ol ds :=
  ⟨h.wl, h.wb, h.ps, h.gr, h.oo, fun k hk => Nat.lt_of_lt_of_le (h.ob k hk) h1, h.mks, fun D hD => ⟨(h.md D hD).1, Nat.lt_of_lt_of_le (h.md D hD).2 h1⟩, h.hg, h.hb, Nat.lt_of_lt_of_le h.hS.1 h1, h2⟩
theorem MarksAt.mem {ds : List Deferred} {W : World} (h : MarksAt ds W) {D : Nat} (hD : ({ target := .collected D, args := #[] } : Deferred) ∈ ds) : W.heap[D]? = some (.deferred (some [])) := by
  induction ds with
  | nil => cases hD
  | cons d ds ih =>
    obtain ⟨D', hd, hD', _, hr⟩ := h
    rcases List.mem_cons.1 hD with e | e
    · rw [hd] at e
      injection e with e
      injection e with e
      subst e
      exact hD'
    · exact ih hr e
theorem KW.push (h : KW W S bw g pb n GA waits Ax cx ol ds) {A6 : Option Addr} {c6 : Nat} {v : Int} (hown : W'.ownsRow (pb + 1) 3 1 (.slice A6 (ol.length + 1) c6) (ol.length + 1) (ints ol ++ [.int .i64 v])) (hg : W.grownBy W' (Value.slice Ax ol.length cx).ownBlock) : KW W' W'.heap.size bw g pb n GA waits A6 c6 (ol ++ [v]) ds := by
  have hS := h.hS
  have hgp := h.hg
  have hbp := h.hb
  have ne : ∀ k, (∀ j, blockOf Ax j → k ≠ j) → some k ≠ (Value.slice Ax ol.length cx).ownBlock := fun k hk e => hk k (blockOf_own.1 e.symm) rfl
  have lo : ∀ j, blockOf Ax j → pb + 1 ≤ j := fun j hj => (own_lt h.oo hj).1
  have o6 : OwnI W' (pb + 1) A6 c6 (ol ++ [v]) := by unfold OwnI; rw [List.length_append, ints_snoc]; exact hown
  refine ⟨h.wl, h.wb.grown hg (ne g fun j hj e => by have := lo j hj; omega), h.ps.grown hg (ne pb fun j hj e => by have := lo j hj; omega), h.gr.grown hg (ne bw fun j hj e => by have := lo j hj; omega), o6, fun k hk => (own_lt o6 hk).2, h.mks.keep fun D hD => ?_, fun D hD => ⟨(h.md D hD).1, by have := (h.md D hD).2; have := hg.size; omega⟩, h.hg, h.hb, by have := hg.size; omega, Nat.le_refl _⟩
  refine hg.block D (by have := (h.md D hD).2; omega) (ne D fun j hj e => ?_)
  subst e
  obtain ⟨cs, hcs⟩ := own_type h.oo hj
  have h1 := h.mks.mem hD
  have h2 : W.heap[D]? = some (.cells cs 3) := hcs
  rw [h1] at h2
  cases h2
end
theorem idxGo_lt {xs : List Int} {v : Int} (h : ¬ idxGo xs v 0 < 0) : ∃ k : Nat, idxGo xs v 0 = k ∧ k < xs.length := by
  suffices H : ∀ (xs : List Int) (i : Nat), ¬ idxGo xs v i < 0 → ∃ k : Nat, idxGo xs v i = k ∧ i ≤ k ∧ k < i + xs.length by
    obtain ⟨k, h1, _, h3⟩ := H xs 0 h
    exact ⟨k, h1, by omega⟩
  intro xs
  induction xs with
  | nil => intro i h; simp [idxGo] at h
  | cons x xs ih =>
    intro i h
    unfold idxGo at h ⊢
    by_cases hx : x = v
    · rw [if_pos hx]; exact ⟨i, rfl, Nat.le_refl _, by simp⟩
    · rw [if_neg hx] at h ⊢
      obtain ⟨k, h1, h2, h3⟩ := ih (i + 1) h
      exact ⟨k, h1, by omega, by simp; omega⟩
set_option maxRecDepth 100000 in
set_option maxHeartbeats 8000000 in
theorem osorted_any (n : Nat) (A : Option Addr) (c : Nat) (es : List E3) (hn : es.length ≤ 10000) (hz : checkG n es = 0) (O : List Bool) (hO : O.length = (endsL es).length) (hmx : (endsL es).length ≤ 1000000) (Ao : Option Addr) (co : Nat) (w : World)
    (h : Reads w w.heap.size 3 A es.length (edgeCells es)) (h' : Reads w w.heap.size 1 Ao O.length (boolCells O)) :
    Calls Tryz.prog 61 #[.agg #[.int .i64 n, .slice A es.length c], .slice Ao O.length co] w fun e w' => ∃ (Ax : Option Addr) (lx cx : Nat), e = .returned (.tuple #[.slice Ax lx cx, .bool (kahn (arrL (endsL es) O) n (incL n (arrL (endsL es) O)))]) ∧ Below w.heap.size w w' := by
  have hG := right_of hz
  have hn12 : n ≤ 12 := by have := hG.hi; omega
  have IC := Lib.hid (fun (W : World) (hB : Below w.heap.size w W) => indegrees_any n A c es hn hz O hO hmx Ao co W ((h.below hB).more hB.size) ((h'.below hB).more hB.size))
  have HAI := Lib.hid (fun bg bo (W0 : World) (hB : Below w.heap.size w W0) h1 h2 => arrows_iter n A c es hn hz O hO hmx Ao co bg bo W0 h1 h2 ((h.below hB).more hB.size) ((h'.below hB).more hB.size))
  have HBD := Lib.hid (arr_bd (O := O) (bd_ends hG))
  have HLL := Lib.hid (arrL_length hO)
  have HMX := Lib.hid hmx
  have HA : Hid (0 < es.length → ∀ k, blockOf A k → k < w.heap.size) := fun hx k ⟨a, ha, hk⟩ => by
    obtain ⟨b, off, e, hb, _⟩ := h.2 hx
    rw [e] at ha; injection ha with ha; subst ha; subst hk; exact hb
  have HAo : Hid (0 < O.length → ∀ k, blockOf Ao k → k < w.heap.size) := fun hx k ⟨a, ha, hk⟩ => by
    obtain ⟨b, off, e, hb, _⟩ := h'.2 hx
    rw [e] at ha; injection ha with ha; subst ha; subst hk; exact hb
  have g0 := (Blk.new w 24 #[.int .i64 n, .slice A es.length c])
  have B0 : Below w.heap.size w (w.alloc (.cells #[.int .i64 n, .slice A es.length c] 24)) := (Below.refl _ _).alloc (Nat.le_refl _) _
  have c0 := g0.cell 0
  have c1 := g0.cell 1
  obtain ⟨l, hl⟩ : ∃ l, arrL (endsL es) O = l := ⟨_, rfl⟩
  rw [hl] at IC HAI HBD HLL ⊢
  clear hG hO hz hmx hl
  refine (callsIn_wide (n := 3)).1 ?_
  refine callsIn_of_wp_marks Tryz.func61 rfl trivial ?_
  simp only [Tryz.ntmps61, List.size_toArray, List.length_cons, List.length_nil, Nat.reduceAdd, Nat.reduceSub, Array.replicate_succ, Array.replicate_zero, List.push_toArray, List.append_toArray, List.nil_append, List.cons_append]
  gi_wp2_with fail
  refine ⟨trivial, ?_⟩
  gi_at_call 100
  refine (inW (IC.out _ B0)).mono ?_
  rintro e w1 ⟨g, rfl, hg, hb, hb1⟩
  have hB1 := B0.trans (hb1.mono B0.size)
  have g1 := g0.next hb1
  have G2 := g1.alloc (.cells #[.slice (some ⟨g, 0, none⟩) n n] 25)
  have W2 := hb.alloc (.cells #[.slice (some ⟨g, 0, none⟩) n n] 25)
  have P2 := Blk.new w1 25 #[.slice (some ⟨g, 0, none⟩) n n]
  have hB2 := hB1.alloc hB1.size (.cells #[.slice (some ⟨g, 0, none⟩) n n] 25)
  have c0 := G2.cell 0
  have c1 := G2.cell 1
  have HGL : Hid (g < w1.heap.size) := hb.lt
  have HGlo : Hid (w.heap.size ≤ g) := by have h1 := hg; simp at h1; show w.heap.size ≤ g; omega
  have HWL : Hid (w.heap.size < w1.heap.size) := g1.lt
  clear g0 g1 hb1 hb B0
  gi_wp2_with fail
  have hgw : g < w1.heap.size := HGL.out
  have hsw := hB1.size
  have hww : w.heap.size < w1.heap.size := HWL.out
  have HB0 : Hid (∀ x ∈ incL n l, -(((0 : Nat) : Int) * 1000001) ≤ x ∧ x ≤ 1000000) := by
    intro x hx
    obtain ⟨v, hv⟩ := List.getElem?_of_mem hx
    have hvn : v < n := by have := (List.getElem?_eq_some_iff.1 hv).1; rw [incL_length] at this; exact this
    rw [incL_at hvn] at hv
    injection hv with hv
    have h1 : l.countP (fun y => decide (y.2 = v)) ≤ l.length := List.countP_le_length
    have := HLL.out
    have := HMX.out
    omega
  have HKW : Hid (KW (w1.alloc (.cells #[.slice (some ⟨g, 0, none⟩) n n] 25)) (w1.alloc (.cells #[.slice (some ⟨g, 0, none⟩) n n] 25)).heap.size w.heap.size g w1.heap.size n #[.int .i64 n, .slice A es.length c] (incL n l) none 0 [] []) :=
    ⟨incL_length, W2, P2, G2, OwnI.nil_ _ _, (fun k hk => by obtain ⟨a, ha, _⟩ := hk; cases ha), trivial, (fun D hD => by cases hD), hgw, hww, by simp, Nat.le_refl _⟩
  clear W2 P2 G2 c0 c1
  refine wpIn_loop (fun a' W => ∃ (k : Nat) (waits ol : List Int) (Ax : Option Addr) (cx : Nat) (ds : List Deferred) (u8 u17 u18 u19 u20 u21 u22 u23 u24 u25 u26 u27 u28 u29 u30 u31 u43 : Value), k ≤ n ∧ Hid (KW W W.heap.size w.heap.size g w1.heap.size n #[.int .i64 n, .slice A es.length c] waits Ax cx ol ds) ∧ Hid (ol.length = k) ∧ Hid (kahn l n (incL n l) = kahn l (n - k) waits) ∧ Hid (∀ x ∈ waits, -((k : Int) * 1000001) ≤ x ∧ x ≤ 1000000) ∧ Hid (Below w.heap.size w W) ∧ Hid (w1.heap.size < W.heap.size) ∧ a' = { tmps := #[.agg #[.int .i64 n, .slice A es.length c], .slice Ao O.length co, .pointer (some ⟨w.heap.size, 0, none⟩), undef, .slice none 0 0, .bool false, .pointer (some ⟨w1.heap.size, 0, none⟩), .slice Ax k cx, u8, undef, undef, .agg #[.int .i64 n, .slice A es.length c], .slice Ao O.length co, .slice (some ⟨g, 0, none⟩) n n, .pointer (some ⟨w.heap.size, 0, none⟩), .int .i64 n, .int .i64 k, u17, u18, u19, u20, u21, u22, u23, u24, u25, u26, u27, u28, u29, u30, u31, undef, undef, undef, undef, undef, undef, undef, undef, undef, undef, undef, u43, undef], defers := ds }) (fun a' _ => n - (intOf (a'.tmps.getD 16 undef)).toNat) ?start ?round
  case start => exact ⟨0, incL n l, [], none, 0, [], undef, undef, undef, undef, undef, undef, undef, undef, undef, undef, undef, undef, undef, undef, undef, undef, undef, by omega, HKW.out, rfl, by rw [Hid, Nat.sub_zero], HB0.out, hB2, by show w1.heap.size < _; simp, rfl⟩
  case round =>
    rintro a' wo ⟨k, waits, ol, Ax, cx, ds, u8, u17, u18, u19, u20, u21, u22, u23, u24, u25, u26, u27, u28, u29, u30, u31, u43, hk, HK, HOL, HKA, HWB, HBw, HSZ, rfl⟩
    clear HKW HB0 hB2
    have hszw := HBw.out.size
    have hszp : w1.heap.size < wo.heap.size := HSZ.out
    by_cases hlt : k < n
    · have hki : (k : Int) < (n : Int) := by omega
      have cp := HK.out.ps.cell 0
      have rd : Reads wo wo.heap.size 1 (some ⟨g, 0, none⟩) waits.length (ints waits) := by
        have := HK.out.wb
        exact ⟨by simp [ints], fun _ => ⟨g, 0, rfl, this.lt, fun j u hj => by rw [Nat.zero_add]; refine (this.cell j).trans ?_; simpa [intCells] using hj⟩⟩
      have XC := index_any29 (some ⟨g, 0, none⟩) n waits 0 (by rw [HK.out.wl]; omega) wo rd
      rw [HK.out.wl] at XC
      replace XC := Lib.hid XC
      clear rd
      gi_wp2_with fail
      refine ⟨trivial, ?_⟩
      gi_at_call 101
      refine (inW (XC.out)).mono ?_
      rintro e w2 ⟨rfl, rfl⟩
      obtain ⟨r, hr⟩ : ∃ r, idxGo waits 0 0 = r := ⟨_, rfl⟩
      rw [hr]
      have V3 := Blk.new wo 3 #[.int .i64 r]
      have K3 := HK.out.next ((Below.refl _ _).alloc (Nat.le_refl _) (.cells #[.int .i64 r] 3))
      have B3 := HBw.out.alloc hszw (.cells #[.int .i64 r] 3)
      have hs3 : (wo.alloc (.cells #[.int .i64 r] 3)).heap.size = wo.heap.size + 1 := by simp
      have cv := V3.cell 0
      by_cases hr0 : r < 0
      · have HKF : Hid (kahn l n (incL n l) = false) := by
          rw [HKA.out, Hid]
          obtain ⟨j, hj⟩ : ∃ j, n - k = j + 1 := ⟨n - k - 1, by omega⟩
          rw [hj]
          unfold kahn
          rw [hr, if_pos hr0]
        gi_wp2
        refine end_marks ds _ K3.mks fun w' ho => ⟨.tuple #[.slice none 0 0, .bool false], by simp [results, Tryz.results61, go_sem], none, 0, 0, by rw [HKF.out], B3.trans (ho.below (fun q hq hD => by have := (K3.md q hD).1; omega) B3.size)⟩
      · obtain ⟨v, hv, hvl⟩ := idxGo_lt (xs := waits) (v := 0) (by rw [hr]; exact hr0)
        have HIX0 := Lib.hid hr
        rw [hr] at hv
        subst hv
        have HIX : Hid (idxGo waits 0 0 = (v : Int)) := HIX0.out
        rw [HK.out.wl] at hvl
        have hvi : (v : Int) < (n : Int) := by omega
        have hv0 : ¬ (v : Int) < 0 := by omega
        have OX : ((wo.alloc (.cells #[.int .i64 (v : Int)] 3)).alloc (.cells #[.int .i64 (v : Int)] 3)).ownsRow (w1.heap.size + 1) 3 1 (.slice Ax k cx) k (ints ol) := by
          have := (K3.oo.alloc (.cells #[.int .i64 (v : Int)] 3)); unfold OwnI at this; rw [HOL.out] at this; exact this
        have K4 := K3.next ((Below.refl _ _).alloc (Nat.le_refl _) (.cells #[.int .i64 (v : Int)] 3))
        have V4 := V3.alloc (.cells #[.int .i64 (v : Int)] 3)
        have B4 := B3.alloc B3.size (.cells #[.int .i64 (v : Int)] 3)
        have hlo3 : w1.heap.size + 1 ≤ (wo.alloc (.cells #[.int .i64 (v : Int)] 3)).heap.size := by omega
        have HAB := Lib.hid HK.out.ob
        have K3 := Lib.hid K3
        have RB := Reads.box (wo.alloc (.cells #[.int .i64 (v : Int)] 3)) (.int .i64 (v : Int)) 3
        rw [hs3] at RB
        clear V3
        gi_wp2_with (gi_at_builtin; refine append_gi rfl (.tmp 22) (.tmp 24) _ rfl (w1.heap.size + 1) 3 Tryz.underlying25 info_int rfl (by omega) Ax cx k (ints ol) rfl OX _ [.int .i64 (v : Int)] rfl RB (by simp [Value.oneCell']) (by omega) (by first | (simp; omega) | (simp; done)) ?_; intro A6 c6 w6 hown6 hg6 hb6 hw6; have K6 := K4.push (A6 := A6) (c6 := c6) (v := (v : Int)) (by rw [HOL.out]; exact hown6) (by rw [HOL.out]; exact hg6); have V6 := V4.grown hg6 (fun e => by have := HAB.out _ (blockOf_own.1 e.symm); omega); have B6 := B4.trans (hb6.mono (by omega)); have d0 := K6.ps.cell 0; have d1 := V6.cell 0; obtain ⟨xv, hxv⟩ := get_of_lt (xs := waits) (k := v) (by rw [K6.wl]; exact hvl); have d2 := (K6.wb.cell v).trans (intCells_at hxv); have d3 := K6.wb.frozen v; have G7 := K6.gr.far (p := ⟨g, v, none⟩) (K6.gr.ne_ K6.wb (by decide)) (.int .i64 (-1)); have d4 := G7.cell 0; have d5 := G7.cell 1)
        have hgne : w.heap.size ≠ g := K6.gr.ne_ K6.wb (by decide)
        have hgb6 : g < w6.heap.size := K6.wb.lt
        obtain ⟨w7, hw7⟩ : ∃ w7, w6.setCell ⟨g, v, none⟩ (.int .i64 (-1)) = w7 := ⟨_, rfl⟩
        have hs7 : w7.heap.size = w6.heap.size := by rw [← hw7]; simp [World.setCell]
        have K7 : KW w7 w6.heap.size w.heap.size g w1.heap.size n #[.int .i64 n, .slice A es.length c] (waits.set v (-1)) A6 c6 (ol ++ [(v : Int)]) ds := by
          rw [← hw7]
          refine K6.keep (fun q hq hne => Below.heap_setCell _ _ _ _ hne) (by simp [World.setCell]) ?_ (by rw [List.length_set]; exact K6.wl)
          rw [← intCells_set]
          exact K6.wb.set_ v _
        have V7 : Blk w7 wo.heap.size 3 #[.int .i64 (v : Int)] := by rw [← hw7]; exact V6.far (by show wo.heap.size ≠ g; omega) _
        have B7 : Below w.heap.size w w7 := by rw [← hw7]; exact B6.setCell (by show w.heap.size ≤ g; exact HGlo.out) _
        have hwb : Hid (∀ x ∈ waits.set v (-1), -((k : Int) * 1000001 + 1) ≤ x ∧ x ≤ 1000000) := by
          intro x hx
          rcases List.mem_or_eq_of_mem_set hx with hx | rfl
          · have := HWB.out x hx; omega
          · omega
        rw [hw7]
        clear hw7 K6 V6 B6 d0 d1 d2 d3 d4 d5 G7 hxv K4 V4 B4 RB OX hown6 hg6 hb6 hw6
        refine ⟨trivial, ?_⟩
        gi_at_call 102
        refine (inW (arrows_any n A es.length c Ao O.length co w7)).mono ?_
        rintro e w8 ⟨rfl, hw8⟩
        have hs8 : w8.heap.size = w7.heap.size + 2 := by rw [← hw8]; simp
        have q1 : Blk w8 w7.heap.size 24 #[.int .i64 n, .slice A es.length c] := by rw [← hw8]; exact (Blk.new w7 _ _).alloc _
        have q2 : Blk w8 (w7.heap.size + 1) 93 #[.slice Ao O.length co] := by rw [← hw8]; exact Blk.new_at (by simp)
        have b78 : Below w7.heap.size w7 w8 := by rw [← hw8]; exact ((Below.refl _ _).alloc (Nat.le_refl _) _).alloc (by simp) _
        have K8 := K7.next b78
        have V8 := V7.next b78
        have B8 := B7.trans (b78.mono B7.size)
        have hg0 := HGlo.out
        have hb7 := B7.size
        have hvo : wo.heap.size < w7.heap.size := V7.lt
        have HS8 := Lib.hid hs8
        have HS7 := Lib.hid hs7
        have HVO := Lib.hid hvo
        clear hw8 b78 K7 V7 B7
        rw [hs7] at hs8 hvo hb7
        have HITER := HAI.out w7.heap.size (w7.heap.size + 1) w8 B8 q1 q2
        clear q1 q2
        gi_wp2_with fail
        refine range_outer (n := 3) (gf := 130) (lb := #[.pointer (some ⟨w7.heap.size, 0, none⟩), .pointer (some ⟨w7.heap.size + 1, 0, none⟩)]) (by first | rfl | (rw [HS7.out]; rfl)) (enters_of Tryz.func130 (by kernel_rfl) rfl)
          HITER ?hK (fun q => q = g) ?hC
          (fun pre C W => C g ∧ (∀ q, C q → q = g) ∧ KW W w6.heap.size w.heap.size g w1.heap.size n #[.int .i64 n, .slice A es.length c] (decL pre v (waits.set v (-1))) A6 c6 (ol ++ [(v : Int)]) ds ∧ Blk W wo.heap.size 3 #[.int .i64 (v : Int)] ∧ Below w.heap.size w W ∧ w8.heap.size ≤ W.heap.size ∧ ∀ x ∈ decL pre v (waits.set v (-1)), -((k : Int) * 1000001 + 1 + pre.length) ≤ x ∧ x ≤ 1000000)
          (fun _ _ _ _ => False) ?hI (fun _ _ _ _ _ h _ => h) ?h0 ?hps ?round ?done (fun _ _ _ _ _ h => h.elim)
        case hK =>
          have e8 := HS8.out
          have e7 := HS7.out
          rintro q (rfl | rfl | ⟨hp, hq⟩ | ⟨hp, hq⟩)
          · omega
          · omega
          · have := HA.out hp q hq; omega
          · have := HAo.out hp q hq; omega
        case hC =>
          have e8 := HS8.out
          have e7 := HS7.out
          rintro q rfl
          refine ⟨by omega, ?_⟩
          rintro (e | e | ⟨hp, e⟩ | ⟨hp, e⟩)
          · omega
          · omega
          · have := HA.out hp _ e; omega
          · have := HAo.out hp _ e; omega
        case hI =>
          have e8 := HS8.out
          have e7 := HS7.out
          have eV := HVO.out
          rintro pre C a b ⟨i1, i2, i3, i4, i5, i6, i7⟩ hst
          exact ⟨i1, i2, i3.keep (fun q hq _ => hst.block q (by have := i3.hS.2; omega) (.inr ⟨by omega, fun h => h⟩)) hst.size (i3.wb.stays hst (.inl i1)) i3.wl, i4.stays hst (.inr ⟨by omega, fun h => h⟩), i5.trans (hst.below (fun q hq => .inr ⟨by omega, fun h => h⟩) i5.size), Nat.le_trans i6 hst.size, i7⟩
        case h0 => exact ⟨rfl, fun q hq => hq, K8, V8, B8, Nat.le_refl _, fun x hx => by have := hwb.out x hx; simp; omega⟩
        case hps => intro x' args Ob W' (ha : args = _); subst ha; rfl
        case round =>
          rintro lp pre ⟨t, hd⟩ args C Ob W hpre hI hlp hC hOb harg hlW hnC hnO T hT
          obtain ⟨i1, i2, i3, i4, i5, i6, i7⟩ := hI
          obtain rfl : args = #[.int .i64 (t : Int), .int .i64 (hd : Int)] := harg
          have hmem : (t, hd) ∈ l := by
            obtain ⟨z, hz⟩ := hpre
            rw [← hz]; simp
          have hhd := (HBD.out _ hmem).2
          have hpl : pre.length < 1000000 := by
            obtain ⟨z, hz⟩ := hpre
            have := congrArg List.length hz
            have h2 := HLL.out
            have h3 := HMX.out
            simp at this
            omega
          have e8 := HS8.out
          have e7 := HS7.out
          have eV := HVO.out
          have I7 := Lib.hid i7
          clear hpre hmem i7 K8 V8 B8
          gi_wp2
          refine hT _ _ (Only.refl _ _) ?_
          intro w9 h9 _
          have hlne : lp ≠ g := fun e => hnC (e ▸ i1)
          have j3 : KW w9 w6.heap.size w.heap.size g w1.heap.size n #[.int .i64 n, .slice A es.length c] (decL pre v (waits.set v (-1))) A6 c6 (ol ++ [(v : Int)]) ds := i3.keep (fun q hq _ => h9.block q (by have := i3.hS.2; omega) (fun e => by omega)) h9.size (i3.wb.only h9 (fun e => hlne e.symm)) i3.wl
          have j4 : Blk w9 wo.heap.size 3 #[.int .i64 (v : Int)] := i4.only h9 (fun e => by omega)
          have j5 : Below w.heap.size w w9 := i5.trans (h9.below (fun q hq e => by omega) i5.size)
          have hs9 := h9.size
          have a0 := j4.cell 0
          by_cases htv : t = v
          · subst htv
            obtain ⟨x, hx⟩ := get_of_lt (xs := decL pre t (waits.set t (-1))) (k := hd) (by rw [j3.wl]; exact hhd)
            have hxb := I7.out x (List.mem_of_getElem? hx)
            have hw1 : IntKind.i64.wrap (x - 1) = x - 1 := IntWalk.i64_in _ (by omega)
            have a1 := j3.ps.cell 0
            have a2 := (j3.wb.cell hd).trans (intCells_at hx)
            have a3 := j3.wb.frozen hd
            have hhi : (hd : Int) < (n : Int) := by omega
            have HSN : Hid (decL (pre ++ [(t, hd)]) t (waits.set t (-1)) = (decL pre t (waits.set t (-1))).set hd (x - 1)) := by
              rw [Hid, decL_snoc]
              unfold decS
              rw [if_pos rfl, getD_at hx]
            have HXX := Lib.hid hx
            clear i3 i4 i5 hx
            gi_wp2
            refine ⟨C, (Only.refl _ w9).setCell (.inl (.inl i1)) _, fun q hq => .inl hq, i1, i2, ?_, j4.far (by show wo.heap.size ≠ g; omega) _, j5.setCell (by show w.heap.size ≤ g; exact hg0) _, by simp [World.setCell]; omega, ?_⟩
            · rw [HSN.out]
              refine j3.keep (fun q hq hne => Below.heap_setCell _ _ _ _ hne) (by simp [World.setCell]) ?_ (by rw [List.length_set]; exact j3.wl)
              rw [← intCells_set]
              exact j3.wb.set_ hd _
            · intro y hy
              rw [HSN.out] at hy
              rw [List.length_append]
              rcases List.mem_or_eq_of_mem_set hy with hy | rfl
              · have := I7.out y hy; simp; omega
              · simp; omega
          · have hne : ((t : Int) == (v : Int)) = false := by simp; omega
            have HSN : Hid (decL (pre ++ [(t, hd)]) v (waits.set v (-1)) = decL pre v (waits.set v (-1))) := by
              rw [Hid, decL_snoc]
              unfold decS
              rw [if_neg (by show ¬ (t : Int) = v; omega)]
            clear i3 i4 i5
            gi_wp2
            refine ⟨C, Only.refl _ w9, fun q hq => .inl hq, i1, i2, by rw [HSN.out]; exact j3, j4, j5, by omega, ?_⟩
            intro y hy
            rw [HSN.out] at hy
            have := I7.out y hy
            rw [List.length_append]
            simp; omega
        case done =>
          rintro C W ⟨i1, i2, i3, i4, i5, i6, i7⟩ hnD hD
          have e8 := HS8.out
          have e7 := HS7.out
          have hDl : w8.heap.size < W.heap.size := (Array.getElem?_eq_some_iff.1 hD).1
          have hll := HLL.out
          have hmx := HMX.out
          have h1 := i3.raise (S' := W.heap.size) (by omega) (Nat.le_refl _)
          have hm : MarksAt ({ target := .collected w8.heap.size, args := #[] } :: ds) W := ⟨w8.heap.size, rfl, hD, fun d' hd' e => by
            subst e
            have := (i3.md _ hd').2
            omega, i3.mks⟩
          have hmd : ∀ D, ({ target := .collected D, args := #[] } : Deferred) ∈ ({ target := .collected w8.heap.size, args := #[] } :: ds) → w1.heap.size < D ∧ D < W.heap.size := by
            intro D hDd
            rcases List.mem_cons.1 hDd with e | e
            · obtain rfl : D = w8.heap.size := by injection e with e; injection e
              exact ⟨by omega, hDl⟩
            · exact h1.md D e
          have HK7 : Hid (KW W W.heap.size w.heap.size g w1.heap.size n #[.int .i64 n, .slice A es.length c] (decL l v (waits.set v (-1))) A6 c6 (ol ++ [(v : Int)]) ({ target := .collected w8.heap.size, args := #[] } :: ds)) :=
            ⟨h1.wl, h1.wb, h1.ps, h1.gr, h1.oo, h1.ob, hm, hmd, h1.hg, h1.hb, h1.hS⟩
          clear hm hmd h1
          gi_wp2_with fail
          refine ⟨⟨k + 1, _, ol ++ [(v : Int)], A6, c6, _, _, _, _, _, _, _, _, _, _, _, _, _, _, _, _, _, _, by omega, HK7, by rw [Hid, List.length_append, HOL.out]; simp, ?_, ?_, i5, by show w1.heap.size < _; omega, rfl⟩, ?_⟩
          · rw [Hid, HKA.out]
            obtain ⟨j, hj⟩ : ∃ j, n - k = j + 1 := ⟨n - k - 1, by omega⟩
            rw [hj, show n - (k + 1) = j by omega]
            conv => lhs; unfold kahn
            rw [HIX.out, if_neg (by omega), Int.toNat_natCast]
          · intro x hx
            have := i7 x hx
            rw [hll] at this
            omega
          · simp [intOf]; omega
    · obtain rfl : k = n := by omega
      have hf : ¬ (k : Int) < (k : Int) := by omega
      have HKF : Hid (kahn l k (incL k l) = true) := by rw [HKA.out, Hid, Nat.sub_self]; rfl
      gi_wp2
      refine end_marks ds _ HK.out.mks fun w' ho => ⟨.tuple #[.slice Ax k cx, .bool true], by simp [results, Tryz.results61, go_sem], ⟨Ax, k, cx, by rw [HKF.out]⟩, HBw.out.trans (ho.below (fun q hq hD => by have := (HK.out.md q hD).1; omega) hszw)⟩
end Go.Proofs.YtplgbapbgcipdaaGreat

