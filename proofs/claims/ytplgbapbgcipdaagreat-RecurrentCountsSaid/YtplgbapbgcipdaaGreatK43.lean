/-
  Texts of this claim, put together: Limit, Arrow, InDeg.
-/
import Derived.Test.YtplgbapbgcipdaaGreatK11
import Derived.Test.YtplgbapbgcipdaaGreatK41
import Derived.Test.YtplgbapbgcipdaaGreatK05
import Derived.Test.YtplgbapbgcipdaaGreatK19
import Derived.Test.YtplgbapbgcipdaaGreatK12
import Derived.Test.YtplgbapbgcipdaaGreatK42
import Derived.BigQuiet
import Derived.Deep.QuietTactic
import Derived.Stop.RegionWithIn
import Derived.Sort.CutIn
import Derived.Test.YtplgbapbgcipdaaGreatK29
/-! ref08.Limited with the multiplicity 50: a right graph without its loops. -/
namespace Go.Proofs.YtplgbapbgcipdaaGreat
open Go.RowKit

theorem straight_snoc {es : List E3} {e : E3} : straightL (es ++ [e]) = if e.1 ≠ e.2.1 then straightL es ++ [e] else straightL es := by
  unfold straightL
  rw [List.filter_append]
  by_cases h : e.1 = e.2.1 <;> simp [h]
set_option maxRecDepth 100000 in
set_option maxHeartbeats 2000000 in
theorem limited_any (n : Nat) (A : Option Addr) (c : Nat) (es : List E3) (hlen : es.length ≤ 10000) (hok : ∀ e ∈ es, okE n e) (w : World) (h : Reads w w.heap.size 3 A es.length (edgeCells es)) :
    Calls Tryz.prog 29 #[.agg #[.int .i64 n, .slice A es.length c], .int .i64 50] w fun e w' => ∃ A' c', e = .returned (.agg #[.int .i64 n, .slice A' (straightL es).length c']) ∧ OwnE w' w.heap.size A' c' (straightL es) ∧ Below w.heap.size w w' := by
  obtain ⟨w0, hw0⟩ : ∃ w0, ((w.alloc (.cells #[.int .i64 n, .slice A es.length c] 24)).alloc (.cells #[.int .i64 0, .slice none 0 0] 24)) = w0 := ⟨_, rfl⟩
  have hs0 : w0.heap.size = w.heap.size + 2 := by rw [← hw0]; simp
  have hB0 : Below w.heap.size w w0 := by rw [← hw0]; exact ((Below.refl _ _).alloc (Nat.le_refl _) _).alloc (by simp) _
  have rg : Blk w0 w.heap.size 24 #[.int .i64 n, .slice A es.length c] := by rw [← hw0]; exact (Blk.new w _ _).alloc _
  have rr : Blk w0 (w.heap.size + 1) 24 #[.int .i64 0, .slice none 0 0] := by rw [← hw0]; exact Blk.new_at (by simp)
  have c0 := rg.cell 0
  have c1 := rg.cell 1
  have HOK := Lib.hid hok
  have h0 := (h.below hB0).more hB0.size
  go_enter Tryz.func29, Tryz.ntmps29
  go_wp2_with fail
  go_loopw [6] (fun i wr => ∃ (k : Nat) (A' : Option Addr) (c' : Nat), k ≤ es.length ∧ i = .int .i64 k ∧ Hid (Blk wr (w.heap.size + 2) 24 #[.int .i64 n, .slice A' (straightL (es.take k)).length c']) ∧ Hid (OwnE wr w0.heap.size A' c' (straightL (es.take k))) ∧ Hid (Below w0.heap.size w0 wr)) (fun i _ => es.length - (intOf i).toNat)
  case atStart => exact ⟨0, none, 0, by omega, rfl, Blk.new_at hs0.symm, OwnE.nil_ _ _, (Below.refl _ _).alloc (Nat.le_refl _) _⟩
  case round =>
    obtain ⟨k, A', c', hk, rfl, HG, HO, HB⟩ := hrel
    obtain ⟨wo, hwo⟩ : ∃ wo : World, wo = wr := ⟨wr, rfl⟩
    subst hwo
    have gi := rg.next HB.out
    have c0 := gi.cell 0
    have c1 := gi.cell 1
    have hsz := HB.out.size
    have i3 := (h0.next HB.out)
    by_cases hlt : k < es.length
    · obtain ⟨⟨x, y, m⟩, hx⟩ := get_of_lt hlt
      have hok := HOK.out _ (List.mem_of_getElem? hx)
      unfold okE at hok
      dsimp only at hok
      have hi : (k : Int) < (es.length : Int) := by omega
      obtain ⟨bb, off, rfl, hbb, q1, q2, q3⟩ := i3.edge hx
      dsimp only at q1 q2 q3
      have e3 := Blk.new wo 73 #[.int .i64 x, .int .i64 y, .int .i64 m]
      have P0 := e3.cell 0
      have P1 := e3.cell 1
      have P2 := e3.cell 2
      have g1 := HG.out.alloc (.cells #[.int .i64 x, .int .i64 y, .int .i64 m] 73)
      have hst := straight_snoc (es := es.take k) (e := (x, y, m))
      rw [← take_snoc hx] at hst
      dsimp only at hst
      have hl : (straightL (es.take k)).length ≤ 10000 := Nat.le_trans (List.length_filter_le _ _) (Nat.le_trans (List.length_take_le _ _) (by omega))
      obtain ⟨fs, hfs⟩ : ∃ fs, straightL (es.take k) = fs := ⟨_, rfl⟩
      rw [hfs] at HG HO hst hl g1
      have HFS := Lib.hid hfs
      have p0 := g1.cell 0
      have p1 := g1.cell 1
      clear hfs hx c0
      by_cases hxy : x = y
      · rw [if_neg (fun hc => hc hxy)] at hst
        have HST := Lib.hid hst
        subst hxy
        clear hst
        have B1 := HB.out.alloc hsz (.cells #[.int .i64 x, .int .i64 x, .int .i64 m] 73)
        go_wp2
        go_roundw
        case rel => exact ⟨k + 1, A', c', by omega, by go_num, by rw [HST.out]; exact g1, by rw [HST.out]; exact HO.out.alloc _, B1⟩
        case measure => simp [intOf]; omega
      · rw [if_pos hxy] at hst
        have HST := Lib.hid hst
        have hb : (x != y) = true := by simpa using hxy
        have hml : ¬ 50 < m := by omega
        clear hst
        have B1 := HB.out.alloc hsz (.cells #[.int .i64 x, .int .i64 y, .int .i64 m] 73)
        have O1 := Lib.hid (HO.out.alloc (.cells #[.int .i64 x, .int .i64 y, .int .i64 m] 73))
        have hs1 : (wo.alloc (.cells #[.int .i64 x, .int .i64 y, .int .i64 m] 73)).heap.size = wo.heap.size + 1 := by simp
        go_wp2_with (at_builtin; refine push_edge rfl (.tmp 29) (.tmp 39) _ rfl Tryz.underlying22 w0.heap.size A' c' fs x y m rfl O1.out rfl (by simp) (by omega) (by simp; omega) ?_; intro A3 c3 w3 hown3 hg3 hb3; have g3 := (g1.alloc _).grown hg3 (own_blk_ne O1.out g1 (by decide)); have p3 := g3.cell 1; have f3 := g3.frozen 1)
        go_roundw
        case rel =>
          refine ⟨k + 1, A3, c3, by omega, by go_num, ?_, ?_, ?_⟩
          · rw [HST.out, List.length_append]; exact g3.set_ 1 _
          · rw [HST.out]; exact hown3.set_blk g3 (by decide) 1 _
          · exact (B1.trans hb3).setCell (by show w0.heap.size ≤ w.heap.size + 2; omega) _
        case measure => simp [intOf]; omega
    · obtain rfl : k = es.length := by omega
      rw [List.take_length] at HG HO
      obtain ⟨fs, hfs⟩ : ∃ fs, straightL es = fs := ⟨_, rfl⟩
      rw [hfs] at HG HO
      have p0 := HG.out.cell 0
      have p1 := HG.out.cell 1
      have g2 := rr.next HB.out
      have r0 := g2.cell 0
      have r1 := g2.cell 1
      have f2 := g2.frozen
      have HFS := Lib.hid hfs
      clear hfs
      go_wp2
      try simp only [Exit.inBlock, Exit.then]
      try simp only [Exit.inBlock, Exit.then]
      refine bodyPost_ret (results_g rfl rfl ((g2.set_ 0 _).set_ 1 _) rfl) rfl ?_
      refine ⟨A', c', ?_, ?_, ?_⟩
      · rw [HFS.out]; rfl
      · rw [HFS.out]; exact ((HO.out.set_blk g2 (by decide) _ _).set_blk (g2.set_ 0 _) (by decide) _ _).mono (by omega)
      · exact ((hB0.trans (HB.out.mono (by omega))).setCell (by show w.heap.size ≤ w.heap.size + 1; omega) _).setCell (by show w.heap.size ≤ w.heap.size + 1; omega) _
end Go.Proofs.YtplgbapbgcipdaaGreat

/-! orientation.arrow and the iterator orientation.arrows. -/
namespace Go.Proofs.YtplgbapbgcipdaaGreat
open Go.RowKit Go.Shelf

/-- Tail and head of the arrows. -/
def arrL (E : List (Nat × Nat)) (O : List Bool) : List (Nat × Nat) := (E.zip O).map fun x => (tlA x, hdA x)
theorem arrL_at {E : List (Nat × Nat)} {O : List Bool} {k : Nat} {a b : Nat} {f : Bool} (h : E[k]? = some (a, b)) (h' : O[k]? = some f) : (arrL E O)[k]? = some (if f then a else b, if f then b else a) := by
  have hz : (E.zip O)[k]? = some ((a, b), f) := by rw [List.getElem?_zip_eq_some]; exact ⟨h, h'⟩
  unfold arrL
  rw [List.getElem?_map, hz]
  rfl
theorem arrL_length {E : List (Nat × Nat)} {O : List Bool} (h : O.length = E.length) : (arrL E O).length = E.length := by simp [arrL, h]
theorem reads_only2 {C : Nat → Prop} {w w' : World} {B n : Nat} {A : Option Addr} {xs : List Value} (h : Reads w B 2 A n xs) (ho : Only C w w') (hB : B ≤ w.heap.size) (hC : ∀ k, blockOf A k → ¬ C k) : Reads w' B 2 A n xs :=
  ⟨h.1, fun hn => by
    obtain ⟨b, off, rfl, hb, hc⟩ := h.2 hn
    exact ⟨b, off, rfl, hb, fun j u hu => (World.cell?_of_block (w := w) (ho.block b (by omega) (hC b ⟨_, rfl, rfl⟩))).trans (hc j u hu)⟩⟩
def ArgA (x : Nat × Nat) (args : Array Value) (_ : Nat → Prop) (_ : World) : Prop := args = #[.int .i64 (x.1 : Int), .int .i64 (x.2 : Int)]
set_option maxHeartbeats 1000000 in
theorem arrow_any (a b : Int) (f : Bool) (w : World) :
    Calls Tryz.prog 131 #[.agg #[.int .i64 a, .int .i64 b], .bool f] w fun e w' => e = .returned (.tuple #[.int .i64 (if f then a else b), .int .i64 (if f then b else a)]) ∧ Below w.heap.size w w' := by
  have g := Blk.new w 157 #[.int .i64 a, .int .i64 b]
  have B0 : Below w.heap.size w (w.alloc (.cells #[.int .i64 a, .int .i64 b] 157)) := (Below.refl _ _).alloc (Nat.le_refl _) _
  have c0 := g.cell 0
  have c1 := g.cell 1
  cases f
  · go_enter Tryz.func131, Tryz.ntmps131
    go_wp2
    go_quiet (fail)
    go_wp2
    go_ret2
    exact ⟨rfl, below_drewN B0 _⟩
  · go_enter Tryz.func131, Tryz.ntmps131
    go_wp2
    go_quiet (fail)
    go_wp2
    go_ret2
    exact ⟨rfl, below_drewN B0 _⟩
set_option maxHeartbeats 1000000 in
theorem arrows_any (n : Int) (A : Option Addr) (k c : Nat) (B : Option Addr) (m d : Nat) (w : World) :
    Calls Tryz.prog 102 #[.agg #[.int .i64 n, .slice A k c], .slice B m d] w fun e w' => e = .returned (.func (.func 130) #[] #[.pointer (some ⟨w.heap.size, 0, none⟩), .pointer (some ⟨w.heap.size + 1, 0, none⟩)]) ∧ (w.alloc (.cells #[.int .i64 n, .slice A k c] 24)).alloc (.cells #[.slice B m d] 93) = w' := by
  have hmf : ∀ (fn : Fn) (first cap : Array Value) (w : World), (Instr.makeFunc fn first cap).run Tryz.prog w = .ok (.func fn first cap) w := fun _ _ _ _ => rfl
  go_enter Tryz.func102, Tryz.ntmps102
  go_wp2
  go_ret
  exact ⟨rfl, rfl⟩
set_option maxRecDepth 100000 in
set_option maxHeartbeats 8000000 in
theorem arrows_iter (n : Int) (A : Option Addr) (c : Nat) (es : List E3) (hn : es.length ≤ 10000) (hz : checkG n es = 0) (O : List Bool) (hO : O.length = (endsL es).length) (hmx : (endsL es).length ≤ 1000000) (Ao : Option Addr) (co bg bo : Nat) (W0 : World)
    (h1 : Blk W0 bg 24 #[.int .i64 n, .slice A es.length c]) (h2 : Blk W0 bo 93 #[.slice Ao O.length co]) (h3 : Reads W0 W0.heap.size 3 A es.length (edgeCells es)) (h4 : Reads W0 W0.heap.size 1 Ao O.length (boolCells O)) :
    Iter Tryz.prog 130 #[.pointer (some ⟨bg, 0, none⟩), .pointer (some ⟨bo, 0, none⟩)] ArgA (fun k => k = bg ∨ k = bo ∨ (0 < es.length ∧ blockOf A k) ∨ (0 < O.length ∧ blockOf Ao k)) (fun _ => False) (arrL (endsL es) O) W0 := by
  intro l J Jx C W hL hC hJ hJx hY h0
  have hok := (right_of hz).ok
  have k1 : Blk W bg 24 #[.int .i64 n, .slice A es.length c] := (hL.block bg h1.lt (.inl rfl)).trans h1
  have k2 : Blk W bo 93 #[.slice Ao O.length co] := (hL.block bo h2.lt (.inr (.inl rfl))).trans h2
  have k3 : Reads W W.heap.size 3 A es.length (edgeCells es) := ⟨h3.1, fun hn => by
    obtain ⟨b, off, rfl, hb, hc⟩ := h3.2 hn
    exact ⟨b, off, rfl, by have := hL.size; omega, fun j u hu => (World.cell?_of_block (w := W0) (hL.block b hb (.inr (.inr (.inl ⟨hn, _, rfl, rfl⟩))))).trans (hc j u hu)⟩⟩
  have k4 : Reads W W.heap.size 1 Ao O.length (boolCells O) := ⟨h4.1, fun hn => by
    obtain ⟨b, off, rfl, hb, hc⟩ := h4.2 hn
    exact ⟨b, off, rfl, by have := hL.size; omega, fun j u hu => (World.cell?_of_block (w := W0) (hL.block b hb (.inr (.inr (.inr ⟨hn, _, rfl, rfl⟩))))).trans (hc j u hu)⟩⟩
  have EC := Lib.hid (ends_ok n A c es hn hz n hok W k3)
  obtain ⟨E, hE⟩ : ∃ E, endsL es = E := ⟨_, rfl⟩
  rw [hE] at hO EC hY hmx ⊢
  obtain ⟨m, hm⟩ : ∃ m, E.length = m := ⟨_, rfl⟩
  rw [hm] at hO EC hmx
  rw [hO] at k2 k4
  have HM := Lib.hid hm
  have HOL := Lib.hid hO
  have HC := Lib.hid hC
  have HY := Lib.hid hY
  have HJ := Lib.hid hJ
  have H0 := Lib.hid h0
  have hbo := k2.lt
  have HAo : Hid (0 < m → ∀ k, blockOf Ao k → k < W.heap.size) := fun hx k ⟨a, ha, hk⟩ => by
    obtain ⟨b, off, e, hb, _⟩ := k4.2 hx
    rw [e] at ha; injection ha with ha; subst ha; subst hk; exact hb
  have c0 := k1.cell 0
  have c1 := k1.cell 1
  clear h1 h2 h3 h4 hL hC hY hJ hJx h0 hm hO hE hz hok k3
  refine (callsIn_wide (n := 3)).1 ?_
  refine callsIn_of_wp_marks Tryz.func130 rfl trivial ?_
  simp only [Tryz.ntmps130, List.size_toArray, List.length_cons, List.length_nil, Nat.reduceAdd, Nat.reduceSub, Array.replicate_succ, Array.replicate_zero, List.push_toArray, List.append_toArray, List.nil_append, List.cons_append]
  gi_wp2_with fail
  refine ⟨trivial, ?_⟩
  gi_at_call 115
  refine (inW (EC.out)).mono ?_
  rintro e w1 ⟨Ar, cr, rfl, hQ, hb1⟩
  have hs1 := hb1.size
  have HS1 := Lib.hid hs1
  have HBO := Lib.hid hbo
  have QR : Reads w1 w1.heap.size 2 Ar m (pair2 E) := by have := OwnQ.reads hQ; rw [HM.out] at this; exact this
  have k2 := k2.next hb1
  have k4 := k4.next hb1
  have J1 := Lib.hid (HJ.out _ _ _ _ H0.out (Stays.of_new hb1))
  have HAr : Hid (∀ k, blockOf Ar k → W.heap.size ≤ k ∧ k < w1.heap.size) := fun k hk => World.ownsRow.lt hQ k (blockOf_own.2 hk)
  clear hQ hb1 c0 c1 k1 H0 EC
  gi_wp2_with fail
  gi_loopw [15] (fun v wl => ∃ (u : Nat) (C' : Nat → Prop), v = .int .i64 u ∧ u ≤ m ∧ Hid (w1.heap.size ≤ wl.heap.size) ∧ Hid (Reads wl w1.heap.size 2 Ar m (pair2 E)) ∧ Hid (Blk wl bo 93 #[.slice Ao m co]) ∧ Hid (Reads wl w1.heap.size 1 Ao m (boolCells O)) ∧
    Hid (J ((arrL E O).take u) C' wl) ∧ Hid (∀ k, C' k → k < wl.heap.size ∧ ¬ (k = bo ∨ (0 < m ∧ blockOf Ao k) ∨ blockOf Ar k))) (fun v _ => m - (intOf v).toNat)
  case atStart => exact ⟨0, C, rfl, by omega, Nat.le_refl _, QR, k2, k4, J1.out, fun k hk => by
      have h := HC.out k hk
      refine ⟨by omega, fun hc => ?_⟩
      rcases hc with hc | hc | hc
      · exact h.2 (.inr (.inl hc))
      · exact h.2 (.inr (.inr (.inr ⟨by rw [HOL.out]; exact hc.1, hc.2⟩)))
      · have := HAr.out k hc; omega⟩
  case round =>
    obtain ⟨u, C', rfl, hu, hsz, iQ, iB, iO, IJ, IC⟩ := hrel
    obtain ⟨wo, hwo⟩ : ∃ wo : World, wo = wr := ⟨wr, rfl⟩
    subst hwo
    clear k2 k4 QR
    by_cases hlt : u < m
    · have hi : (u : Int) < (m : Int) := by omega
      obtain ⟨⟨a, b⟩, hab⟩ := get_of_lt (xs := E) (k := u) (by rw [HM.out]; exact hlt)
      obtain ⟨f, hf⟩ := get_of_lt (xs := O) (k := u) (by rw [HOL.out]; exact hlt)
      have hx := arrL_at hab hf
      obtain ⟨ta, hta⟩ : ∃ ta, (if f then a else b) = ta := ⟨_, rfl⟩
      obtain ⟨he, hhe⟩ : ∃ he, (if f then b else a) = he := ⟨_, rfl⟩
      have AC : Hid (∀ w, Calls Tryz.prog 131 #[.agg #[.int .i64 (a : Int), .int .i64 (b : Int)], .bool f] w fun e w' => e = .returned (.tuple #[.int .i64 (ta : Int), .int .i64 (he : Int)]) ∧ Below w.heap.size w w') := by
        intro w
        have := arrow_any (a : Int) (b : Int) f w
        rw [← hta, ← hhe]
        cases f <;> exact this
      rw [hta, hhe] at hx
      have HTK := Lib.hid (take_snoc hx)
      have hpx : Hid ((arrL E O).take u ++ [(ta, he)] <+: arrL E O) := by rw [Hid, ← HTK.out]; exact List.take_prefix _ _
      obtain ⟨bA, oA, hA, hbA, q0, q1⟩ := iQ.out.pairAt hab
      obtain ⟨bb, ob, hA2, hbb, cb⟩ := iO.out.at_ (boolCells_at hf)
      have cB := iB.out.cell 0
      have hAl : Hid (∀ k, blockOf Ao k → k < W.heap.size) := HAo.out (by omega)
      have HArl := Lib.hid HAr.out
      subst hA
      subst hA2
      dsimp only at q0 q1
      have hszw := hsz.out
      have hbow : bo < wo.heap.size := iB.out.lt
      have hbbw : bb < wo.heap.size := by have := hAl.out bb ⟨_, rfl, rfl⟩; omega
      clear hab hf hx hta hhe
      gi_wp2_with fail
      refine wpIn_nopanic ?_
      gi_region_with (first
        | (refine ⟨trivial, ?_⟩; gi_at_call 131; refine (inW (AC.out _)).mono ?_; rintro e w5 ⟨rfl, hb5⟩
           have ho1 : Only (fun _ => False) wo w5 := ((Only.refl _ wo).alloc _).drew.trans (Only.of_new hb5)
           have hs5 := ho1.size
           obtain ⟨fn, tmps, assign, body, hy, hR⟩ := HY.out ((arrL E O).take u) (ta, he) C' w5 #[.int .i64 (ta : Int), .int .i64 (he : Int)] (fun _ => False) hpx.out (HJ.out _ _ _ _ IJ.out (Stays.of_only ho1 (fun _ _ h => h.elim))) (by omega) (fun k hk => by have := (IC.out k hk).1; omega) (fun k hk => hk.elim) rfl)
        | (refine (roundIn_wide hR).mono ?_; rintro e w6 ⟨C2, b2, ho2, hg2, rfl, hj2, hx2⟩))
      all_goals (
        refine nopanic_normal ?_
        cases b2
        · have HX2 := Lib.hid (hx2 rfl)
          rw [← HTK.out] at HX2
          clear hj2 hx2 hR hy
          gi_wp2
          exact ⟨_, results_none rfl _ _ _, ⟨⟨_, rfl⟩, C2, .inr ⟨(arrL E O).take (u + 1), List.take_prefix _ _, HX2.out⟩⟩⟩
        · have HJ2 := Lib.hid (hj2 rfl)
          rw [← HTK.out] at HJ2
          have hsz6 := ho2.size
          have hno : ∀ k, k = bo ∨ (0 < m ∧ blockOf (some ⟨bb, ob, none⟩) k) ∨ blockOf (some ⟨bA, oA, none⟩) k → ¬ (C' k ∨ False) := fun k hk hc => hc.elim (fun hc => (IC.out k hc).2 hk) id
          have ho : Only (fun k => C' k ∨ False) wo w6 := (ho1.mono fun _ _ h => h.elim).trans ho2
          have m1 : Blk w6 bo 93 #[.slice (some ⟨bb, ob, none⟩) m co] := iB.out.only ho (hno bo (.inl rfl))
          have m2 := Lib.hid (reads_only2 iQ.out ho hsz.out (fun k hk => hno k (.inr (.inr hk))))
          have m3 := Lib.hid (reads_only iO.out ho hsz.out (fun k hk => hno k (.inr (.inl ⟨by omega, hk⟩))))
          have m1 := Lib.hid m1
          have hIC2 : Hid (∀ k, C2 k → k < w6.heap.size ∧ ¬ (k = bo ∨ (0 < m ∧ blockOf (some ⟨bb, ob, none⟩) k) ∨ blockOf (some ⟨bA, oA, none⟩) k)) := by
            intro k hk
            rcases hg2 k hk with h | h | h
            · have := IC.out k h; exact ⟨by omega, this.2⟩
            · exact h.elim
            · refine ⟨h.2, ?_⟩
              have z1 : w1.heap.size ≤ k := Nat.le_trans hsz.out (Nat.le_trans ho1.size h.1)
              rintro (e | e | e)
              · have := Nat.le_trans ho1.size h.1; have := hbow; omega
              · have := hAl.out k e.2; have := HS1.out; omega
              · have := (HArl.out k e).2; omega
          have HS6 : Hid (w1.heap.size ≤ w6.heap.size) := by show w1.heap.size ≤ w6.heap.size; omega
          clear hj2 hx2 ho2 hg2 hR hy
          gi_wp2
          go_roundw
          case rel => exact ⟨u + 1, C2, by go_num, by omega, HS6.out, m2.out, m1.out, m3.out, HJ2.out, hIC2.out⟩
          case measure => simp [intOf]; omega)
    · obtain rfl : u = m := by omega
      have hf : ¬ (u : Int) < (u : Int) := by omega
      have hfin : (arrL E O).take u = arrL E O := List.take_of_length_le (by rw [arrL_length (by rw [HOL.out, HM.out]), HM.out]; exact Nat.le_refl _)
      rw [hfin] at IJ
      clear hfin
      gi_wp2
      exact ⟨_, results_none rfl _ _ _, ⟨⟨_, rfl⟩, C', .inl IJ.out⟩⟩
end Go.Proofs.YtplgbapbgcipdaaGreat

/-! orientation.indegrees and sources. -/
namespace Go.Proofs.YtplgbapbgcipdaaGreat
open Go.RowKit Go.Shelf
attribute [local go_sem] Oper.semAt_some

/-- How often each vertex is a head. -/
def incL (n : Nat) (l : List (Nat × Nat)) : List Int := (List.range n).map fun v : Nat => ((l.countP fun x => decide (x.2 = v) : Nat) : Int)
theorem incL_length {n : Nat} {l : List (Nat × Nat)} : (incL n l).length = n := by simp [incL]
theorem incL_at {n v : Nat} {l : List (Nat × Nat)} (hv : v < n) : (incL n l)[v]? = some ((l.countP fun x => decide (x.2 = v) : Nat) : Int) := by simp [incL, hv]
theorem incL_nil {n : Nat} : incL n [] = List.replicate n 0 := by
  refine List.ext_getElem? fun v => ?_
  by_cases hv : v < n
  · rw [incL_at hv]; simp [hv]
  · rw [List.getElem?_eq_none (by rw [incL_length]; omega), List.getElem?_eq_none (by simp; omega)]
theorem incL_snoc {n : Nat} {l : List (Nat × Nat)} {t h : Nat} : incL n (l ++ [(t, h)]) = (incL n l).set h (((l.countP fun x => decide (x.2 = h) : Nat) : Int) + 1) := by
  refine List.ext_getElem? fun v => ?_
  by_cases hv : v < n
  · by_cases hvh : v = h
    · subst hvh
      rw [List.getElem?_set_self (by rw [incL_length]; exact hv), incL_at hv, List.countP_append]
      simp
    · rw [List.getElem?_set_ne (Ne.symm hvh), incL_at hv, incL_at hv, List.countP_append]
      simp [Ne.symm hvh]
  · rw [List.getElem?_eq_none (by rw [incL_length]; omega), List.getElem?_eq_none (by rw [List.length_set, incL_length]; omega)]
theorem arr_bd {n : Nat} {E : List (Nat × Nat)} {O : List Bool} (hb : ∀ p ∈ E, p.1 < n ∧ p.2 < n) : ∀ x ∈ arrL E O, x.1 < n ∧ x.2 < n := by
  intro x hx
  obtain ⟨y, hy, rfl⟩ := List.mem_map.1 hx
  have := hb _ (List.of_mem_zip (a := y.1) (b := y.2) hy).1
  unfold tlA hdA
  split <;> simp_all
set_option maxRecDepth 100000 in
set_option maxHeartbeats 8000000 in
theorem indegrees_any (n : Nat) (A : Option Addr) (c : Nat) (es : List E3) (hn : es.length ≤ 10000) (hz : checkG n es = 0) (O : List Bool) (hO : O.length = (endsL es).length) (hmx : (endsL es).length ≤ 1000000) (Ao : Option Addr) (co : Nat) (w : World)
    (h : Reads w w.heap.size 3 A es.length (edgeCells es)) (h' : Reads w w.heap.size 1 Ao O.length (boolCells O)) :
    Calls Tryz.prog 100 #[.agg #[.int .i64 n, .slice A es.length c], .slice Ao O.length co] w fun e w' => ∃ g, e = .returned (.slice (some ⟨g, 0, none⟩) n n) ∧ w.heap.size ≤ g ∧ Blk w' g 3 (intCells (incL n (arrL (endsL es) O))) ∧ Below w.heap.size w w' := by
  have hG := right_of hz
  have hn12 : n ≤ 12 := by have := hG.hi; omega
  have hmk := make_ints n (by omega)
  obtain ⟨w3, hw3⟩ : ∃ w3, ((w.alloc (.cells #[.int .i64 n, .slice A es.length c] 24)).alloc (.cells (ints (List.replicate n 0)).toArray 3)).alloc (.cells #[.slice (some ⟨w.heap.size + 1, 0, none⟩) n n] 25) = w3 := ⟨_, rfl⟩
  have hs3 : w3.heap.size = w.heap.size + 3 := by rw [← hw3]; simp
  have r1 : Blk w3 (w.heap.size + 1) 3 (intCells (List.replicate n 0)) := by rw [← hw3]; exact (Blk.new_at (by simp)).alloc _
  have r2 : Blk w3 (w.heap.size + 2) 25 #[.slice (some ⟨w.heap.size + 1, 0, none⟩) n n] := by rw [← hw3]; exact Blk.new_at (by simp)
  have B3 : Below w.heap.size w w3 := by rw [← hw3]; exact (((Below.refl _ _).alloc (Nat.le_refl _) _).alloc (by simp) _).alloc (by simp; omega) _
  have g0 := (Blk.new w 24 #[.int .i64 n, .slice A es.length c])
  have HBD := Lib.hid (arr_bd (O := O) (bd_ends hG))
  have HLL := Lib.hid (arrL_length hO)
  have HMX := Lib.hid hmx
  have HW3 := Lib.hid hw3
  clear hw3
  have HA : Hid (0 < es.length → ∀ k, blockOf A k → k < w.heap.size) := fun hx k ⟨a, ha, hk⟩ => by
    obtain ⟨b, off, e, hb, _⟩ := h.2 hx
    rw [e] at ha; injection ha with ha; subst ha; subst hk; exact hb
  have HAo : Hid (0 < O.length → ∀ k, blockOf Ao k → k < w.heap.size) := fun hx k ⟨a, ha, hk⟩ => by
    obtain ⟨b, off, e, hb, _⟩ := h'.2 hx
    rw [e] at ha; injection ha with ha; subst ha; subst hk; exact hb
  have HOO := Lib.hid hO
  have c0 := g0.cell 0
  have c1 := g0.cell 1
  have HZ := Lib.hid hz
  clear hG hO hz hmx
  refine (callsIn_wide (n := 3)).1 ?_
  refine callsIn_of_wp_marks Tryz.func100 rfl trivial ?_
  simp only [Tryz.ntmps100, List.size_toArray, List.length_cons, List.length_nil, Nat.reduceAdd, Nat.reduceSub, Array.replicate_succ, Array.replicate_zero, List.push_toArray, List.append_toArray, List.nil_append, List.cons_append]
  gi_wp2_with fail
  rw [HW3.out]
  refine ⟨trivial, ?_⟩
  gi_at_call 102
  refine (inW (arrows_any n A es.length c Ao O.length co w3)).mono ?_
  rintro e w4 ⟨rfl, hw4⟩
  have hs4 : w4.heap.size = w3.heap.size + 2 := by rw [← hw4]; simp
  have q1 : Blk w4 w3.heap.size 24 #[.int .i64 n, .slice A es.length c] := by rw [← hw4]; exact (Blk.new w3 _ _).alloc _
  have q2 : Blk w4 (w3.heap.size + 1) 93 #[.slice Ao O.length co] := by rw [← hw4]; exact Blk.new_at (by simp)
  have b34 : Below w3.heap.size w3 w4 := by rw [← hw4]; exact ((Below.refl _ _).alloc (Nat.le_refl _) _).alloc (by simp) _
  have B4 := B3.trans (b34.mono B3.size)
  have r1 := r1.next b34
  have r2 := r2.next b34
  have h4 := (h.below B4).more B4.size
  have h4' := (h'.below B4).more B4.size
  rw [hs3] at q1 q2 hs4
  clear g0 hw4 b34 c0 c1
  gi_wp2_with fail
  refine range_outer (n := 3) (gf := 130) (lb := #[.pointer (some ⟨w.heap.size + 3, 0, none⟩), .pointer (some ⟨w.heap.size + 3 + 1, 0, none⟩)]) (by rfl) (enters_of Tryz.func130 (by kernel_rfl) rfl)
    (arrows_iter n A c es hn HZ.out O HOO.out HMX.out Ao co (w.heap.size + 3) (w.heap.size + 3 + 1) w4 q1 q2 h4 h4') ?hK (fun k => k = w.heap.size + 1) ?hC
    (fun pre C W => Blk W (w.heap.size + 1) 3 (intCells (incL n pre)) ∧ C (w.heap.size + 1) ∧ (∀ k, C k → k = w.heap.size + 1) ∧ Blk W (w.heap.size + 2) 25 #[.slice (some ⟨w.heap.size + 1, 0, none⟩) n n] ∧ Below w.heap.size w W ∧ w4.heap.size ≤ W.heap.size)
    (fun _ _ _ _ => False) ?hI (fun _ _ _ _ _ h _ => h) ?h0 ?hps ?round ?done (fun _ _ _ _ _ h => h.elim)
  case hK =>
    rintro k (rfl | rfl | ⟨hp, hk⟩ | ⟨hp, hk⟩)
    · omega
    · omega
    · have := HA.out hp k hk; omega
    · have := HAo.out hp k hk; omega
  case hC =>
    rintro k rfl
    refine ⟨by omega, ?_⟩
    rintro (e | e | ⟨hp, e⟩ | ⟨hp, e⟩)
    · omega
    · omega
    · have := HA.out hp _ e; omega
    · have := HAo.out hp _ e; omega
  case hI =>
    rintro pre C a b ⟨i1, i2, i3, i4, i5, i6⟩ hst
    exact ⟨i1.stays hst (.inl i2), i2, i3, i4.stays hst (.inr ⟨by omega, fun h => h⟩), i5.trans (hst.below (fun k hk => .inr ⟨by omega, fun h => h⟩) i5.size), Nat.le_trans i6 hst.size⟩
  case h0 => exact ⟨by rw [incL_nil]; exact r1, rfl, fun k hk => hk, r2, B4, Nat.le_refl _⟩
  case hps => intro x' args O W' (ha : args = _); subst ha; rfl
  case round =>
    rintro l pre ⟨t, hd⟩ args C Ob W hpre hI hl hC hOb harg hlW hnC hnO T hT
    obtain ⟨i1, i2, i3, i4, i5, i6⟩ := hI
    obtain rfl : args = #[.int .i64 (t : Int), .int .i64 (hd : Int)] := harg
    have hmem : (t, hd) ∈ arrL (endsL es) O := by
      obtain ⟨z, hz⟩ := hpre
      rw [← hz]; simp
    have hhd := (HBD.out _ hmem).2
    have hpl : pre.length < (endsL es).length := by
      obtain ⟨z, hz⟩ := hpre
      have := congrArg List.length hz
      rw [HLL.out] at this
      simp at this
      omega
    have hmx := HMX.out
    obtain ⟨x, hx⟩ : ∃ x, ((pre.countP fun y => decide (y.2 = hd) : Nat) : Int) = x := ⟨_, rfl⟩
    have hxb : 0 ≤ x ∧ x ≤ 1000000 := by
      have : pre.countP (fun y => decide (y.2 = hd)) ≤ pre.length := List.countP_le_length
      omega
    have hcx := incL_at (l := pre) hhd
    rw [hx] at hcx
    have hw1 : IntKind.i64.wrap (x + 1) = x + 1 := IntWalk.i64_in _ (by omega)
    have hhi : (hd : Int) < (n : Int) := by exact_mod_cast hhd
    have HSN : Hid (incL n (pre ++ [(t, hd)]) = (incL n pre).set hd (x + 1)) := by rw [Hid, incL_snoc, hx]
    have HCX := Lib.hid hcx
    clear hpre hmem hx hcx q1 q2 h4 h4'
    gi_wp2
    refine hT _ _ (Only.refl _ _) ?_
    intro w5 h5 _
    have j1 : Blk w5 (w.heap.size + 1) 3 (intCells (incL n pre)) := i1.only h5 (fun e => hnC (e ▸ i2))
    have j4 : Blk w5 (w.heap.size + 2) 25 #[.slice (some ⟨w.heap.size + 1, 0, none⟩) n n] := i4.only h5 (fun e => by omega)
    have j5 : Below w.heap.size w w5 := i5.trans (h5.below (fun k hk e => by omega) i5.size)
    have e1 := j4.cell 0
    have e2 := (j1.cell hd).trans (intCells_at HCX.out)
    have e3 := j1.frozen hd
    have hs5 := h5.size
    clear i1 i4 i5
    gi_wp2
    refine ⟨C, (Only.refl _ w5).setCell (.inl (.inl i2)) _, fun k hk => .inl hk, ?_, i2, i3, j4.far (by show w.heap.size + 2 ≠ w.heap.size + 1; omega) _, j5.setCell (by show w.heap.size ≤ w.heap.size + 1; omega) _, by simp [World.setCell]; omega⟩
    rw [HSN.out, ← intCells_set]
    exact j1.set_ hd _
  case done =>
    rintro C W ⟨i1, i2, i3, i4, i5, i6⟩ hnD hD
    have e1 := i4.cell 0
    clear r1 r2 q1 q2 h4 h4'
    gi_wp2
    have p1 := Only.put_one W w4.heap.size (.deferred none)
    refine end_mark (v := .slice (some ⟨w.heap.size + 1, 0, none⟩) n n) hD (by simp [results, Tryz.results100, go_sem]) ⟨w.heap.size + 1, rfl, by omega, i1.only p1 (fun e => by omega), i5.trans (p1.below (fun k hk e => by omega) i5.size)⟩
end Go.Proofs.YtplgbapbgcipdaaGreat

