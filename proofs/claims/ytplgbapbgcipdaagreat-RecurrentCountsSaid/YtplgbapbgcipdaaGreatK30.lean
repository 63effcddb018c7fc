/-
  Texts of this claim, put together: RForbP, RFire, TSwap, DulP, WavesP.
-/
import Derived.Test.YtplgbapbgcipdaaGreatK29
import Derived.Test.YtplgbapbgcipdaaGreatK11
import Derived.Test.YtplgbapbgcipdaaGreatK15
import Derived.Test.YtplgbapbgcipdaaGreatK03
/-! Plain: the greatest forbidden set is what the fire leaves; what is above a recurrent configuration is recurrent. -/
namespace Go.Proofs.YtplgbapbgcipdaaGreat
open Go.RowKit

/-- What the fire leaves. -/
def worstL (n : Nat) (es : List E3) (cs : List Int) (q : Nat) : List Nat := restL n (recL n es cs q)
theorem flm_rest {es : List E3} {n v : Nat} {l : List Nat} : ∀ k, k ≤ n → flmTo es l v k + flmTo es (restL n l) v k = flmTo es (List.range n) v k
  | 0, _ => rfl
  | k + 1, hk => by
    simp only [flmTo]
    have ih := flm_rest (es := es) (n := n) (v := v) (l := l) k (by omega)
    rw [if_pos (show k ∈ List.range n from List.mem_range.2 (by omega))]
    by_cases h : k ∈ l
    · rw [if_pos h, if_neg (fun hc => (mem_rest.1 hc).2 h)]; omega
    · rw [if_neg h, if_pos (mem_rest.2 ⟨by omega, h⟩)]; omega
theorem jn_rest {n : Nat} {es : List E3} (hG : RightG n es) (l : List Nat) (v : Nat) : jnE es l v + jnE es (restL n l) v = valE es v := by
  rw [valE_jn (n := n) hG.ok, jnE_flm hG, jnE_flm hG, jnE_flm hG, flm_rest n (Nat.le_refl _)]
/-- Who has enough chips in the rest burns. -/
theorem rest_catch {n : Nat} {es : List E3} (hG : RightG n es) (cs : List Int) (l : List Nat) (v : Nat) : decide (jnE es (restL n l) v ≤ cs.getD v 0) = catchB es cs l v := by
  unfold catchB
  rw [decide_eq_decide]
  have := jn_rest hG l v
  omega
theorem catL_mono {es : List E3} (he : ∀ a b, 0 ≤ btw es a b) {c : List Int} {n : Nat} {l l' : List Nat} {v : Nat} (hl : LOk n l) (hl' : LOk n l') (hs : ∀ u ∈ l, u ∈ l') (hv : v ∉ l') (h : catL es c l v = true) : catL es c l' v = true := by
  rw [catL_true] at h ⊢
  have := joins_mono he hl hl' hs v
  exact ⟨hv, by omega⟩
/-- The marks of the rest. -/
theorem marks_rest_set {n v : Nat} (hv : v < n) (l : List Nat) : (marks n (restL n l)).set v false = marks n (restL n (l ++ [v])) := by
  apply List.ext_getElem?
  intro i
  by_cases hi : i < n
  · rw [marks_get hi]
    by_cases e : i = v
    · subst e
      rw [List.getElem?_set_self (by rw [marks_length]; exact hi), decide_eq_false (fun hc => (mem_rest.1 hc).2 (by simp))]
    · rw [List.getElem?_set_ne (fun e' => e e'.symm), marks_get hi]
      congr 1
      rw [decide_eq_decide, mem_rest, mem_rest]
      simp [e]
  · rw [List.getElem?_eq_none (by simp [marks_length]; omega), List.getElem?_eq_none (by simp [marks_length]; omega)]
theorem marks_all (n : Nat) : List.replicate n true = marks n (restL n []) := by
  apply List.ext_getElem?
  intro i
  by_cases hi : i < n
  · rw [marks_get hi, List.getElem?_replicate, if_pos hi, decide_eq_true (mem_rest.2 ⟨hi, by simp⟩)]
  · rw [List.getElem?_eq_none (by simp; omega), List.getElem?_eq_none (by simp [marks_length]; omega)]
theorem restL_congr {n : Nat} {l l' : List Nat} (h : ∀ u, u ∈ l ↔ u ∈ l') : restL n l = restL n l' := by
  unfold restL
  apply List.filter_congr
  intro u _
  rw [decide_eq_decide.2 (h u)]
/-- However it goes, the fire leaves the same. -/
theorem forb_end {n q : Nat} {es : List E3} {cs : List Int} (hG : RightG n es) (hq : q < n) {l : List Nat} (hl : LOk n l) (hql : q ∈ l) (hs : ∀ u ∈ l, u ∈ recL n es cs q) (hc : ∀ v, v < n → catL es (dualL n es cs) l v = false) : restL n l = worstL n es cs q := by
  refine restL_congr fun u => ⟨hs u, fun hu => ?_⟩
  exact burns_same (l := [q]) (by simpa using hql) hc hl (fun a b => (btw_bd hG.ok a b).1) n (lok_one hq) u hu
/-- One more that burns. -/
theorem forb_step {n q : Nat} {es : List E3} {cs : List Int} (hG : RightG n es) (hq : q < n) {l : List Nat} (hl : LOk n l) (hs : ∀ u ∈ l, u ∈ recL n es cs q) {v : Nat} (hv : v < n) (h : catL es (dualL n es cs) l v = true) : ∀ u ∈ l ++ [v], u ∈ recL n es cs q := by
  intro u hu
  rcases List.mem_append.1 hu with hu | hu
  · exact hs u hu
  · rw [List.mem_singleton.1 hu]
    by_cases hm : v ∈ recL n es cs q
    · exact hm
    · exfalso
      have h1 := catL_mono (fun a b => (btw_bd hG.ok a b).1) hl (recL_ok hq) hs hm h
      have h2 := burnL_done (es := es) (c := dualL n es cs) (k := n) (lok_one hq) (by simp) v hv
      unfold recL burntL at h1
      rw [h1] at h2
      cases h2
theorem recL_sink {n q : Nat} {es : List E3} {cs : List Int} : q ∈ recL n es cs q := by
  have := burnL_pre (es := es) (c := dualL n es cs) (n := n) n [q]
  obtain ⟨z, hz⟩ := this
  unfold recL burntL
  rw [← hz]
  simp
theorem full_iff {n q : Nat} {es : List E3} {cs : List Int} (hq : q < n) : (recL n es cs q).length = n ↔ worstL n es cs q = [] := by
  have := rest_len (recL n es cs q) (recL_ok hq)
  unfold worstL
  rw [← List.length_eq_zero_iff]
  omega
/-- What is above a recurrent configuration, and stable, is recurrent. -/
theorem recB_mono {n q : Nat} {es : List E3} (hG : RightG n es) (hq : q < n) {x y : List Int} (h : ∀ i, i < n → x.getD i 0 ≤ y.getD i 0) (hy : stabTo es y q n = true) (hx : recB n es x q = true) : recB n es y q = true := by
  unfold recB at hx ⊢
  rw [Bool.and_eq_true] at hx ⊢
  refine ⟨hy, ?_⟩
  have h1 := of_decide_eq_true hx.2
  refine decide_eq_true ?_
  rw [full_iff hq] at h1 ⊢
  unfold worstL at h1 ⊢
  have hf := fewer_burn (n := n) (q := q) (es := es) (fun a b => (btw_bd hG.ok a b).1) hq (cs := dualL n es x) (ds := dualL n es y) (fun v hv => by rw [dualL_get es x hv, dualL_get es y hv]; have := h v hv; omega)
  apply List.eq_nil_iff_forall_not_mem.2
  intro u hu
  obtain ⟨h2, h3⟩ := mem_rest.1 hu
  apply h3
  refine hf u ?_
  apply Classical.byContradiction
  intro hn
  have := mem_rest.2 ⟨h2, hn⟩
  unfold recL at h1
  rw [h1] at this
  cases this
theorem stabTo_iff {n q : Nat} {es : List E3} {cs : List Int} : stabTo es cs q n = true ↔ ∀ v, v < n → v ≠ q → cs.getD v 0 < valE es v := by
  unfold stabTo
  rw [List.all_eq_true]
  constructor
  · intro h v hv hq
    have := h v (List.mem_range.2 hv)
    rw [decide_eq_false hq, Bool.false_or] at this
    exact of_decide_eq_true this
  · intro h v hv
    by_cases hq : v = q
    · simp [hq]
    · rw [decide_eq_true (h v (List.mem_range.1 hv) hq), Bool.or_true]
end Go.Proofs.YtplgbapbgcipdaaGreat

/-! Package recurrent: fire, recurs. -/
namespace Go.Proofs.YtplgbapbgcipdaaGreat
open Go.RowKit

def lenV : Value → Nat
  | .slice _ n _ => n
  | _ => 0
theorem marks_nil (n : Nat) : marks n [] = List.replicate n false := by
  unfold marks
  apply List.ext_getElem?
  intro i
  by_cases hi : i < n <;> simp [hi]
/-- What the fire needs of its configuration. -/
structure RArgs (n : Nat) (es : List E3) (cs : List Int) : Prop where
  hn : es.length ≤ 10000
  hz : checkG n es = 0
  hcl : cs.length = n
  hcb : ∀ x ∈ cs, -1048576 ≤ x ∧ x ≤ 1048577

set_option maxRecDepth 100000 in
set_option maxHeartbeats 8000000 in
theorem rfire_any (n : Nat) (A : Option Addr) (c : Nat) (es : List E3) (q : Nat) (hq : q < n) (B : Option Addr) (d : Nat) (cs : List Int) (hR : RArgs n es cs) (w : World)
    (h : Reads w w.heap.size 3 A es.length (edgeCells es)) (h' : Reads w w.heap.size 1 B n (ints cs)) :
    Calls Tryz.prog 65 #[pileV n A es.length c q B n d] w fun e w' => ∃ A' c', e = .returned (.slice A' (recL n es cs q).length c') ∧ OwnI w' w.heap.size A' c' (natI (recL n es cs q)) ∧ Below w.heap.size w w' := by
  have hG := right_of hR.hz
  have hn12 : n ≤ 12 := by have := hG.hi; omega
  have HCT := Lib.hid (fun (v : Nat) (hv : v < n) (g : Nat) (l : List Nat) (W : World) (hB : Below w.heap.size w W) (hm : Blk W g 4 (bools (marks n l))) => rcatches_any n A c es hR.hn hR.hz q B d cs hR.hcl hR.hcb v hv g l W ((h.below hB).more hB.size) ((h'.below hB).more hB.size) hm)
  have HCD := Lib.hid (fun (l : List Nat) (hl : LOk n l) (v : Nat) (hv : v < n) => cat_dual hG cs hl hv)
  have g0 := Blk.new w 80 (pileC n A es.length c q B n d)
  have hB0 : Below w.heap.size w (w.alloc (.cells (pileC n A es.length c q B n d) 80)) := (Below.refl _ _).alloc (Nat.le_refl _) _
  have hmb := make_bools n (by omega)
  have hqi : (q : Int) < (n : Int) := by omega
  clear hG h h'
  simp only [pileV, pileC] at g0 hB0 HCT ⊢
  have c0 := g0.cell 0
  have c2 := g0.cell 2
  have M0 := Blk.new (w.alloc (.cells #[.int .i64 n, .slice A es.length c, .int .i64 q, .slice B n d] 80)) 4 (bools (List.replicate n false))
  have hs1 : (w.alloc (.cells #[.int .i64 n, .slice A es.length c, .int .i64 q, .slice B n d] 80)).heap.size = w.heap.size + 1 := by simp
  rw [hs1] at M0
  have mq := M0.cell q
  rw [bools_get (show (List.replicate n false)[q]? = some false by simp [hq])] at mq
  have mf := M0.frozen q
  have g1 := g0.alloc (.cells (bools (List.replicate n false)) 4)
  have d0 := g1.cell 0
  have d2 := g1.cell 2
  have M1 := Blk.new (w.alloc (.cells #[.int .i64 n, .slice A es.length c, .int .i64 q, .slice B n d] 80)) 4 ((bools (List.replicate n false)).setIfInBounds q (.bool true))
  have hmk : (bools (List.replicate n false)).setIfInBounds q (.bool true) = bools (marks n [q]) := by rw [bools_set, ← marks_nil, marks_set hq, List.nil_append]
  have g2 := g0.alloc (.cells ((bools (List.replicate n false)).setIfInBounds q (.bool true)) 4)
  have hB2 := hB0.alloc (by simp) (.cells ((bools (List.replicate n false)).setIfInBounds q (.bool true)) 4)
  have e2 := g2.cell 2
  have HMK := Lib.hid hmk
  clear hmk
  obtain ⟨D, hD⟩ : ∃ D, dualL n es cs = D := ⟨_, rfl⟩
  rw [hD] at HCD
  have HRL : Hid (burnL es D n n [q] = recL n es cs q) := by rw [← hD]; rfl
  obtain ⟨R, hRR⟩ : ∃ R, recL n es cs q = R := ⟨_, rfl⟩
  rw [hRR] at HRL ⊢
  go_enter Tryz.func65, Tryz.ntmps65
  go_wp2_with fail
  obtain ⟨W1, hW1⟩ : ∃ W1, (w.alloc (.cells #[.int .i64 n, .slice A es.length c, .int .i64 q, .slice B n d] 80)).alloc (.cells ((bools (List.replicate n false)).setIfInBounds q (.bool true)) 4) = W1 := ⟨_, rfl⟩
  have hsW : W1.heap.size = w.heap.size + 2 := by rw [← hW1]; simp
  rw [hW1] at M1 g2 hB2 e2 ⊢
  rw [HMK.out, hs1] at M1
  have O3 := OwnI.of_blk (base := w.heap.size) (Blk.new W1 3 (intCells [(q : Int)])) (by omega) (by simp [maxLen])
  have M3 := M1.alloc (.cells (intCells [(q : Int)]) 3)
  have G3 := g2.alloc (.cells (intCells [(q : Int)]) 3)
  have B3 := hB2.alloc hB2.size (.cells (intCells [(q : Int)]) 3)
  rw [show (#[.int .i64 (q : Int)] : Array Value) = intCells [(q : Int)] from rfl]
  clear hD hRR g0 hB0 c0 c2 M0 mq mf g1 d0 d2 M1 g2 hB2 e2 hW1 hs1 hmb
  rw [hsW] at O3
  go_loopw [4, 5, 6, 27] (fun o _ _ _ wl => ∃ (A' : Option Addr) (c' : Nat) (l : List Nat), o = .slice A' (natI l).length c' ∧ (natI l).length ≤ n ∧ Hid (LOk n l) ∧ Hid (burnL es D n n l = R) ∧ OwnI wl w.heap.size A' c' (natI l) ∧ Blk wl (w.heap.size + 1) 4 (bools (marks n l)) ∧
    Blk wl w.heap.size 80 #[.int .i64 n, .slice A es.length c, .int .i64 q, .slice B n d] ∧ Below w.heap.size w wl) (fun o _ _ _ _ => n - lenV o)
  case atStart => exact ⟨_, _, [q], by rfl, by simp [natI]; omega, lok_one hq, HRL.out, O3, M3, G3, B3⟩
  case round =>
    obtain ⟨A', c', l, rfl, hll, HLO, HBL, ol, ml, gl, bl⟩ := hrel
    clear O3 M3 G3 B3
    have c0 := gl.cell 0
    have hz1 := bl.size
    obtain ⟨wo, rfl⟩ : ∃ wo : World, wo = wr := ⟨_, rfl⟩
    have hln : Hid ((natI l).length = l.length) := natI_length l
    by_cases hlt : (natI l).length < n
    · have hi : ((natI l).length : Int) < (n : Int) := by omega
      go_wp2_with fail
      go_loopw [5, 6, 27] (fun nx _ i w2 => ∃ u : Nat, nx = .int .i64 (-1) ∧ i = .int .i64 u ∧ u ≤ n ∧ Hid (∀ x, x < u → catL es D l x = false) ∧ Below wo.heap.size wo w2) (fun _ _ i _ => n - (intOf i).toNat)
      case atStart => exact ⟨0, rfl, rfl, by omega, fun x hx => by omega, Below.refl _ _⟩
      case round =>
        obtain ⟨u, rfl, rfl, hu, HU, b2⟩ := hrel
        clear c0
        have m2 := ml.next b2
        have g2 := gl.next b2
        have o2 := ol.next b2
        have B2 := bl.trans (b2.mono hz1)
        have c0 := g2.cell 0
        have c1 := g2.cell 1
        have c2 := g2.cell 2
        have c3 := g2.cell 3
        by_cases hun : u < n
        · have hui : (u : Int) < (n : Int) := by omega
          have mu := (m2.cell u).trans (bools_get (marks_get hun l))
          have hcd := HCD.out l HLO.out u hun
          by_cases hm : u ∈ l
          · rw [decide_eq_true hm] at mu hcd
            rw [Bool.not_true, Bool.false_and] at hcd
            have HC := Lib.hid hcd
            clear hcd hm
            go_wp2
            go_roundw
            case rel => exact ⟨u + 1, rfl, by go_num, by omega, fun x hx => by
              by_cases he : x = u
              · subst he; exact HC.out
              · exact HU.out x (by omega), b2⟩
            case measure => simp [intOf]; omega
          · rw [decide_eq_false hm] at mu hcd
            rw [Bool.not_false, Bool.true_and] at hcd
            have CT := HCT.out u hun (w.heap.size + 1) l wr B2 m2
            have HM := Lib.hid hm
            cases hcb : catchB es cs l u
            · rw [hcb] at hcd CT
              have CT := Lib.hid CT
              have HC := Lib.hid hcd
              clear hcd hm hcb
              go_wp2_with (go_at_call 103; refine (CT.out).mono ?_; rintro e w5 ⟨rfl, b5⟩)
              go_roundw
              case rel => exact ⟨u + 1, rfl, by go_num, by omega, fun x hx => by
                by_cases he : x = u
                · subst he; exact HC.out
                · exact HU.out x (by omega), b2.trans (b5.mono b2.size)⟩
              case measure => simp [intOf]; omega
            · rw [hcb] at hcd CT
              have CT := Lib.hid CT
              have hhead := head_ready_of hun hcd HU.out
              have HB2 := Lib.hid ((burnL_next HLO.out hhead).symm.trans HBL.out)
              have HL2 := Lib.hid (HLO.out.snoc HM.out hun)
              clear hcd hm hcb hhead
              have hl1 : (natI l).length ≤ 1048000 := by omega
              have hwz : w.heap.size ≤ w.heap.size + 1 := by omega
              have hne1 : ((u : Int) < 0) = False := by simp
              have hne2 : decide ((u : Int) < 0) = false := by simp
              go_wp2_with (first
                | (go_at_call 103; refine (CT.out).mono ?_; rintro e w5 ⟨rfl, b5⟩; have m5 := m2.next b5; have f5 := m5.frozen u; have k5 := (m5.cell u).trans (bools_get (marks_get hun l)); have o5 := o2.next b5; have g5 := g2.next b5; have B5 := B2.trans (b5.mono B2.size); have m6 := m5.set_ u (.bool true); have g6 := g5.far (p := ⟨w.heap.size + 1, u, none⟩) (by simp) (.bool true); have o6 := o5.set_blk m5 (by decide) u (.bool true); have B6 := B5.setCell (p := ⟨w.heap.size + 1, u, none⟩) hwz (.bool true); have s6 := B6.size)
                | (at_builtin; go_loud (refine push_int rfl (.tmp 48) (.tmp 50) _ rfl Tryz.underlying25 w.heap.size A' c' (natI l) (u : Int) rfl o6 rfl (by simp [World.setCell]) hl1 s6 ?_); intro A7 c7 w7 o7 gr7 b7))
              have m7 := (m6.alloc (.cells #[.int .i64 u] 3)).grown gr7 (own_blk_ne o6 m6 (by decide))
              have g7 := (g6.alloc (.cells #[.int .i64 u] 3)).grown gr7 (own_blk_ne o6 g6 (by decide))
              rw [bools_set, marks_set hun] at m7
              go_roundw
              case rel =>
                refine ⟨A7, c7, l ++ [u], by rw [natI_snoc]; simp, by rw [natI_snoc]; simp; omega, HL2, HB2, by rw [natI_snoc]; exact o7, m7, g7, B6.trans b7⟩
              case measure => simp [lenV]; omega
        · obtain rfl : u = n := by omega
          have hnone := ready_none HU.out
          have hRl : R = l := by rw [← HBL.out, burnL_stop (by rw [hnone]; rfl)]
          have HRl := Lib.hid hRl
          clear hRl hnone
          go_wp2
          go_ret
          exact ⟨A', c', by rw [HRl.out, ← hln.out]; rfl, by rw [HRl.out]; exact o2, B2⟩
    · have hi : ¬ ((natI l).length : Int) < (n : Int) := by omega
      have hRl : R = l := by rw [← HBL.out]; exact burn_full HLO.out (by have := hln.out; omega)
      have HRl := Lib.hid hRl
      clear hRl
      go_wp2
      go_ret
      exact ⟨A', c', by rw [HRl.out, ← hln.out]; rfl, by rw [HRl.out]; exact ol, bl⟩
end Go.Proofs.YtplgbapbgcipdaaGreat

/-! Package tree: Swap. -/
namespace Go.Proofs.YtplgbapbgcipdaaGreat
open Go.RowKit

end Go.Proofs.YtplgbapbgcipdaaGreat

/-! Plain: the dual of a configuration. -/
namespace Go.Proofs.YtplgbapbgcipdaaGreat
open Go.RowKit

/-- The dual of a configuration, as far as k: no chips at the sink. -/
def dulTo (n : Nat) (es : List E3) (cs : List Int) (q k : Nat) : List Int := (List.range n).map fun v : Nat => if v < k ∧ v ≠ q then valE es v - 1 - cs.getD v 0 else 0
def dulL (n : Nat) (es : List E3) (cs : List Int) (q : Nat) : List Int := dulTo n es cs q n
theorem dulTo_length (n : Nat) (es : List E3) (cs : List Int) (q k : Nat) : (dulTo n es cs q k).length = n := by simp [dulTo]
theorem dulL_length (n : Nat) (es : List E3) (cs : List Int) (q : Nat) : (dulL n es cs q).length = n := dulTo_length n es cs q n
theorem dulL_get {n v : Nat} (es : List E3) (cs : List Int) (q : Nat) (hv : v < n) : (dulL n es cs q).getD v 0 = if v = q then 0 else valE es v - 1 - cs.getD v 0 := by
  unfold dulL dulTo
  rw [List.getD_eq_getElem?_getD]
  simp only [List.getElem?_map, List.getElem?_range hv, Option.map_some, Option.getD_some]
  by_cases h : v = q
  · rw [if_neg (fun e => e.2 h), if_pos h]
  · rw [if_pos ⟨hv, h⟩, if_neg h]
end Go.Proofs.YtplgbapbgcipdaaGreat

/-! Plain laws: the waves of a fire; a configuration is superstable exactly if no set blocks. No program is in sight. -/
namespace Go.Proofs.YtplgbapbgcipdaaGreat

section
variable {es : List E3} {cs : List Int} {n : Nat}
end

end Go.Proofs.YtplgbapbgcipdaaGreat

