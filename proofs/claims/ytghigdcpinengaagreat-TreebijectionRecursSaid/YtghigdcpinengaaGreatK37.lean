/-
  Texts of this claim, put together: RRecur, RCalm, EarP, WorstP, DualT, AgreesP, RAll13, TCount, LitF, RSettled, SupP, RRecs, RBan, RRVer.
-/
import Derived.Test.YtghigdcpinengaaGreatK35
import Derived.Test.YtghigdcpinengaaGreatK27
import Derived.Test.YtghigdcpinengaaGreatK29
import Derived.Test.YtghigdcpinengaaGreatK21
import Derived.Deep.RegionHeld3
import Derived.Test.YtghigdcpinengaaGreatK33
import Derived.Test.YtghigdcpinengaaGreatK28
import Derived.Test.YtghigdcpinengaaGreatK18
import Derived.Test.YtghigdcpinengaaGreatK36
import Derived.Test.YtghigdcpinengaaGreatK11
import Derived.Test.YtghigdcpinengaaGreatK22
import Derived.Deep.CutBlock
import Derived.Deep.RegionLaw
import Derived.Test.YtghigdcpinengaaGreatK31
import Derived.Test.YtghigdcpinengaaGreatK12
import Derived.Stop.RegionWithIn
import Derived.Sort.CutIn
import Derived.Test.YtghigdcpinengaaGreatK25
/-! Package recurrent: check, recurs, Recurrent. -/
namespace Go.Proofs.YtghigdcpinengaaGreat
open Go.RowKit


set_option maxRecDepth 100000 in
set_option maxHeartbeats 8000000 in
theorem recurs_any (n : Nat) (A : Option Addr) (c : Nat) (es : List E3) (q : Nat) (hq : q < n) (B : Option Addr) (d : Nat) (cs : List Int) (hR : RArgs n es cs) (w : World)
    (h : Reads w w.heap.size 3 A es.length (edgeCells es)) (h' : Reads w w.heap.size 1 B n (ints cs)) :
    Calls Tryz.prog 116 #[pileV n A es.length c q B n d] w fun e w' => e = .returned (.bool (recB n es cs q)) ∧ Below w.heap.size w w' := by
  have hn12 : n ≤ 12 := by have := (right_of hR.hz).hi; omega
  have HS := Lib.hid (fun (W : World) (hB : Below w.heap.size w W) => stable_any n hn12 A c es hR.hn hR.hz q B d cs hR.hcl W ((h.below hB).more hB.size) ((h'.below hB).more hB.size))
  have HF := Lib.hid (fun (W : World) (hB : Below w.heap.size w W) => rfire_any n A c es q hq B d cs hR W ((h.below hB).more hB.size) ((h'.below hB).more hB.size))
  have g0 := Blk.new w 117 (pileC n A es.length c q B n d)
  have hB0 : Below w.heap.size w (w.alloc (.cells (pileC n A es.length c q B n d) 117)) := (Below.refl _ _).alloc (Nat.le_refl _) _
  unfold recB
  obtain ⟨S, hS⟩ : ∃ S, stabTo es cs q n = S := ⟨_, rfl⟩
  obtain ⟨R, hRL⟩ : ∃ R, recL n es cs q = R := ⟨_, rfl⟩
  rw [hS] at HS ⊢
  rw [hRL] at HF ⊢
  clear hS hRL
  simp only [pileV, pileC] at g0 hB0 HS HF ⊢
  have hgw : w.heap.size < (w.alloc (.cells #[.int .i64 n, .slice A es.length c, .int .i64 q, .slice B n d] 117)).heap.size := by simp
  have c0 := g0.cell 0
  have c1 := g0.cell 1
  have c2 := g0.cell 2
  have c3 := g0.cell 3
  obtain ⟨W0, hW0⟩ : ∃ W0, w.alloc (.cells #[.int .i64 n, .slice A es.length c, .int .i64 q, .slice B n d] 117) = W0 := ⟨_, rfl⟩
  have HW0 := Lib.hid hW0
  rw [hW0] at g0 hB0 c0 c1 c2 c3 hgw
  clear hW0
  have HS2 := Lib.hid (HS.out W0.drew hB0.drew)
  have HF2 := Lib.hid (fun (W : World) (hB : Below W0.heap.size W0 W) => HF.out W (hB0.trans (hB.mono hB0.size)))
  have KC := Lib.hid (fun (W : World) (hB : Below W0.heap.size W0 W) => (⟨(hB.cell (p := ⟨w.heap.size, 0, none⟩) hgw).trans c0, (hB.cell (p := ⟨w.heap.size, 1, none⟩) hgw).trans c1, (hB.cell (p := ⟨w.heap.size, 2, none⟩) hgw).trans c2, (hB.cell (p := ⟨w.heap.size, 3, none⟩) hgw).trans c3⟩ :
    W.cell? ⟨w.heap.size, 0, none⟩ = some (.int .i64 n) ∧ W.cell? ⟨w.heap.size, 1, none⟩ = some (.slice A es.length c) ∧ W.cell? ⟨w.heap.size, 2, none⟩ = some (.int .i64 q) ∧ W.cell? ⟨w.heap.size, 3, none⟩ = some (.slice B n d)))
  have B0 : Below W0.heap.size W0 W0.drew := (Below.refl _ _).drew
  clear g0 HS HF hR
  cases S
  · go_enter Tryz.func116, Tryz.ntmps116
    go_wp2_with fail
    rw [HW0.out]
    first
      | go_region_with ((go_at_call 133; refine (HS2.out).mono ?_; rintro e wJ ⟨rfl, bJ⟩; have BJ := B0.trans (bJ.mono (Nat.le_refl _)); obtain ⟨j0, j1, j2, j3⟩ := KC.out wJ BJ))
      | fail
    all_goals
      go_wp2
      go_ret
      exact ⟨rfl, hB0.trans (BJ.mono hB0.size)⟩
  · go_enter Tryz.func116, Tryz.ntmps116
    go_wp2_with fail
    rw [HW0.out]
    go_region_held3 (fun W => W.cell? ⟨w.heap.size, 0, none⟩ = some (.int .i64 n) ∧ W.cell? ⟨w.heap.size, 1, none⟩ = some (.slice A es.length c) ∧ W.cell? ⟨w.heap.size, 2, none⟩ = some (.int .i64 q) ∧ W.cell? ⟨w.heap.size, 3, none⟩ = some (.slice B n d)) (go_keep)
      (first
        | (go_at_call 133; refine (HS2.out).mono ?_; rintro e wJ ⟨rfl, bJ⟩; have BJ := B0.trans (bJ.mono (Nat.le_refl _)); obtain ⟨j0, j1, j2, j3⟩ := KC.out wJ BJ)
        | (go_at_call 134; refine (HF2.out _ BJ).mono ?_; rintro e wV ⟨A', c', rfl, _, bV⟩; have BV := BJ.trans (bV.mono BJ.size); obtain ⟨l0, l1, l2, l3⟩ := KC.out wV BV))
    all_goals
      go_wp2
      go_ret
      exact ⟨ret_bool (by rw [Bool.true_and, Bool.eq_iff_iff]; simp; omega), hB0.trans (BV.mono hB0.size)⟩
end Go.Proofs.YtghigdcpinengaaGreat

/-! ref08.Valence, ref19.Waiting, ref19.Calm. -/
namespace Go.Proofs.YtghigdcpinengaaGreat
open Go.RowKit

end Go.Proofs.YtghigdcpinengaaGreat

/-! The example of chapter 13, reckoned. -/
namespace Go.Proofs.YtghigdcpinengaaGreat

/-- The graph of the chapter. -/
def ear : List E3 := [(0, 1, 2), (0, 2, 1), (1, 2, 1)]
set_option maxRecDepth 100000
end Go.Proofs.YtghigdcpinengaaGreat

/-! Plain: the greatest forbidden set, found among all sets, is what the fire leaves. -/
namespace Go.Proofs.YtghigdcpinengaaGreat
open Go.RowKit

end Go.Proofs.YtghigdcpinengaaGreat

/-! Plain laws of cycles, cutsets and swaps in a spanning tree, as the program returns them. -/
namespace Go.Proofs.YtghigdcpinengaaGreat
open Go.RowKit

theorem edgFrom_ok {m : Nat} : ∀ {t : List Nat} {p : Option Int}, t.Pairwise (· < ·) → (∀ e ∈ t, e < m) → (∀ y, p = some y → ∀ e ∈ t, y < (e : Int)) → edgFrom m p (nI t) = 0
  | [], _, _, _, _ => rfl
  | e :: t, p, h1, h2, h3 => by
    have he := h2 e (by simp)
    show (if (e : Int) < 0 ∨ (m : Int) ≤ (e : Int) then 2 else if leP p (e : Int) = true then 9 else edgFrom m (some (e : Int)) (nI t)) = 0
    rw [if_neg (by omega), if_neg]
    · rw [List.pairwise_cons] at h1
      refine edgFrom_ok h1.2 (fun x hx => h2 x (by simp [hx])) ?_
      rintro y hy x hx
      injection hy with hy
      have := h1.1 x hx
      omega
    · unfold leP
      cases p with
      | none => simp
      | some y =>
        have := h3 y rfl e (by simp)
        simp; omega
theorem edg_ok {m : Nat} {t : List Nat} (h : SetN m t) : edgErr m (nI t) = 0 := edgFrom_ok h.1 h.2 (fun y hy => by cases hy)
theorem tree_ok {m : Nat} {es : List E3} {t : List Nat} (hj : joinErr m es = 0) (h : IsTr m (endsL es) t) : treeErr m es (nI t) = 0 := by
  have hl := h.len
  have e2 : (nI t).map Int.toNat = t := toN_nI t
  unfold treeErr
  rw [if_neg (fun hc => hc hj), if_neg (fun hc => hc (edg_ok h.set)), if_neg (by rw [nI_length]; omega), e2, if_pos (foB_iff.2 h.fo)]
end Go.Proofs.YtghigdcpinengaaGreat

/-! Plain laws for BurningAgrees: the waves have the same vertices as the order of burning; both orders prove that all burns; otherwise the unburnt vertices block. No program is in sight. -/
namespace Go.Proofs.YtghigdcpinengaaGreat

section
variable {es : List E3} {cs : List Int} {n : Nat}
theorem burn_proves (he : LOk n []) : ∀ (k : Nat) (l : List Nat), ∃ r, burnL es cs n k l = l ++ r ∧ provFrom es cs l r = true
  | 0, l => ⟨[], by simp [burnL], rfl⟩
  | k + 1, l => by
    cases hv : (readyL es cs n l).head? with
    | none => exact ⟨[], by rw [burnL_stop hv]; simp, rfl⟩
    | some v =>
      obtain ⟨r, h1, h2⟩ := burn_proves he k (l ++ [v])
      refine ⟨v :: r, by rw [burnL_step hv, h1]; simp, ?_⟩
      rw [provFrom, h2, decide_eq_true (head_ready hv).2.2]; rfl
end

theorem ren_zero {n : Nat} {l : List Nat} (h : LOk n l) (hl : l.length = n) : renErr n (natsI l) = 0 := by
  have key : ∀ (r s : List Nat), (s ++ r).Nodup → (∀ v ∈ r, v < n) → renFrom n (natsI s) (natsI r) = 0 := by
    intro r
    induction r with
    | nil => intro s _ _; simp [natsI, renFrom]
    | cons v r ih =>
      intro s hn hv
      have h1 := hv v (by simp)
      have h2 : v ∉ s := fun hc => by
        rw [List.nodup_append] at hn
        exact hn.2.2 v hc v (by simp) rfl
      have e : natsI (v :: r) = (v : Int) :: natsI r := rfl
      rw [e, renFrom, if_neg (by omega), if_neg (fun hc => h2 (natsI_mem.1 hc)), ← natsI_snoc]
      exact ih (s ++ [v]) (by simpa using hn) fun u hu => hv u (by simp [hu])
  unfold renErr
  rw [if_neg (by rw [natsI_length]; omega)]
  exact key l [] (by simpa using h.1) h.2
theorem ver_true {n q : Nat} {es : List E3} {cs : List Int} {r : List Nat} (hz : burnErr n es q cs = 0) (h : LOk n ([q] ++ r)) (hl : ([q] ++ r).length = n) (hp : provFrom es cs [q] r = true) : verErr n es q cs (natsI ([q] ++ r)) = 0 ∧ verB n es q cs (natsI ([q] ++ r)) = true := by
  have h1 : verErr n es q cs (natsI ([q] ++ r)) = 0 := by unfold verErr; rw [if_neg (by omega)]; exact ren_zero h hl
  refine ⟨h1, ?_⟩
  unfold verB
  rw [if_pos h1, nats_toNat, natsI_getD]
  unfold provL
  simp [hp]
end Go.Proofs.YtghigdcpinengaaGreat

/-! ref13.All: the spanning trees among all sets, in order. -/
namespace Go.Proofs.YtghigdcpinengaaGreat
open Go.RowKit

theorem RowsR.of_pairs {w : World} {base : Nat} {A : Option Addr} {c : Nat} {ps : List RowV} (h : w.ownsRow base 25 1 (.slice A ps.length c) ps.length (vals ps)) (hv : ∀ p ∈ ps, ∃ A' c', p.1 = .slice A' p.2.length c' ∧ Reads w w.heap.size 1 A' p.2.length (ints p.2)) : RowsR w w.heap.size A (ps.map Prod.snd) := by
  refine ⟨vals ps, by rw [List.length_map]; exact Reads.of_own h, fun i xs hi => ?_⟩
  rw [List.getElem?_map] at hi
  rcases hp : ps[i]? with _ | p
  · rw [hp] at hi; cases hi
  · rw [hp] at hi
    injection hi with hi
    obtain ⟨A', c', e, hr⟩ := hv p (List.mem_of_getElem? hp)
    subst hi
    exact ⟨A', c', by simp [vals, hp, e], hr⟩

end Go.Proofs.YtghigdcpinengaaGreat

/-! Package tree: All for all graphs; Count. -/
namespace Go.Proofs.YtghigdcpinengaaGreat
open Go.RowKit

theorem tall_any (n : Int) (A : Option Addr) (c : Nat) (es : List E3) (hn : es.length ≤ 10000) (hl : (tallE n es).1.length ≤ 16384) (w : World) (h : Reads w w.heap.size 3 A es.length (edgeCells es)) :
    Calls Tryz.prog 44 #[.agg #[.int .i64 n, .slice A es.length c]] w fun e w' => ∃ Ar cr vs, e = .returned (.tuple #[.slice Ar (tallE n es).1.length cr, .int .i64 (tallE n es).2]) ∧ OwnRows w' w.heap.size Ar cr vs (tallE n es).1 ∧ Below w.heap.size w w' := by
  by_cases hj : joinErr n es = 0
  · obtain ⟨_, hG, _⟩ := join_zero hj
    obtain ⟨m, rfl⟩ := Int.eq_ofNat_of_zero_le (show 0 ≤ n by have := hG.lo; omega)
    have hE : tallE m es = ((treesT m (endsL es)).map nI, 0) := by unfold tallE; rw [if_neg (fun hc => hc hj), Int.toNat_natCast]
    rw [hE] at hl ⊢
    dsimp only at hl ⊢
    rw [List.length_map] at hl ⊢
    exact tall_ok m A c es hn hj _ rfl hl w h
  · exact tall_err n A c es hn w h hj

end Go.Proofs.YtghigdcpinengaaGreat

/-! treebijection.lit: the fire of a right graph, made and burnt. -/
namespace Go.Proofs.YtghigdcpinengaaGreat
open Go.RowKit

theorem Blk.newL {w : World} {g : Nat} {t : TypeId} {cs : Array Value} (hg : g = w.heap.size) : Blk (w.alloc (.cells cs t)) g t cs := by subst hg; exact Blk.new w t cs
theorem own_made {wx : World} {n g base : Nat} (hb : Blk wx g 3 (ints (List.replicate n 0)).toArray) (hg : base ≤ g) (hn : n ≤ 12) : OwnI wx base (some ⟨g, 0, none⟩) n (List.replicate n 0) := by
  have := OwnI.of_blk (l := List.replicate n 0) hb hg (by simp only [List.length_replicate, maxLen]; omega)
  rw [List.length_replicate] at this
  exact this
theorem fire_leaf {wx : World} {n base bp gB gT cr : Nat} {Ar : Option Addr} {lv : Value} {E : List (Nat × Nat)}
    (hp : Blk wx bp 89 #[.slice Ar E.length cr, lv, .slice (some ⟨gB, 0, none⟩) n n, .slice (some ⟨gT, 0, none⟩) n n, .slice none 0 0, .slice none 0 0, .slice none 0 0, .slice none 0 0])
    (hE : Reads wx base 2 Ar E.length (pair2 E)) (hB : Blk wx gB 4 (bools (List.replicate n false))) (hT : Blk wx gT 3 (ints (List.replicate n 0)).toArray) (h1 : base ≤ bp) (h2 : base ≤ gB) (h3 : base ≤ gT) (hn : n ≤ 12) :
    ∃ a, FireW wx base bp E n lv a (fire0 n) [] := by
  refine ⟨⟨Ar, cr, gB, gT, none, 0, none, 0, none, 0, none, 0⟩, ?_⟩
  have hb : bntL n [] = List.replicate n false := by
    apply List.ext_getElem (by simp [bntL])
    intro i h1 h2
    simp [bntL]
  have nb : ∀ A : Option Addr, Dj A none := fun A k _ h => by obtain ⟨a, h, _⟩ := h; cases h
  have nb' : ∀ A : Option Addr, Dj none A := fun A k h _ => by obtain ⟨a, h, _⟩ := h; cases h
  exact { blk := hp, ends := hE, burnt := by show Blk wx gB _ (bools (bntL n [])); rw [hb]; exact hB, hb := h1, hgB := h2, times := own_made hT h3 hn, tlen := by simp [fire0], steps := OwnI.nil_ _ _, order := OwnI.nil_ _ _, tree := OwnI.nil_ _ _, next := OwnI.nil_ _ _,
          tS := nb _, tO := nb _, tD := nb _, tH := nb _, sO := nb _, sD := nb _, sH := nb _, oD := nb _, oH := nb _, dH := nb _ }

theorem lit_leaf {w wx : World} {base bp gB gT n cr : Nat} {Ar : Option Addr} {lv : Value} {E : List (Nat × Nat)}
    (hp : Blk wx bp 89 #[.slice Ar E.length cr, lv, .slice (some ⟨gB, 0, none⟩) n n, .slice (some ⟨gT, 0, none⟩) n n, .slice none 0 0, .slice none 0 0, .slice none 0 0, .slice none 0 0])
    (hE : Reads wx base 2 Ar E.length (pair2 E)) (hB : Blk wx gB 4 (bools (List.replicate n false))) (hT : Blk wx gT 3 (ints (List.replicate n 0)).toArray) (h1 : base ≤ bp) (h2 : base ≤ gB) (h3 : base ≤ gT) (hn : n ≤ 12) (hb : Below w.heap.size w wx) (hs : base ≤ wx.heap.size) :
    ∃ bp' a, Value.pointer (some ⟨bp, 0, none⟩) = Value.pointer (some ⟨bp', 0, none⟩) ∧ Hid (FireW wx base bp' E n lv a (fire0 n) []) ∧ Hid (Below w.heap.size w wx) ∧ Hid (base ≤ wx.heap.size) := by
  obtain ⟨a, ha⟩ := fire_leaf hp hE hB hT h1 h2 h3 hn
  exact ⟨bp, a, rfl, ha, hb, hs⟩

set_option maxRecDepth 100000 in
set_option maxHeartbeats 8000000 in
theorem lit_any (n q F : Nat) (y : Value) (lit : Nat → Nat → Int → Bool) (A : Option Addr) (c : Nat) (es : List E3) (hn : n ≤ 12) (hq : q < n) (hlen : es.length ≤ 10000) (hz : checkG n es = 0) (hm : (endsL es).length ≤ 60) (hE : BdP n (endsL es)) (w : World) (h : Reads w w.heap.size 3 A es.length (edgeCells es))
    (eg : ∀ args w, (callFunc F args).run Tryz.prog w = .ok (.enter F args) w) (hL : ∀ W x e t, Below w.heap.size w W → x < n → e < (endsL es).length → Calls Tryz.prog F #[y, .int .i64 (x : Int), .int .i64 (e : Int), .int .i64 t] W fun r w' => r = .returned (.bool (lit x e t)) ∧ W = w') :
    Calls Tryz.prog 85 #[.agg #[.int .i64 n, .slice A es.length c], .int .i64 q, .func (.func F) #[y] #[]] w fun e w' => ∃ b, e = .returned (.pointer (some ⟨b, 0, none⟩)) ∧ Hid (∃ a T base, FireW w' base b (endsL es) n (.func (.func F) #[y] #[]) a { runF (endsL es) lit (endsL es).length (fire1 n q) with tree := T } [] ∧ T.Perm (runF (endsL es) lit (endsL es).length (fire1 n q)).tree ∧ T.Pairwise (· ≤ ·) ∧ w.heap.size ≤ base ∧ base ≤ w'.heap.size) ∧ Below w.heap.size w w' := by
  have hG := right_of hz
  have hmk := make_ints n (by omega)
  have hmb := make_bools n (by omega)
  have EC : Hid (∀ W, Below w.heap.size w W → Calls Tryz.prog 103 #[.agg #[.int .i64 n, .slice A es.length c]] W fun e w' => ∃ Ar cr, e = .returned (.tuple #[.slice Ar (endsL es).length cr, .int .i64 0]) ∧ OwnQ w' W.heap.size Ar cr (endsL es) ∧ Below W.heap.size W w') := fun W hB => ends_ok n A c es hlen hz n hG.ok W ((h.below hB).more hB.size)
  have BC := Lib.hid (fun (W : World) (base b : Nat) (a : FireA) (hB : Below w.heap.size w W) (hba : w.heap.size ≤ base) (hF : FireW W base b (endsL es) n (.func (.func F) #[y] #[]) a (fire0 n) []) (hs : base ≤ W.heap.size) => fburn_any base b n q F y lit (endsL es) a hn hq hE hm W hF hs eg (fun W' x e t hW' h1 h2 => hL W' x e t (hB.trans (hW'.mono hba)) h1 h2))
  have g0 := Blk.new w 24 #[.int .i64 n, .slice A es.length c]
  have hB0 : Below w.heap.size w (w.alloc (.cells #[.int .i64 n, .slice A es.length c] 24)) := (Below.refl _ _).alloc (Nat.le_refl _) _
  obtain ⟨E, hEE⟩ : ∃ E, endsL es = E := ⟨_, rfl⟩
  rw [hEE] at EC BC hm ⊢
  have c0 := g0.cell 0
  have c1 := g0.cell 1
  clear h hz hE hL hG hEE eg
  go_enter Tryz.func85, Tryz.ntmps85
  go_wp2_with fail
  refine (EC.out _ hB0).mono ?_
  rintro e w1 ⟨Ar, cr, rfl, o1, hb1⟩
  have hB1 := hB0.trans (hb1.mono hB0.size)
  have g1 := g0.next hb1
  have k0 := g1.cell 0
  have R1 := Lib.hid (Reads.of_own o1)
  have HB1 := Lib.hid hB1
  have hs1 := hB1.size
  have hz1 : w.heap.size < w1.heap.size := g1.lt
  clear c0 c1 o1
  go_upto_region 2 with fail
  go_cut [9] from 18 to 24 (fun p wx => ∃ bp a, p = .pointer (some ⟨bp, 0, none⟩) ∧ Hid (FireW wx w1.heap.size bp E n (.func (.func F) #[y] #[]) a (fire0 n) []) ∧ Hid (Below w.heap.size w wx) ∧ Hid (w1.heap.size ≤ wx.heap.size))
  case first =>
    go_region_held3 (fun W => W.cell? ⟨w.heap.size, 0, none⟩ = some (.int .i64 n)) (first | exact (g1.alloc _).cell 0 | exact ((g1.alloc _).alloc _).cell 0 | exact (((g1.alloc _).alloc _).alloc _).cell 0 | exact (Blk.drew (((g1.alloc _).alloc _).alloc _)).cell 0 | exact (Blk.drew ((g1.alloc _).alloc _)).cell 0 | exact (Blk.drew (g1.alloc _)).cell 0 | go_keep) (fail)
    all_goals
      go_wp2
      go_meet
      refine lit_leaf (Blk.newL (by first | rfl | simp)) ?_ ?_ ?_ ?_ ?_ ?_ hn ?_ ?_
      · exact (((R1.out.alloc (Nat.le_refl _) _).alloc (by simp) _).alloc (by simp; omega) _)
      · first
          | (refine ((Blk.newL ?_).alloc _); simp; done)
          | (refine (((Blk.newL ?_).alloc _).alloc _); simp; done)
      · first
          | (refine ((Blk.newL ?_).alloc _); simp; done)
          | (refine (((Blk.newL ?_).alloc _).alloc _); simp; done)
      · first | omega | (simp; done) | (simp; omega)
      · first | omega | (simp; done) | (simp; omega)
      · first | omega | (simp; done) | (simp; omega)
      · first | exact Below.drew (((HB1.out.alloc hs1 _).alloc (by simp; omega) _).alloc (by simp; omega) _) | exact (((HB1.out.alloc hs1 _).alloc (by simp; omega) _).alloc (by simp; omega) _)
      · first | omega | (simp; done) | (simp; omega) | (simp [World.drew]; done) | (simp [World.drew]; omega)
  case rest =>
    obtain ⟨bp, a, rfl, F1, B1, Z1⟩ := hcut
    clear g1 k0
    go_wp2_with fail
    refine (BC.out _ _ bp a B1.out hs1 F1.out Z1.out).mono ?_
    rintro e w2 ⟨rfl, HI⟩
    have HR : Hid (∃ a T base, FireW w2 base bp E n (.func (.func F) #[y] #[]) a { runF E lit E.length (fire1 n q) with tree := T } [] ∧ T.Perm (runF E lit E.length (fire1 n q)).tree ∧ T.Pairwise (· ≤ ·) ∧ w.heap.size ≤ base ∧ base ≤ w2.heap.size) := by
      obtain ⟨a', T, f, p, so, hbb⟩ := HI.out
      exact ⟨a', T, _, f, p, so, hs1, Nat.le_trans Z1.out hbb.size⟩
    have HB : Hid (Below w.heap.size w w2) := by
      obtain ⟨a', T, f, p, so, hbb⟩ := HI.out
      exact B1.out.trans (hbb.mono hs1)
    go_wp2
    go_ret
    exact ⟨bp, rfl, HR, HB.out⟩
end Go.Proofs.YtghigdcpinengaaGreat

/-! Package recurrent: settled. -/
namespace Go.Proofs.YtghigdcpinengaaGreat
open Go.RowKit

theorem conf_of {n q : Nat} {es : List E3} {d : List Int} (hx : rootErr n es q = 0) (hd : d.length = n) (hlo : ∀ x ∈ d, -1048576 ≤ x) (hhi : ∀ x ∈ d, x ≤ 1048576) (h0 : ∀ v, v < n → v ≠ q → 0 ≤ d.getD v 0) : confErr n es q d = 0 := by
  obtain ⟨_, hG, _, hq⟩ := root_zero hx
  have h1 := hG.lo
  have h2 := hG.hi
  unfold confErr
  rw [if_neg (by omega)]
  have hdv : divErr d n = 0 := by
    unfold divErr
    rw [if_neg (by omega), if_neg (by omega), if_pos]
    rw [List.all_eq_true]
    intro x hx
    exact chipB_true.2 ⟨hlo x hx, hhi x hx⟩
  rw [if_neg (by omega)]
  have hdb : debtTo d q d.length = false := by
    unfold debtTo
    rw [List.any_eq_false]
    intro v hv
    have hv := List.mem_range.1 hv
    by_cases hq : v = q
    · subst hq; simp
    · have := h0 v (by omega) hq
      rw [Bool.and_eq_true]
      rintro ⟨_, h⟩
      have := of_decide_eq_true h
      omega
  rw [hdb]
  rfl

end Go.Proofs.YtghigdcpinengaaGreat

/-! The superstable configurations, listed: what comes of the iterator; no vertex with 600 chips burns. -/
namespace Go.Proofs.YtghigdcpinengaaGreat
open Go.RowKit

def calmB (n : Nat) (es : List E3) (q : Nat) (c : List Int) : Bool := (superE n es q c).1 && decide ((superE n es q c).2 = 0)
/-- What comes: c begun, m vertices still to come. -/
def enumF (n q : Nat) (P : List Int → Bool) : Nat → List Int → List (List Int)
  | 0, c => [c]
  | m + 1, c => if n - (m + 1) = q then enumF n q P m c else ((List.range' 0 601).takeWhile fun j : Nat => P (c.set (n - (m + 1)) (j : Int))).flatMap fun j : Nat => enumF n q P m (c.set (n - (m + 1)) (j : Int))
theorem enumF_sink {n q : Nat} {P : List Int → Bool} {m v : Nat} {c : List Int} (hv : v + (m + 1) = n) (hq : v = q) : enumF n q P (m + 1) c = enumF n q P m c := by
  rw [enumF, if_pos (by omega)]
end Go.Proofs.YtghigdcpinengaaGreat

/-! Package recurrent: the iterator recurrents, which ranges over itself. -/
namespace Go.Proofs.YtghigdcpinengaaGreat
open Go.RowKit Go.Shelf
attribute [local go_sem] Oper.semAt_some

/-- What holds between two rounds; K: what is leant on. -/
structure RF (K : Nat → Prop) (l : Nat) (J : List (List Int) → (Nat → Prop) → World → Prop) (W : World) (pre : List (List Int)) (C : Nat → Prop) (ds : List Deferred) (B : Nat) (w : World) : Prop where
  sz : W.heap.size < B
  szw : B ≤ w.heap.size
  kp : ∀ k, K k → k < W.heap.size ∧ w.heap[k]? = W.heap[k]?
  yb : Blk w W.heap.size 144 #[.func (.yield l) #[] #[]]
  j : J pre C w
  cl : ∀ k, C k → k < w.heap.size ∧ ¬ K k ∧ k ≠ W.heap.size
  mks : MarksAt ds w
  md : ∀ D, ({ target := .collected D, args := #[] } : Deferred) ∈ ds → W.heap.size < D ∧ D < B ∧ ¬ C D

section
variable {K : Nat → Prop} {l : Nat} {J : List (List Int) → (Nat → Prop) → World → Prop} {W : World} {pre pre' : List (List Int)} {C O C' : Nat → Prop} {ds : List Deferred} {B B' : Nat} {w w' : World}
theorem RF.stays (h : RF K l J W pre C ds B w) (hJ : Bears W.heap.size (fun _ => False) J) (hB : B ≤ B') (hst : Stays B' (fun _ => False) C w w') : RF K l J W pre C ds B w' := by
  have hsz := h.sz
  have hszw := h.szw
  refine ⟨h.sz, Nat.le_trans h.szw hst.size, fun k hk => ?_, h.yb.stays hst (.inr ⟨by omega, id⟩), ?_, ?_, ?_, h.md⟩
  · obtain ⟨h1, h2⟩ := h.kp k hk
    exact ⟨h1, (hst.block k (by omega) (.inr ⟨by omega, id⟩)).trans h2⟩
  · exact hJ _ _ _ _ h.j (hst.mono fun k _ hk => hk.imp id fun hk => ⟨by omega, hk.2⟩)
  · intro k hk
    obtain ⟨h1, h2⟩ := h.cl k hk
    exact ⟨Nat.lt_of_lt_of_le h1 hst.size, h2⟩
  · refine h.mks.keep fun D hD => ?_
    have := h.md D hD
    exact hst.block D (by omega) (.inr ⟨by omega, id⟩)
theorem RF.raise (h : RF K l J W pre C ds B w) (hB : B ≤ B') (hw : B' ≤ w.heap.size) : RF K l J W pre C ds B' w :=
  { h with sz := Nat.lt_of_lt_of_le h.sz hB, szw := hw, md := fun D hD => ⟨(h.md D hD).1, Nat.lt_of_lt_of_le (h.md D hD).2.1 hB, (h.md D hD).2.2⟩ }
theorem RF.round (h : RF K l J W pre C ds B w) (ho : Only (fun k => C k ∨ O k) w w') (hg : Grows C O C' w w') (hO : ∀ k, O k → B ≤ k ∧ k < w.heap.size) (hj : J pre' C' w') : RF K l J W pre' C' ds B w' := by
  have hsz := h.sz
  have hszw := h.szw
  have hnot : ∀ k, k < B → ¬ C k → ¬ (C k ∨ O k) := fun k hk hn hco => hco.elim hn fun hok => by have := (hO k hok).1; omega
  refine ⟨h.sz, Nat.le_trans h.szw ho.size, fun k hk => ?_, h.yb.only ho (hnot _ (by omega) fun hc => (h.cl W.heap.size hc).2.2 rfl), hj, ?_, ?_, ?_⟩
  · obtain ⟨h1, h2⟩ := h.kp k hk
    exact ⟨h1, (ho.block k (by omega) (hnot k (by omega) fun hc => (h.cl k hc).2.1 hk)).trans h2⟩
  · intro k hk
    rcases hg k hk with hc | hc | hc
    · obtain ⟨q1, q2⟩ := h.cl k hc
      exact ⟨Nat.lt_of_lt_of_le q1 ho.size, q2⟩
    · have := hO k hc
      exact ⟨Nat.lt_of_lt_of_le this.2 ho.size, (fun e => by have := (h.kp k e).1; omega), by omega⟩
    · exact ⟨hc.2, (fun e => by have := (h.kp k e).1; omega), by omega⟩
  · refine h.mks.keep fun D hD => ?_
    have := h.md D hD
    exact ho.block D (by omega) (hnot D (by omega) this.2.2)
  · intro D hD
    have := h.md D hD
    refine ⟨this.1, this.2.1, fun hc => ?_⟩
    rcases hg D hc with q | q | q
    · exact this.2.2 q
    · have := (hO D q).1; omega
    · omega
end

/-- What the iterator leans on. -/
def KR (bp bv bt : Nat) (es : List E3) (A C T : Option Addr) (k : Nat) : Prop := k = bp ∨ k = bv ∨ k = bt ∨ (es.length ≠ 0 ∧ blockOf A k) ∨ blockOf C k ∨ blockOf T k
structure RecW (w : World) (n q v bp bv bt : Nat) (es : List E3) (A : Option Addr) (cA : Nat) (C : Option Addr) (cC : Nat) (T : Option Addr) (cT : Nat) (cs top : List Int) : Prop where
  p : Blk w bp 117 #[.int .i64 n, .slice A es.length cA, .int .i64 q, .slice C n cC]
  v : Blk w bv 3 #[.int .i64 v]
  t : Blk w bt 26 #[.slice T n cT]
  e : Reads w w.heap.size 3 A es.length (edgeCells es)
  c : Reads w w.heap.size 1 C n (ints cs)
  r : Reads w w.heap.size 1 T n (ints top)
section
variable {w w' : World} {n q v bp bv bt : Nat} {es : List E3} {A C T : Option Addr} {cA cC cT : Nat} {cs top : List Int}
theorem RecW.kept (h : RecW w n q v bp bv bt es A cA C cC T cT cs top) (hs : w.heap.size ≤ w'.heap.size) (hk : ∀ k, KR bp bv bt es A C T k → w'.heap[k]? = w.heap[k]?) : RecW w' n q v bp bv bt es A cA C cC T cT cs top := by
  refine ⟨(hk _ (.inl rfl)).trans h.p, (hk _ (.inr (.inl rfl))).trans h.v, (hk _ (.inr (.inr (.inl rfl)))).trans h.t, ⟨h.e.1, fun hn => ?_⟩, ⟨h.c.1, fun hn => ?_⟩, ⟨h.r.1, fun hn => ?_⟩⟩
  · obtain ⟨b, off, hA, hb, hc⟩ := h.e.2 hn
    exact ⟨b, off, hA, by omega, fun j u hu => (World.cell?_of_block (w := w) (hk b (.inr (.inr (.inr (.inl ⟨by omega, _, hA, rfl⟩)))))).trans (hc j u hu)⟩
  · obtain ⟨b, off, hA, hb, hc⟩ := h.c.2 hn
    exact ⟨b, off, hA, by omega, fun j u hu => (World.cell?_of_block (w := w) (hk b (.inr (.inr (.inr (.inr (.inl ⟨_, hA, rfl⟩))))))).trans (hc j u hu)⟩
  · obtain ⟨b, off, hA, hb, hc⟩ := h.r.2 hn
    exact ⟨b, off, hA, by omega, fun j u hu => (World.cell?_of_block (w := w) (hk b (.inr (.inr (.inr (.inr (.inr ⟨_, hA, rfl⟩))))))).trans (hc j u hu)⟩
theorem RecW.lt (h : RecW w n q v bp bv bt es A cA C cC T cT cs top) (hn : 0 < n) {k : Nat} (hk : KR bp bv bt es A C T k) : k < w.heap.size := by
  rcases hk with rfl | rfl | rfl | ⟨he, ad, hA, hk⟩ | ⟨ad, hA, hk⟩ | ⟨ad, hA, hk⟩
  · exact h.p.lt
  · exact h.v.lt
  · exact h.t.lt
  · obtain ⟨b, off, e, hb, _⟩ := h.e.2 (by omega)
    rw [e] at hA; injection hA with hA; subst hA; subst hk; exact hb
  · obtain ⟨b, off, e, hb, _⟩ := h.c.2 hn
    rw [e] at hA; injection hA with hA; subst hA; subst hk; exact hb
  · obtain ⟨b, off, e, hb, _⟩ := h.r.2 hn
    rw [e] at hA; injection hA with hA; subst hA; subst hk; exact hb
theorem RecW.next (h : RecW w n q v bp bv bt es A cA C cC T cT cs top) (hn : 0 < n) (hb : Below w.heap.size w w') : RecW w' n q v bp bv bt es A cA C cC T cT cs top := h.kept hb.size fun k hk => hb.block k (h.lt hn hk)
end

set_option maxHeartbeats 1000000 in
theorem frecs_any (n m c : Nat) (A : Option Addr) (q : Int) (B : Option Addr) (k d : Nat) (v : Int) (T : Option Addr) (kT cT : Nat) (w : World) :
    Calls Tryz.prog 83 #[.agg #[.int .i64 n, .slice A m c, .int .i64 q, .slice B k d], .int .i64 v, .slice T kT cT] w fun e w' => e = .returned (.func (.func 115) #[] #[.pointer (some ⟨w.heap.size, 0, none⟩), .pointer (some ⟨w.heap.size + 1, 0, none⟩), .pointer (some ⟨w.heap.size + 1 + 1, 0, none⟩)]) ∧
      ((w.alloc (.cells #[.int .i64 n, .slice A m c, .int .i64 q, .slice B k d] 117)).alloc (.cells #[.int .i64 v] 3)).alloc (.cells #[.slice T kT cT] 26) = w' := by
  have hmf : ∀ (fn : Fn) (first cap : Array Value) (w : World), (Instr.makeFunc fn first cap).run Tryz.prog w = .ok (.func fn first cap) w := fun _ _ _ _ => rfl
  go_enter Tryz.func83, Tryz.ntmps83
  go_wp2
  go_ret
  exact ⟨rfl, rfl⟩
end Go.Proofs.YtghigdcpinengaaGreat

/-! ref24.Banned: is a set forbidden? -/
namespace Go.Proofs.YtghigdcpinengaaGreat
open Go.RowKit

end Go.Proofs.YtghigdcpinengaaGreat

/-! recurrent.Verify. -/
namespace Go.Proofs.YtghigdcpinengaaGreat
open Go.RowKit

/-- Does each vertex of a list catch fire when the earlier ones burn? -/
def prvFrom (es : List E3) (cs : List Int) : List Nat → List Nat → Bool
  | _, [] => true
  | s, x :: r => catchB es cs s x && prvFrom es cs (s ++ [x]) r
def prvL (es : List E3) (cs : List Int) (l : List Nat) : Bool := prvFrom es cs (l.take 1) (l.drop 1)
/-- What Verify returns. -/
def rverB (n : Int) (es : List E3) (q : Int) (cs xs : List Int) : Bool := if verErr n es q cs xs = 0 then decide (xs.getD 0 0 = q) && stabTo es cs q.toNat n.toNat && prvL es cs (xs.map Int.toNat) else false

end Go.Proofs.YtghigdcpinengaaGreat

