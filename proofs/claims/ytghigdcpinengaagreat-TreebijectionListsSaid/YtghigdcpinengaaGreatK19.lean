/-
  Texts of this claim, put together: Lights, LitF, Results, Conn.
-/
import Derived.Test.YtghigdcpinengaaGreatK01
import Derived.Test.YtghigdcpinengaaGreatK18
import Derived.Deep.QuietTactic
import Derived.BigQuiet
import Derived.BigRegion
import Derived.Test.YtghigdcpinengaaGreatK10
import Derived.Test.YtghigdcpinengaaGreatK12
import Derived.Deep.RegionHeld3
import Derived.Deep.CutBlock
import Derived.Deep.RegionLaw
import Derived.Test.YtghigdcpinengaaGreatRows
import Derived.Laws.Rows
import Derived.Laws.ResultCell
import Derived.Test.YtghigdcpinengaaGreatK09
import Derived.Test.YtghigdcpinengaaGreatK08
import Derived.Test.YtghigdcpinengaaGreatK06
import Derived.Maps.Own
import Derived.Maps.OwnOps
/-! slices.Index and Contains on branches. -/
namespace Go.Proofs.YtghigdcpinengaaGreat
open Go.RowKit

set_option maxHeartbeats 1000000 in
theorem bindex_any (A : Option Addr) (c : Nat) (xs : List Int) (hn : xs.length ≤ 1048576) (v : Int) (w : World) (h : Reads w w.heap.size 1 A xs.length (ints xs)) :
    Calls Tryz.prog 143 #[.slice A xs.length c, .int .i64 v] w fun e w' => ∃ r : Int, e = .returned (.int .i64 r) ∧ Hid (0 ≤ r ↔ v ∈ xs) ∧ w = w' := by
  go_enter Tryz.func143, Tryz.ntmps143
  go_wp2
  go_loop [8] (fun i => ∃ k : Nat, k ≤ xs.length ∧ i = .int .i64 k ∧ Hid (v ∉ xs.take k)) (fun i => xs.length - (intOf i).toNat)
  case atStart => exact ⟨0, by omega, rfl, by simp [Hid]⟩
  case round =>
    obtain ⟨k, hk, rfl, HS⟩ := hrel
    by_cases hlt : k < xs.length
    · obtain ⟨x, hx⟩ := get_of_lt hlt
      obtain ⟨b, off, rfl, hb, hcell⟩ := h.at_ (ints_at hx)
      have hi : (k : Int) < (xs.length : Int) := by omega
      have htk := take_snoc hx
      by_cases hv : v = x
      · have e : (v == x) = true := by simpa using hv
        have HT : Hid (v ∈ xs) := by rw [hv]; exact List.mem_of_getElem? hx
        clear hx htk hv
        go_wp2
        go_ret
        exact ⟨k, rfl, ⟨fun _ => HT.out, fun _ => by omega⟩, rfl⟩
      · have e : (v == x) = false := by simpa using hv
        have HN : Hid (v ∉ xs.take (k + 1)) := by
          rw [htk, Hid, List.mem_append]
          rintro (hc | hc)
          · exact HS.out hc
          · exact hv (List.mem_singleton.1 hc)
        clear hx htk hv
        go_wp2
        go_round
        case rel => exact ⟨k + 1, by omega, by go_num, HN⟩
        case measure => simp [intOf]; omega
    · obtain rfl : k = xs.length := by omega
      rw [List.take_length] at HS
      go_wp2
      go_ret
      exact ⟨-1, rfl, ⟨fun h => absurd h (by decide), fun h => absurd h HS.out⟩, rfl⟩
set_option maxHeartbeats 1000000 in
theorem bcontains_any (A : Option Addr) (c : Nat) (xs : List Int) (hn : xs.length ≤ 1048576) (v : Int) (w : World) (h : Reads w w.heap.size 1 A xs.length (ints xs)) :
    Calls Tryz.prog 119 #[.slice A xs.length c, .int .i64 v] w fun e w' => e = .returned (.bool (decide (v ∈ xs))) ∧ w = w' := by
  have IC := Lib.hid (bindex_any A c xs hn v w h)
  go_enter Tryz.func119, Tryz.ntmps119
  go_wp2_with fail
  refine (IC.out).mono ?_
  rintro e w1 ⟨r, rfl, HR, rfl⟩
  go_wp2
  go_ret
  exact ⟨ret_bool (by rw [Bool.eq_iff_iff]; simp [HR.out]), rfl⟩


set_option maxHeartbeats 1000000 in
/-- A vertex burns by its chips. -/
theorem clights_any (B : Option Addr) (d n : Nat) (cs : List Int) (hl : cs.length = n) (v e : Nat) (t : Int) (hv : v < n) (w : World) (h : Reads w w.heap.size 1 B n (ints cs)) :
    Calls Tryz.prog 86 #[.slice B n d, .int .i64 (v : Int), .int .i64 (e : Int), .int .i64 t] w fun r w' => r = .returned (.bool (ltC cs v e t)) ∧ w = w' := by
  obtain ⟨x, hx⟩ := get_of_lt (xs := cs) (k := v) (by omega)
  obtain ⟨b, off, rfl, hb, hcell⟩ := h.at_ (ints_at hx)
  have hi : (v : Int) < (n : Int) := by omega
  have hlt : ltC cs v e t = decide (x ≤ t) := by unfold ltC; rw [List.getD_eq_getElem?_getD, hx]; rfl
  rw [hlt]
  clear hx hlt hl h
  by_cases hxt : x ≤ t
  · rw [decide_eq_true hxt]
    go_enter Tryz.func86, Tryz.ntmps86
    go_wp2
    go_ret
    exact ⟨ret_bool (by simp), rfl⟩
  · rw [decide_eq_false hxt]
    go_enter Tryz.func86, Tryz.ntmps86
    go_wp2
    go_ret
    exact ⟨ret_bool (by simp), rfl⟩
/-- .. by its single edge of a tree. -/
theorem blights_any (B : Option Addr) (d : Nat) (t : List Nat) (ht : t.length ≤ 1048576) (v e : Nat) (k : Int) (w : World) (h : Reads w w.heap.size 1 B t.length (ints (nI t))) :
    Calls Tryz.prog 90 #[.slice B t.length d, .int .i64 (v : Int), .int .i64 (e : Int), .int .i64 k] w fun r w' => r = .returned (.bool (ltB t v e k)) ∧ w = w' := by
  have HC : Hid (Calls Tryz.prog 119 #[.slice B t.length d, .int .i64 (e : Int)] w fun e_ w' => e_ = .returned (.bool (ltB t v e k)) ∧ w = w') := by
    have := bcontains_any B d (nI t) (by rw [nI_length]; exact ht) (e : Int) w (by rw [nI_length]; exact h)
    rw [nI_length] at this
    have e1 : decide ((e : Int) ∈ nI t) = ltB t v e k := by
      unfold ltB nI
      rw [Bool.eq_iff_iff, decide_eq_true_eq, decide_eq_true_eq, List.mem_map]
      exact ⟨fun ⟨a, ha, hae⟩ => by have : a = e := by omega
                                    exact this ▸ ha, fun h => ⟨e, h, rfl⟩⟩
    rw [e1] at this
    exact this
  obtain ⟨r, hr⟩ : ∃ r, ltB t v e k = r := ⟨_, rfl⟩
  rw [hr] at HC ⊢
  clear hr
  go_enter Tryz.func90, Tryz.ntmps90
  go_wp2_with fail
  refine (HC.out).mono ?_
  rintro e_ w1 ⟨rfl, rfl⟩
  go_wp2
  go_ret
  exact ⟨rfl, rfl⟩
end Go.Proofs.YtghigdcpinengaaGreat

/-! treebijection.lit: the fire of a right graph, made and burnt. -/
namespace Go.Proofs.YtghigdcpinengaaGreat
open Go.RowKit

theorem Blk.newL {w : World} {g : Nat} {t : TypeId} {cs : Array Value} (hg : g = w.heap.size) : Blk (w.alloc (.cells cs t)) g t cs := by subst hg; exact Blk.new w t cs
theorem own_made {wx : World} {n g base : Nat} (hb : Blk wx g 3 (ints (List.replicate n 0)).toArray) (hg : base ≤ g) (hn : n ≤ 12) : OwnI wx base (some ⟨g, 0, none⟩) n (List.replicate n 0) := by
  have := OwnI.of_blk (l := List.replicate n 0) hb hg (by simp only [List.length_replicate, maxLen]; omega)
  rw [List.length_replicate] at this
  exact this
theorem fire_leaf {wx : World} {n base bp gB gT cr : Nat} {Ar : Option Addr} {lv : Value} {E : List (Nat × Nat)}
    (hp : Blk wx bp 89 #[.slice Ar E.length cr, lv, .slice (some ⟨gB, 0, none⟩) n n, .slice (some ⟨gT, 0, none⟩) n n, .slice none 0 0, .slice none 0 0, .slice none 0 0, .slice none 0 0])
    (hE : Reads wx base 2 Ar E.length (pair2 E)) (hB : Blk wx gB 4 (bools (List.replicate n false))) (hT : Blk wx gT 3 (ints (List.replicate n 0)).toArray) (h1 : base ≤ bp) (h2 : base ≤ gB) (h3 : base ≤ gT) (hn : n ≤ 12) :
    ∃ a, FireW wx base bp E n lv a (fire0 n) [] := by
  refine ⟨⟨Ar, cr, gB, gT, none, 0, none, 0, none, 0, none, 0⟩, ?_⟩
  have hb : bntL n [] = List.replicate n false := by
    apply List.ext_getElem (by simp [bntL])
    intro i h1 h2
    simp [bntL]
  have nb : ∀ A : Option Addr, Dj A none := fun A k _ h => by obtain ⟨a, h, _⟩ := h; cases h
  have nb' : ∀ A : Option Addr, Dj none A := fun A k h _ => by obtain ⟨a, h, _⟩ := h; cases h
  exact { blk := hp, ends := hE, burnt := by show Blk wx gB _ (bools (bntL n [])); rw [hb]; exact hB, hb := h1, hgB := h2, times := own_made hT h3 hn, tlen := by simp [fire0], steps := OwnI.nil_ _ _, order := OwnI.nil_ _ _, tree := OwnI.nil_ _ _, next := OwnI.nil_ _ _,
          tS := nb _, tO := nb _, tD := nb _, tH := nb _, sO := nb _, sD := nb _, sH := nb _, oD := nb _, oH := nb _, dH := nb _ }

theorem lit_leaf {w wx : World} {base bp gB gT n cr : Nat} {Ar : Option Addr} {lv : Value} {E : List (Nat × Nat)}
    (hp : Blk wx bp 89 #[.slice Ar E.length cr, lv, .slice (some ⟨gB, 0, none⟩) n n, .slice (some ⟨gT, 0, none⟩) n n, .slice none 0 0, .slice none 0 0, .slice none 0 0, .slice none 0 0])
    (hE : Reads wx base 2 Ar E.length (pair2 E)) (hB : Blk wx gB 4 (bools (List.replicate n false))) (hT : Blk wx gT 3 (ints (List.replicate n 0)).toArray) (h1 : base ≤ bp) (h2 : base ≤ gB) (h3 : base ≤ gT) (hn : n ≤ 12) (hb : Below w.heap.size w wx) (hs : base ≤ wx.heap.size) :
    ∃ bp' a, Value.pointer (some ⟨bp, 0, none⟩) = Value.pointer (some ⟨bp', 0, none⟩) ∧ Hid (FireW wx base bp' E n lv a (fire0 n) []) ∧ Hid (Below w.heap.size w wx) ∧ Hid (base ≤ wx.heap.size) := by
  obtain ⟨a, ha⟩ := fire_leaf hp hE hB hT h1 h2 h3 hn
  exact ⟨bp, a, rfl, ha, hb, hs⟩

set_option maxRecDepth 100000 in
set_option maxHeartbeats 8000000 in
theorem lit_any (n q F : Nat) (y : Value) (lit : Nat → Nat → Int → Bool) (A : Option Addr) (c : Nat) (es : List E3) (hn : n ≤ 12) (hq : q < n) (hlen : es.length ≤ 10000) (hz : checkG n es = 0) (hm : (endsL es).length ≤ 60) (hE : BdP n (endsL es)) (w : World) (h : Reads w w.heap.size 3 A es.length (edgeCells es))
    (eg : ∀ args w, (callFunc F args).run Tryz.prog w = .ok (.enter F args) w) (hL : ∀ W x e t, Below w.heap.size w W → x < n → e < (endsL es).length → Calls Tryz.prog F #[y, .int .i64 (x : Int), .int .i64 (e : Int), .int .i64 t] W fun r w' => r = .returned (.bool (lit x e t)) ∧ W = w') :
    Calls Tryz.prog 85 #[.agg #[.int .i64 n, .slice A es.length c], .int .i64 q, .func (.func F) #[y] #[]] w fun e w' => ∃ b, e = .returned (.pointer (some ⟨b, 0, none⟩)) ∧ Hid (∃ a T base, FireW w' base b (endsL es) n (.func (.func F) #[y] #[]) a { runF (endsL es) lit (endsL es).length (fire1 n q) with tree := T } [] ∧ T.Perm (runF (endsL es) lit (endsL es).length (fire1 n q)).tree ∧ T.Pairwise (· ≤ ·) ∧ w.heap.size ≤ base ∧ base ≤ w'.heap.size) ∧ Below w.heap.size w w' := by
  have hG := right_of hz
  have hmk := make_ints n (by omega)
  have hmb := make_bools n (by omega)
  have EC : Hid (∀ W, Below w.heap.size w W → Calls Tryz.prog 103 #[.agg #[.int .i64 n, .slice A es.length c]] W fun e w' => ∃ Ar cr, e = .returned (.tuple #[.slice Ar (endsL es).length cr, .int .i64 0]) ∧ OwnQ w' W.heap.size Ar cr (endsL es) ∧ Below W.heap.size W w') := fun W hB => ends_ok n A c es hlen hz n hG.ok W ((h.below hB).more hB.size)
  have BC := Lib.hid (fun (W : World) (base b : Nat) (a : FireA) (hB : Below w.heap.size w W) (hba : w.heap.size ≤ base) (hF : FireW W base b (endsL es) n (.func (.func F) #[y] #[]) a (fire0 n) []) (hs : base ≤ W.heap.size) => fburn_any base b n q F y lit (endsL es) a hn hq hE hm W hF hs eg (fun W' x e t hW' h1 h2 => hL W' x e t (hB.trans (hW'.mono hba)) h1 h2))
  have g0 := Blk.new w 24 #[.int .i64 n, .slice A es.length c]
  have hB0 : Below w.heap.size w (w.alloc (.cells #[.int .i64 n, .slice A es.length c] 24)) := (Below.refl _ _).alloc (Nat.le_refl _) _
  obtain ⟨E, hEE⟩ : ∃ E, endsL es = E := ⟨_, rfl⟩
  rw [hEE] at EC BC hm ⊢
  have c0 := g0.cell 0
  have c1 := g0.cell 1
  clear h hz hE hL hG hEE eg
  go_enter Tryz.func85, Tryz.ntmps85
  go_wp2_with fail
  refine (EC.out _ hB0).mono ?_
  rintro e w1 ⟨Ar, cr, rfl, o1, hb1⟩
  have hB1 := hB0.trans (hb1.mono hB0.size)
  have g1 := g0.next hb1
  have k0 := g1.cell 0
  have R1 := Lib.hid (Reads.of_own o1)
  have HB1 := Lib.hid hB1
  have hs1 := hB1.size
  have hz1 : w.heap.size < w1.heap.size := g1.lt
  clear c0 c1 o1
  go_upto_region 2 with fail
  go_cut [9] from 18 to 24 (fun p wx => ∃ bp a, p = .pointer (some ⟨bp, 0, none⟩) ∧ Hid (FireW wx w1.heap.size bp E n (.func (.func F) #[y] #[]) a (fire0 n) []) ∧ Hid (Below w.heap.size w wx) ∧ Hid (w1.heap.size ≤ wx.heap.size))
  case first =>
    go_region_held3 (fun W => W.cell? ⟨w.heap.size, 0, none⟩ = some (.int .i64 n)) (first | exact (g1.alloc _).cell 0 | exact ((g1.alloc _).alloc _).cell 0 | exact (((g1.alloc _).alloc _).alloc _).cell 0 | exact (Blk.drew (((g1.alloc _).alloc _).alloc _)).cell 0 | exact (Blk.drew ((g1.alloc _).alloc _)).cell 0 | exact (Blk.drew (g1.alloc _)).cell 0 | go_keep) (fail)
    all_goals
      go_wp2
      go_meet
      refine lit_leaf (Blk.newL (by first | rfl | simp)) ?_ ?_ ?_ ?_ ?_ ?_ hn ?_ ?_
      · exact (((R1.out.alloc (Nat.le_refl _) _).alloc (by simp) _).alloc (by simp; omega) _)
      · first
          | (refine ((Blk.newL ?_).alloc _); simp; done)
          | (refine (((Blk.newL ?_).alloc _).alloc _); simp; done)
      · first
          | (refine ((Blk.newL ?_).alloc _); simp; done)
          | (refine (((Blk.newL ?_).alloc _).alloc _); simp; done)
      · first | omega | (simp; done) | (simp; omega)
      · first | omega | (simp; done) | (simp; omega)
      · first | omega | (simp; done) | (simp; omega)
      · first | exact Below.drew (((HB1.out.alloc hs1 _).alloc (by simp; omega) _).alloc (by simp; omega) _) | exact (((HB1.out.alloc hs1 _).alloc (by simp; omega) _).alloc (by simp; omega) _)
      · first | omega | (simp; done) | (simp; omega) | (simp [World.drew]; done) | (simp [World.drew]; omega)
  case rest =>
    obtain ⟨bp, a, rfl, F1, B1, Z1⟩ := hcut
    clear g1 k0
    go_wp2_with fail
    refine (BC.out _ _ bp a B1.out hs1 F1.out Z1.out).mono ?_
    rintro e w2 ⟨rfl, HI⟩
    have HR : Hid (∃ a T base, FireW w2 base bp E n (.func (.func F) #[y] #[]) a { runF E lit E.length (fire1 n q) with tree := T } [] ∧ T.Perm (runF E lit E.length (fire1 n q)).tree ∧ T.Pairwise (· ≤ ·) ∧ w.heap.size ≤ base ∧ base ≤ w2.heap.size) := by
      obtain ⟨a', T, f, p, so, hbb⟩ := HI.out
      exact ⟨a', T, _, f, p, so, hs1, Nat.le_trans Z1.out hbb.size⟩
    have HB : Hid (Below w.heap.size w w2) := by
      obtain ⟨a', T, f, p, so, hbb⟩ := HI.out
      exact B1.out.trans (hbb.mono hs1)
    go_wp2
    go_ret
    exact ⟨bp, rfl, HR, HB.out⟩
end Go.Proofs.YtghigdcpinengaaGreat

/-! A struct that a function hands back: read out of its box. -/
namespace Go.Proofs.YtghigdcpinengaaGreat
open Go.RowKit
section
variable {fn : Func} {p u v : Tmp} {tmps : Array Value} {w : World} {g : Nat} {cs : Array Value}
theorem info_graph : (Tryz.prog.info? 24).map (·.size) = some 2 := by kernel_rfl
theorem results_g (h : fn.results = #[.cell p 24]) (hp : tmps.getD p undef = .pointer (some ⟨g, 0, none⟩)) (hg : Blk w g 24 cs) (hs : cs.size = 2) :
    (results fn tmps).run Tryz.prog w = .ok (.agg cs) w := by
  exact results_cell_row h tmps w g _ cs _ _ hp hg Tryz.underlying24 rfl (by rw [info_graph, hs])
end
end Go.Proofs.YtghigdcpinengaaGreat

/-! Package connect: the forest of joined vertices. -/
namespace Go.Proofs.YtghigdcpinengaaGreat
open Go.RowKit

set_option maxHeartbeats 1000000 in
theorem root_any (g : Nat) (f : List Nat) (hf : Forest f) (hl : f.length = 12) (v : Nat) (hv : v < 12) (w : World) (h : Blk w g 204 (fcells f)) :
    Calls Tryz.prog 186 #[.pointer (some ⟨g, 0, none⟩), .int .i64 v] w fun e w' => e = .returned (.int .i64 (rt f v : Nat)) ∧ w = w' := by
  have HF := Lib.hid hf
  have HL := Lib.hid hl
  obtain ⟨r, hr⟩ : ∃ r, rt f v = r := ⟨_, rfl⟩
  rw [hr]
  have HR := Lib.hid hr
  clear hr hl hf
  go_enter Tryz.func186, Tryz.ntmps186
  go_wp2
  go_loop [1] (fun i => ∃ u : Nat, u < 12 ∧ i = .int .i64 u ∧ Hid (rt f v = rt f u)) (fun i => (intOf i).toNat)
  case atStart => exact ⟨v, hv, rfl, rfl⟩
  case round =>
    obtain ⟨u, hu, rfl, HU⟩ := hrel
    have hc := h.cell u
    rw [fcells_get (by rw [HL.out]; omega)] at hc
    have he := rt_eq HF.out u
    have hle := HF.out u
    obtain ⟨x, hx⟩ : ∃ x, f.getD u 0 = x := ⟨_, rfl⟩
    rw [hx] at hc he hle
    have hu' : (u : Int) < 12 := by omega
    clear hx
    by_cases hxu : x = u
    · rw [if_pos hxu] at he
      have HE := Lib.hid he
      have hb : ((x : Int) != (u : Int)) = false := by simp; omega
      clear he hxu
      go_wp2
      go_ret
      exact ⟨ret_int (by rw [← HR.out, HU.out, HE.out]), rfl⟩
    · rw [if_neg hxu] at he
      have HE := Lib.hid he
      have hb : ((x : Int) != (u : Int)) = true := by simp; omega
      have hlt : x < u := by omega
      clear he hxu
      go_wp2
      go_round
      case rel => exact ⟨x, by omega, rfl, by rw [Hid, HU.out, HE.out]⟩
      case measure => simp [intOf]; omega
set_option maxHeartbeats 1000000 in
theorem join_any (g : Nat) (f : List Nat) (hf : Forest f) (hl : f.length = 12) (a b : Nat) (ha : a < 12) (hb : b < 12) (w : World) (h : Blk w g 204 (fcells f)) :
    Calls Tryz.prog 185 #[.pointer (some ⟨g, 0, none⟩), .int .i64 a, .int .i64 b] w fun e w' => (∃ v, e = .returned v) ∧ w.setCell ⟨g, max (rt f a) (rt f b), none⟩ (.int .i64 ((min (rt f a) (rt f b) : Nat) : Int)) = w' := by
  have R1 := Lib.hid (root_any g f hf hl a ha w h)
  have R2 := Lib.hid (root_any g f hf hl b hb w h)
  have l1 := (rt_le hf a).1
  have l2 := (rt_le hf b).1
  obtain ⟨x, hx⟩ : ∃ x, rt f a = x := ⟨_, rfl⟩
  obtain ⟨y, hy⟩ : ∃ y, rt f b = y := ⟨_, rfl⟩
  rw [hx] at R1 l1 ⊢
  rw [hy] at R2 l2 ⊢
  have k1 : (x : Int) < 12 := by omega
  have k2 : (y : Int) < 12 := by omega
  have F1 := h.frozen x
  have F2 := h.frozen y
  have C1 := h.cell x
  have C2 := h.cell y
  rw [fcells_get (by omega)] at C1 C2
  clear hx hy hf hl
  rcases Nat.lt_trichotomy x y with hxy | rfl | hxy
  · have m1 : max x y = y := by omega
    have m2 : min x y = x := by omega
    have i1 : (x : Int) < (y : Int) := by omega
    have i2 : ¬ (y : Int) < (x : Int) := by omega
    rw [m1, m2]
    clear m1 m2
    go_enter Tryz.func185, Tryz.ntmps185
    go_wp2_with (first | (go_at_call 186; (with_reducible refine (R1.out).mono ?_); rintro e w' ⟨rfl, rfl⟩) | (go_at_call 186; (with_reducible refine (R2.out).mono ?_); rintro e w' ⟨rfl, rfl⟩))
    exact bodyPost_end (results_none rfl _ _ _) rfl ⟨⟨_, rfl⟩, rfl⟩
  · have m1 : max x x = x := by omega
    have m2 : min x x = x := by omega
    rw [m1, m2]
    clear m1 m2
    go_enter Tryz.func185, Tryz.ntmps185
    go_wp2_with (first | (go_at_call 186; (with_reducible refine (R1.out).mono ?_); rintro e w' ⟨rfl, rfl⟩) | (go_at_call 186; (with_reducible refine (R2.out).mono ?_); rintro e w' ⟨rfl, rfl⟩))
    exact bodyPost_end (results_none rfl _ _ _) rfl ⟨⟨_, rfl⟩, rfl⟩
  · have m1 : max x y = x := by omega
    have m2 : min x y = y := by omega
    have i1 : ¬ (x : Int) < (y : Int) := by omega
    have i2 : (y : Int) < (x : Int) := by omega
    rw [m1, m2]
    clear m1 m2
    go_enter Tryz.func185, Tryz.ntmps185
    go_wp2_with (first | (go_at_call 186; (with_reducible refine (R1.out).mono ?_); rintro e w' ⟨rfl, rfl⟩) | (go_at_call 186; (with_reducible refine (R2.out).mono ?_); rintro e w' ⟨rfl, rfl⟩))
    exact bodyPost_end (results_none rfl _ _ _) rfl ⟨⟨_, rfl⟩, rfl⟩

def growTo (k : Nat) : List Nat := (List.range 12).map fun i => if i < k then i else 0
theorem growTo_succ {k : Nat} (h : k < 12) : (growTo k).set k k = growTo (k + 1) := by
  have : ∀ k, k < 12 → (growTo k).set k k = growTo (k + 1) := by decide
  exact this k h
theorem growTo_length (k : Nat) : (growTo k).length = 12 := by simp [growTo]
set_option maxRecDepth 100000 in
set_option maxHeartbeats 1000000 in
theorem grown_any (w : World) :
    Calls Tryz.prog 184 #[] w fun e w' => e = .returned (.agg #[.int .i64 0, .int .i64 1, .int .i64 2, .int .i64 3, .int .i64 4, .int .i64 5, .int .i64 6, .int .i64 7, .int .i64 8, .int .i64 9, .int .i64 10, .int .i64 11]) ∧ Below w.heap.size w w' := by
  go_enter Tryz.func184, Tryz.ntmps184
  go_wp2
  go_loopw [3] (fun i wr => ∃ k : Nat, k ≤ 12 ∧ i = .int .i64 k ∧ Below w.heap.size w wr ∧ Blk wr (w.heap.size + 1) 204 (fcells (growTo k)) ∧ Blk wr w.heap.size 204 (fcells (growTo 0))) (fun i _ => 12 - (intOf i).toNat)
  case atStart =>
    refine ⟨0, by omega, rfl, ((Below.refl _ _).alloc (Nat.le_refl _) _).alloc (by simp) _, ?_, (Blk.new w 204 (fcells (growTo 0))).alloc _⟩
    have := Blk.new (w.alloc (.cells (fcells (growTo 0)) 204)) 204 (fcells (growTo 0))
    rw [show (w.alloc (.cells (fcells (growTo 0)) 204)).heap.size = w.heap.size + 1 from by simp] at this
    exact this
  case round =>
    obtain ⟨k, hk, rfl, hbel, g1, g0⟩ := hrel
    by_cases hlt : k < 12
    · have hi : (k : Int) < 12 := by omega
      have f1 := g1.frozen k
      have c1 := g1.cell k
      rw [fcells_get (by rw [growTo_length]; omega)] at c1
      go_wp2
      go_roundw
      case rel =>
        refine ⟨k + 1, by omega, by go_num, hbel.setCell (by simp) _, ?_, g0.far (by simp) _⟩
        have := g1.set_ k (.int .i64 (k : Nat))
        rwa [fcells_set, growTo_succ hlt] at this
      case measure => simp [intOf]; omega
    · obtain rfl : k = 12 := by omega
      have e : fcells (growTo 12) = #[.int .i64 0, .int .i64 1, .int .i64 2, .int .i64 3, .int .i64 4, .int .i64 5, .int .i64 6, .int .i64 7, .int .i64 8, .int .i64 9, .int .i64 10, .int .i64 11] := rfl
      have e0 : fcells (growTo 0) = #[.int .i64 0, .int .i64 0, .int .i64 0, .int .i64 0, .int .i64 0, .int .i64 0, .int .i64 0, .int .i64 0, .int .i64 0, .int .i64 0, .int .i64 0, .int .i64 0] := rfl
      rw [e] at g1
      rw [e0] at g0
      clear e e0
      have c0 := g1.cell 0
      have z0 := g0.frozen 0
      have y0 := g0.cell 0
      have c1 := g1.cell 1
      have z1 := g0.frozen 1
      have y1 := g0.cell 1
      have c2 := g1.cell 2
      have z2 := g0.frozen 2
      have y2 := g0.cell 2
      have c3 := g1.cell 3
      have z3 := g0.frozen 3
      have y3 := g0.cell 3
      have c4 := g1.cell 4
      have z4 := g0.frozen 4
      have y4 := g0.cell 4
      have c5 := g1.cell 5
      have z5 := g0.frozen 5
      have y5 := g0.cell 5
      have c6 := g1.cell 6
      have z6 := g0.frozen 6
      have y6 := g0.cell 6
      have c7 := g1.cell 7
      have z7 := g0.frozen 7
      have y7 := g0.cell 7
      have c8 := g1.cell 8
      have z8 := g0.frozen 8
      have y8 := g0.cell 8
      have c9 := g1.cell 9
      have z9 := g0.frozen 9
      have y9 := g0.cell 9
      have c10 := g1.cell 10
      have z10 := g0.frozen 10
      have y10 := g0.cell 10
      have c11 := g1.cell 11
      have z11 := g0.frozen 11
      have y11 := g0.cell 11
      go_wp2
      have G := ((((((((((((g0.set_ 0 (.int .i64 0)).set_ 1 (.int .i64 1)).set_ 2 (.int .i64 2)).set_ 3 (.int .i64 3)).set_ 4 (.int .i64 4)).set_ 5 (.int .i64 5)).set_ 6 (.int .i64 6)).set_ 7 (.int .i64 7)).set_ 8 (.int .i64 8)).set_ 9 (.int .i64 9)).set_ 10 (.int .i64 10)).set_ 11 (.int .i64 11))
      simp only [List.setIfInBounds_toArray, List.set_cons_zero, List.set_cons_succ] at G
      exact bodyPost_ret (results_cell_row rfl _ _ w.heap.size _ (fcells (List.range 12)) _ _ rfl G Tryz.underlying204 rfl (by kernel_rfl)) rfl ⟨rfl, ((((((((((((hbel.setCell (p := ⟨w.heap.size, 0, none⟩) (Nat.le_refl _) _).setCell (p := ⟨w.heap.size, 1, none⟩) (Nat.le_refl _) _).setCell (p := ⟨w.heap.size, 2, none⟩) (Nat.le_refl _) _).setCell (p := ⟨w.heap.size, 3, none⟩) (Nat.le_refl _) _).setCell (p := ⟨w.heap.size, 4, none⟩) (Nat.le_refl _) _).setCell (p := ⟨w.heap.size, 5, none⟩) (Nat.le_refl _) _).setCell (p := ⟨w.heap.size, 6, none⟩) (Nat.le_refl _) _).setCell (p := ⟨w.heap.size, 7, none⟩) (Nat.le_refl _) _).setCell (p := ⟨w.heap.size, 8, none⟩) (Nat.le_refl _) _).setCell (p := ⟨w.heap.size, 9, none⟩) (Nat.le_refl _) _).setCell (p := ⟨w.heap.size, 10, none⟩) (Nat.le_refl _) _).setCell (p := ⟨w.heap.size, 11, none⟩) (Nat.le_refl _) _)⟩
end Go.Proofs.YtghigdcpinengaaGreat

/-! Package connect: the forest of a graph, and its parts. -/
namespace Go.Proofs.YtghigdcpinengaaGreat
open Go.RowKit

set_option maxRecDepth 100000 in
set_option maxHeartbeats 2000000 in
theorem joined_any (n : Nat) (A : Option Addr) (c : Nat) (es : List E3) (hn : es.length ≤ 1048576) (hG : RightG n es) (w : World) (h : Reads w w.heap.size 3 A es.length (edgeCells es)) :
    Calls Tryz.prog 164 #[.agg #[.int .i64 n, .slice A es.length c]] w fun e w' => ∃ f, e = .returned (.agg (fcells f)) ∧ Joins es f ∧ Below w.heap.size w w' := by
  have HG := Lib.hid hG
  clear hG
  go_enter Tryz.func164, Tryz.ntmps164
  go_wp2_with (go_at_call 184; refine (grown_any _).mono ?_; rintro e w1 ⟨rfl, hb1⟩
               have gb := ((Blk.new w 24 #[.int .i64 n, .slice A es.length c]).alloc (.cells #[.int .i64 0, .int .i64 0, .int .i64 0, .int .i64 0, .int .i64 0, .int .i64 0, .int .i64 0, .int .i64 0, .int .i64 0, .int .i64 0, .int .i64 0, .int .i64 0] 204)).next hb1
               have gr := Blk.new (w.alloc (.cells #[.int .i64 n, .slice A es.length c] 24)) 204 #[.int .i64 0, .int .i64 0, .int .i64 0, .int .i64 0, .int .i64 0, .int .i64 0, .int .i64 0, .int .i64 0, .int .i64 0, .int .i64 0, .int .i64 0, .int .i64 0]
               rw [show (w.alloc (.cells #[.int .i64 n, .slice A es.length c] 24)).heap.size = w.heap.size + 1 from by simp] at gr
               have gr1 := gr.next hb1
               have hbel1 : Below w.heap.size w w1 := (((Below.refl _ _).alloc (Nat.le_refl _) _).alloc (by simp) _).trans (hb1.mono (by simp; omega))
               have gf : Blk (w1.alloc (.cells #[.int .i64 0, .int .i64 1, .int .i64 2, .int .i64 3, .int .i64 4, .int .i64 5, .int .i64 6, .int .i64 7, .int .i64 8, .int .i64 9, .int .i64 10, .int .i64 11] 204)) w1.heap.size 204 (fcells (List.range 12)) := Blk.new w1 204 #[.int .i64 0, .int .i64 1, .int .i64 2, .int .i64 3, .int .i64 4, .int .i64 5, .int .i64 6, .int .i64 7, .int .i64 8, .int .i64 9, .int .i64 10, .int .i64 11]
               have hsz1 := gr1.lt
               have gb1 := gb.alloc (.cells #[.int .i64 0, .int .i64 1, .int .i64 2, .int .i64 3, .int .i64 4, .int .i64 5, .int .i64 6, .int .i64 7, .int .i64 8, .int .i64 9, .int .i64 10, .int .i64 11] 204)
               have gr2 := gr1.alloc (.cells #[.int .i64 0, .int .i64 1, .int .i64 2, .int .i64 3, .int .i64 4, .int .i64 5, .int .i64 6, .int .i64 7, .int .i64 8, .int .i64 9, .int .i64 10, .int .i64 11] 204)
               have hbel2 := hbel1.alloc hbel1.size (.cells #[.int .i64 0, .int .i64 1, .int .i64 2, .int .i64 3, .int .i64 4, .int .i64 5, .int .i64 6, .int .i64 7, .int .i64 8, .int .i64 9, .int .i64 10, .int .i64 11] 204)
               have c1 := gb1.cell 1
               have d0 := gb1.cell 0
               clear gr gr1 gb hb1 hbel1)
  go_loopw [10] (fun i wr => ∃ (k : Nat) (f : List Nat), k ≤ es.length ∧ i = .int .i64 k ∧ Below w.heap.size w wr ∧ Blk wr w1.heap.size 204 (fcells f) ∧ Blk wr (w.heap.size + 1) 204 #[.int .i64 0, .int .i64 0, .int .i64 0, .int .i64 0, .int .i64 0, .int .i64 0, .int .i64 0, .int .i64 0, .int .i64 0, .int .i64 0, .int .i64 0, .int .i64 0] ∧ Hid (Joins (es.take k) f)) (fun i _ => es.length - (intOf i).toNat)
  case atStart => exact ⟨0, List.range 12, by omega, rfl, hbel2, gf, gr2, joins_nil⟩
  clear hbel2 gf gr2 gb1 c1 d0
  case round =>
    obtain ⟨k, f, hk, rfl, hbel, gf, gr, HJ⟩ := hrel
    have hsz := hbel.size
    by_cases hlt : k < es.length
    · obtain ⟨⟨x, y, m⟩, hx⟩ := get_of_lt hlt
      have hok := HG.out.ok _ (List.mem_of_getElem? hx)
      have hhi := HG.out.hi
      unfold okE at hok
      dsimp only at hok
      obtain ⟨a, rfl⟩ := Int.eq_ofNat_of_zero_le (show 0 ≤ x by omega)
      obtain ⟨b, rfl⟩ := Int.eq_ofNat_of_zero_le (show 0 ≤ y by omega)
      have ha : a < 12 := by omega
      have hb : b < 12 := by omega
      have HN := Lib.hid (joins_snoc HJ.out (e := ((a : Int), (b : Int), m)) ha hb rfl rfl)
      rw [← take_snoc hx] at HN
      obtain ⟨bb, off, rfl, hbb, q1, q2, q3⟩ := (h.below hbel).edge hx
      have hi : (k : Int) < (es.length : Int) := by omega
      have gf1 := gf.alloc (.cells #[.int .i64 a, .int .i64 b, .int .i64 m] 104)
      have gr1 := gr.alloc (.cells #[.int .i64 a, .int .i64 b, .int .i64 m] 104)
      have hbl1 := hbel.alloc hsz (.cells #[.int .i64 a, .int .i64 b, .int .i64 m] 104)
      have JC := Lib.hid (join_any w1.heap.size f HJ.out.forest HJ.out.len a b ha hb _ gf1)
      have hne : w.heap.size + 1 ≠ w1.heap.size := by omega
      dsimp only at q1 q2 q3
      clear hx h hbel hok
      go_wp2_with (go_at_call 185; (with_reducible refine (JC.out).mono ?_); rintro e w' ⟨⟨v, rfl⟩, rfl⟩)
      go_roundw
      case rel =>
        refine ⟨k + 1, joinF f a b, by omega, by go_num, hbl1.setCell (by simp; omega) _, ?_, gr1.far (by simpa using hne) _, HN.out⟩
        have := gf1.set_ (max (rt f a) (rt f b)) (.int .i64 ((min (rt f a) (rt f b) : Nat) : Int))
        rwa [fcells_set] at this
      case measure => simp [intOf]; omega
    · obtain rfl : k = es.length := by omega
      rw [List.take_length] at HJ
      obtain ⟨a0, a1, a2, a3, a4, a5, a6, a7, a8, a9, a10, a11, rfl⟩ := list12 HJ.out.len
      have hne : w.heap.size + 1 ≠ w1.heap.size := by omega
      replace gf : Blk wr w1.heap.size 204 #[.int .i64 (a0 : Nat), .int .i64 (a1 : Nat), .int .i64 (a2 : Nat), .int .i64 (a3 : Nat), .int .i64 (a4 : Nat), .int .i64 (a5 : Nat), .int .i64 (a6 : Nat), .int .i64 (a7 : Nat), .int .i64 (a8 : Nat), .int .i64 (a9 : Nat), .int .i64 (a10 : Nat), .int .i64 (a11 : Nat)] := gf
      have c0 := gf.cell 0
      have z0 := gr.frozen 0
      have y0 := gr.cell 0
      have c1 := gf.cell 1
      have z1 := gr.frozen 1
      have y1 := gr.cell 1
      have c2 := gf.cell 2
      have z2 := gr.frozen 2
      have y2 := gr.cell 2
      have c3 := gf.cell 3
      have z3 := gr.frozen 3
      have y3 := gr.cell 3
      have c4 := gf.cell 4
      have z4 := gr.frozen 4
      have y4 := gr.cell 4
      have c5 := gf.cell 5
      have z5 := gr.frozen 5
      have y5 := gr.cell 5
      have c6 := gf.cell 6
      have z6 := gr.frozen 6
      have y6 := gr.cell 6
      have c7 := gf.cell 7
      have z7 := gr.frozen 7
      have y7 := gr.cell 7
      have c8 := gf.cell 8
      have z8 := gr.frozen 8
      have y8 := gr.cell 8
      have c9 := gf.cell 9
      have z9 := gr.frozen 9
      have y9 := gr.cell 9
      have c10 := gf.cell 10
      have z10 := gr.frozen 10
      have y10 := gr.cell 10
      have c11 := gf.cell 11
      have z11 := gr.frozen 11
      have y11 := gr.cell 11
      go_wp2
      have G := ((((((((((((gr.set_ 0 (.int .i64 (a0 : Nat))).set_ 1 (.int .i64 (a1 : Nat))).set_ 2 (.int .i64 (a2 : Nat))).set_ 3 (.int .i64 (a3 : Nat))).set_ 4 (.int .i64 (a4 : Nat))).set_ 5 (.int .i64 (a5 : Nat))).set_ 6 (.int .i64 (a6 : Nat))).set_ 7 (.int .i64 (a7 : Nat))).set_ 8 (.int .i64 (a8 : Nat))).set_ 9 (.int .i64 (a9 : Nat))).set_ 10 (.int .i64 (a10 : Nat))).set_ 11 (.int .i64 (a11 : Nat)))
      simp only [List.setIfInBounds_toArray, List.set_cons_zero, List.set_cons_succ] at G
      exact bodyPost_ret (results_cell_row rfl _ _ (w.heap.size + 1) _ (fcells [a0, a1, a2, a3, a4, a5, a6, a7, a8, a9, a10, a11]) _ _ rfl G Tryz.underlying204 rfl (by kernel_rfl)) rfl ⟨_, rfl, HJ.out, ((((((((((((hbel.setCell (p := ⟨w.heap.size + 1, 0, none⟩) (Nat.le_succ _) _).setCell (p := ⟨w.heap.size + 1, 1, none⟩) (Nat.le_succ _) _).setCell (p := ⟨w.heap.size + 1, 2, none⟩) (Nat.le_succ _) _).setCell (p := ⟨w.heap.size + 1, 3, none⟩) (Nat.le_succ _) _).setCell (p := ⟨w.heap.size + 1, 4, none⟩) (Nat.le_succ _) _).setCell (p := ⟨w.heap.size + 1, 5, none⟩) (Nat.le_succ _) _).setCell (p := ⟨w.heap.size + 1, 6, none⟩) (Nat.le_succ _) _).setCell (p := ⟨w.heap.size + 1, 7, none⟩) (Nat.le_succ _) _).setCell (p := ⟨w.heap.size + 1, 8, none⟩) (Nat.le_succ _) _).setCell (p := ⟨w.heap.size + 1, 9, none⟩) (Nat.le_succ _) _).setCell (p := ⟨w.heap.size + 1, 10, none⟩) (Nat.le_succ _) _).setCell (p := ⟨w.heap.size + 1, 11, none⟩) (Nat.le_succ _) _)⟩
end Go.Proofs.YtghigdcpinengaaGreat

