/-
  Texts of this claim, put together: Lights, LitF, Results.
-/
import Derived.Test.YtghigdcpinengaaGreatK01
import Derived.Test.YtghigdcpinengaaGreatK19
import Derived.Deep.QuietTactic
import Derived.BigQuiet
import Derived.BigRegion
import Derived.Test.YtghigdcpinengaaGreatK11
import Derived.Test.YtghigdcpinengaaGreatK13
import Derived.Deep.RegionHeld3
import Derived.Deep.CutBlock
import Derived.Deep.RegionLaw
import Derived.Test.YtghigdcpinengaaGreatRows
import Derived.Laws.Rows
import Derived.Laws.ResultCell
/-! slices.Index and Contains on branches. -/
namespace Go.Proofs.YtghigdcpinengaaGreat
open Go.RowKit

set_option maxHeartbeats 1000000 in
theorem bindex_any (A : Option Addr) (c : Nat) (xs : List Int) (hn : xs.length ≤ 1048576) (v : Int) (w : World) (h : Reads w w.heap.size 1 A xs.length (ints xs)) :
    Calls Tryz.prog 143 #[.slice A xs.length c, .int .i64 v] w fun e w' => ∃ r : Int, e = .returned (.int .i64 r) ∧ Hid (0 ≤ r ↔ v ∈ xs) ∧ w = w' := by
  go_enter Tryz.func143, Tryz.ntmps143
  go_wp2
  go_loop [8] (fun i => ∃ k : Nat, k ≤ xs.length ∧ i = .int .i64 k ∧ Hid (v ∉ xs.take k)) (fun i => xs.length - (intOf i).toNat)
  case atStart => exact ⟨0, by omega, rfl, by simp [Hid]⟩
  case round =>
    obtain ⟨k, hk, rfl, HS⟩ := hrel
    by_cases hlt : k < xs.length
    · obtain ⟨x, hx⟩ := get_of_lt hlt
      obtain ⟨b, off, rfl, hb, hcell⟩ := h.at_ (ints_at hx)
      have hi : (k : Int) < (xs.length : Int) := by omega
      have htk := take_snoc hx
      by_cases hv : v = x
      · have e : (v == x) = true := by simpa using hv
        have HT : Hid (v ∈ xs) := by rw [hv]; exact List.mem_of_getElem? hx
        clear hx htk hv
        go_wp2
        go_ret
        exact ⟨k, rfl, ⟨fun _ => HT.out, fun _ => by omega⟩, rfl⟩
      · have e : (v == x) = false := by simpa using hv
        have HN : Hid (v ∉ xs.take (k + 1)) := by
          rw [htk, Hid, List.mem_append]
          rintro (hc | hc)
          · exact HS.out hc
          · exact hv (List.mem_singleton.1 hc)
        clear hx htk hv
        go_wp2
        go_round
        case rel => exact ⟨k + 1, by omega, by go_num, HN⟩
        case measure => simp [intOf]; omega
    · obtain rfl : k = xs.length := by omega
      rw [List.take_length] at HS
      go_wp2
      go_ret
      exact ⟨-1, rfl, ⟨fun h => absurd h (by decide), fun h => absurd h HS.out⟩, rfl⟩
set_option maxHeartbeats 1000000 in
theorem bcontains_any (A : Option Addr) (c : Nat) (xs : List Int) (hn : xs.length ≤ 1048576) (v : Int) (w : World) (h : Reads w w.heap.size 1 A xs.length (ints xs)) :
    Calls Tryz.prog 119 #[.slice A xs.length c, .int .i64 v] w fun e w' => e = .returned (.bool (decide (v ∈ xs))) ∧ w = w' := by
  have IC := Lib.hid (bindex_any A c xs hn v w h)
  go_enter Tryz.func119, Tryz.ntmps119
  go_wp2_with fail
  refine (IC.out).mono ?_
  rintro e w1 ⟨r, rfl, HR, rfl⟩
  go_wp2
  go_ret
  exact ⟨ret_bool (by rw [Bool.eq_iff_iff]; simp [HR.out]), rfl⟩


set_option maxHeartbeats 1000000 in
/-- A vertex burns by its chips. -/
theorem clights_any (B : Option Addr) (d n : Nat) (cs : List Int) (hl : cs.length = n) (v e : Nat) (t : Int) (hv : v < n) (w : World) (h : Reads w w.heap.size 1 B n (ints cs)) :
    Calls Tryz.prog 86 #[.slice B n d, .int .i64 (v : Int), .int .i64 (e : Int), .int .i64 t] w fun r w' => r = .returned (.bool (ltC cs v e t)) ∧ w = w' := by
  obtain ⟨x, hx⟩ := get_of_lt (xs := cs) (k := v) (by omega)
  obtain ⟨b, off, rfl, hb, hcell⟩ := h.at_ (ints_at hx)
  have hi : (v : Int) < (n : Int) := by omega
  have hlt : ltC cs v e t = decide (x ≤ t) := by unfold ltC; rw [List.getD_eq_getElem?_getD, hx]; rfl
  rw [hlt]
  clear hx hlt hl h
  by_cases hxt : x ≤ t
  · rw [decide_eq_true hxt]
    go_enter Tryz.func86, Tryz.ntmps86
    go_wp2
    go_ret
    exact ⟨ret_bool (by simp), rfl⟩
  · rw [decide_eq_false hxt]
    go_enter Tryz.func86, Tryz.ntmps86
    go_wp2
    go_ret
    exact ⟨ret_bool (by simp), rfl⟩
/-- .. by its single edge of a tree. -/
theorem blights_any (B : Option Addr) (d : Nat) (t : List Nat) (ht : t.length ≤ 1048576) (v e : Nat) (k : Int) (w : World) (h : Reads w w.heap.size 1 B t.length (ints (nI t))) :
    Calls Tryz.prog 90 #[.slice B t.length d, .int .i64 (v : Int), .int .i64 (e : Int), .int .i64 k] w fun r w' => r = .returned (.bool (ltB t v e k)) ∧ w = w' := by
  have HC : Hid (Calls Tryz.prog 119 #[.slice B t.length d, .int .i64 (e : Int)] w fun e_ w' => e_ = .returned (.bool (ltB t v e k)) ∧ w = w') := by
    have := bcontains_any B d (nI t) (by rw [nI_length]; exact ht) (e : Int) w (by rw [nI_length]; exact h)
    rw [nI_length] at this
    have e1 : decide ((e : Int) ∈ nI t) = ltB t v e k := by
      unfold ltB nI
      rw [Bool.eq_iff_iff, decide_eq_true_eq, decide_eq_true_eq, List.mem_map]
      exact ⟨fun ⟨a, ha, hae⟩ => by have : a = e := by omega
                                    exact this ▸ ha, fun h => ⟨e, h, rfl⟩⟩
    rw [e1] at this
    exact this
  obtain ⟨r, hr⟩ : ∃ r, ltB t v e k = r := ⟨_, rfl⟩
  rw [hr] at HC ⊢
  clear hr
  go_enter Tryz.func90, Tryz.ntmps90
  go_wp2_with fail
  refine (HC.out).mono ?_
  rintro e_ w1 ⟨rfl, rfl⟩
  go_wp2
  go_ret
  exact ⟨rfl, rfl⟩
end Go.Proofs.YtghigdcpinengaaGreat

/-! treebijection.lit: the fire of a right graph, made and burnt. -/
namespace Go.Proofs.YtghigdcpinengaaGreat
open Go.RowKit

theorem Blk.newL {w : World} {g : Nat} {t : TypeId} {cs : Array Value} (hg : g = w.heap.size) : Blk (w.alloc (.cells cs t)) g t cs := by subst hg; exact Blk.new w t cs
theorem own_made {wx : World} {n g base : Nat} (hb : Blk wx g 3 (ints (List.replicate n 0)).toArray) (hg : base ≤ g) (hn : n ≤ 12) : OwnI wx base (some ⟨g, 0, none⟩) n (List.replicate n 0) := by
  have := OwnI.of_blk (l := List.replicate n 0) hb hg (by simp only [List.length_replicate, maxLen]; omega)
  rw [List.length_replicate] at this
  exact this
theorem fire_leaf {wx : World} {n base bp gB gT cr : Nat} {Ar : Option Addr} {lv : Value} {E : List (Nat × Nat)}
    (hp : Blk wx bp 89 #[.slice Ar E.length cr, lv, .slice (some ⟨gB, 0, none⟩) n n, .slice (some ⟨gT, 0, none⟩) n n, .slice none 0 0, .slice none 0 0, .slice none 0 0, .slice none 0 0])
    (hE : Reads wx base 2 Ar E.length (pair2 E)) (hB : Blk wx gB 4 (bools (List.replicate n false))) (hT : Blk wx gT 3 (ints (List.replicate n 0)).toArray) (h1 : base ≤ bp) (h2 : base ≤ gB) (h3 : base ≤ gT) (hn : n ≤ 12) :
    ∃ a, FireW wx base bp E n lv a (fire0 n) [] := by
  refine ⟨⟨Ar, cr, gB, gT, none, 0, none, 0, none, 0, none, 0⟩, ?_⟩
  have hb : bntL n [] = List.replicate n false := by
    apply List.ext_getElem (by simp [bntL])
    intro i h1 h2
    simp [bntL]
  have nb : ∀ A : Option Addr, Dj A none := fun A k _ h => by obtain ⟨a, h, _⟩ := h; cases h
  have nb' : ∀ A : Option Addr, Dj none A := fun A k h _ => by obtain ⟨a, h, _⟩ := h; cases h
  exact { blk := hp, ends := hE, burnt := by show Blk wx gB _ (bools (bntL n [])); rw [hb]; exact hB, hb := h1, hgB := h2, times := own_made hT h3 hn, tlen := by simp [fire0], steps := OwnI.nil_ _ _, order := OwnI.nil_ _ _, tree := OwnI.nil_ _ _, next := OwnI.nil_ _ _,
          tS := nb _, tO := nb _, tD := nb _, tH := nb _, sO := nb _, sD := nb _, sH := nb _, oD := nb _, oH := nb _, dH := nb _ }

theorem lit_leaf {w wx : World} {base bp gB gT n cr : Nat} {Ar : Option Addr} {lv : Value} {E : List (Nat × Nat)}
    (hp : Blk wx bp 89 #[.slice Ar E.length cr, lv, .slice (some ⟨gB, 0, none⟩) n n, .slice (some ⟨gT, 0, none⟩) n n, .slice none 0 0, .slice none 0 0, .slice none 0 0, .slice none 0 0])
    (hE : Reads wx base 2 Ar E.length (pair2 E)) (hB : Blk wx gB 4 (bools (List.replicate n false))) (hT : Blk wx gT 3 (ints (List.replicate n 0)).toArray) (h1 : base ≤ bp) (h2 : base ≤ gB) (h3 : base ≤ gT) (hn : n ≤ 12) (hb : Below w.heap.size w wx) (hs : base ≤ wx.heap.size) :
    ∃ bp' a, Value.pointer (some ⟨bp, 0, none⟩) = Value.pointer (some ⟨bp', 0, none⟩) ∧ Hid (FireW wx base bp' E n lv a (fire0 n) []) ∧ Hid (Below w.heap.size w wx) ∧ Hid (base ≤ wx.heap.size) := by
  obtain ⟨a, ha⟩ := fire_leaf hp hE hB hT h1 h2 h3 hn
  exact ⟨bp, a, rfl, ha, hb, hs⟩

set_option maxRecDepth 100000 in
set_option maxHeartbeats 8000000 in
theorem lit_any (n q F : Nat) (y : Value) (lit : Nat → Nat → Int → Bool) (A : Option Addr) (c : Nat) (es : List E3) (hn : n ≤ 12) (hq : q < n) (hlen : es.length ≤ 10000) (hz : checkG n es = 0) (hm : (endsL es).length ≤ 60) (hE : BdP n (endsL es)) (w : World) (h : Reads w w.heap.size 3 A es.length (edgeCells es))
    (eg : ∀ args w, (callFunc F args).run Tryz.prog w = .ok (.enter F args) w) (hL : ∀ W x e t, Below w.heap.size w W → x < n → e < (endsL es).length → Calls Tryz.prog F #[y, .int .i64 (x : Int), .int .i64 (e : Int), .int .i64 t] W fun r w' => r = .returned (.bool (lit x e t)) ∧ W = w') :
    Calls Tryz.prog 85 #[.agg #[.int .i64 n, .slice A es.length c], .int .i64 q, .func (.func F) #[y] #[]] w fun e w' => ∃ b, e = .returned (.pointer (some ⟨b, 0, none⟩)) ∧ Hid (∃ a T base, FireW w' base b (endsL es) n (.func (.func F) #[y] #[]) a { runF (endsL es) lit (endsL es).length (fire1 n q) with tree := T } [] ∧ T.Perm (runF (endsL es) lit (endsL es).length (fire1 n q)).tree ∧ T.Pairwise (· ≤ ·) ∧ w.heap.size ≤ base ∧ base ≤ w'.heap.size) ∧ Below w.heap.size w w' := by
  have hG := right_of hz
  have hmk := make_ints n (by omega)
  have hmb := make_bools n (by omega)
  have EC : Hid (∀ W, Below w.heap.size w W → Calls Tryz.prog 103 #[.agg #[.int .i64 n, .slice A es.length c]] W fun e w' => ∃ Ar cr, e = .returned (.tuple #[.slice Ar (endsL es).length cr, .int .i64 0]) ∧ OwnQ w' W.heap.size Ar cr (endsL es) ∧ Below W.heap.size W w') := fun W hB => ends_ok n A c es hlen hz n hG.ok W ((h.below hB).more hB.size)
  have BC := Lib.hid (fun (W : World) (base b : Nat) (a : FireA) (hB : Below w.heap.size w W) (hba : w.heap.size ≤ base) (hF : FireW W base b (endsL es) n (.func (.func F) #[y] #[]) a (fire0 n) []) (hs : base ≤ W.heap.size) => fburn_any base b n q F y lit (endsL es) a hn hq hE hm W hF hs eg (fun W' x e t hW' h1 h2 => hL W' x e t (hB.trans (hW'.mono hba)) h1 h2))
  have g0 := Blk.new w 24 #[.int .i64 n, .slice A es.length c]
  have hB0 : Below w.heap.size w (w.alloc (.cells #[.int .i64 n, .slice A es.length c] 24)) := (Below.refl _ _).alloc (Nat.le_refl _) _
  obtain ⟨E, hEE⟩ : ∃ E, endsL es = E := ⟨_, rfl⟩
  rw [hEE] at EC BC hm ⊢
  have c0 := g0.cell 0
  have c1 := g0.cell 1
  clear h hz hE hL hG hEE eg
  go_enter Tryz.func85, Tryz.ntmps85
  go_wp2_with fail
  refine (EC.out _ hB0).mono ?_
  rintro e w1 ⟨Ar, cr, rfl, o1, hb1⟩
  have hB1 := hB0.trans (hb1.mono hB0.size)
  have g1 := g0.next hb1
  have k0 := g1.cell 0
  have R1 := Lib.hid (Reads.of_own o1)
  have HB1 := Lib.hid hB1
  have hs1 := hB1.size
  have hz1 : w.heap.size < w1.heap.size := g1.lt
  clear c0 c1 o1
  go_upto_region 2 with fail
  go_cut [9] from 18 to 24 (fun p wx => ∃ bp a, p = .pointer (some ⟨bp, 0, none⟩) ∧ Hid (FireW wx w1.heap.size bp E n (.func (.func F) #[y] #[]) a (fire0 n) []) ∧ Hid (Below w.heap.size w wx) ∧ Hid (w1.heap.size ≤ wx.heap.size))
  case first =>
    go_region_held3 (fun W => W.cell? ⟨w.heap.size, 0, none⟩ = some (.int .i64 n)) (first | exact (g1.alloc _).cell 0 | exact ((g1.alloc _).alloc _).cell 0 | exact (((g1.alloc _).alloc _).alloc _).cell 0 | exact (Blk.drew (((g1.alloc _).alloc _).alloc _)).cell 0 | exact (Blk.drew ((g1.alloc _).alloc _)).cell 0 | exact (Blk.drew (g1.alloc _)).cell 0 | go_keep) (fail)
    all_goals
      go_wp2
      go_meet
      refine lit_leaf (Blk.newL (by first | rfl | simp)) ?_ ?_ ?_ ?_ ?_ ?_ hn ?_ ?_
      · exact (((R1.out.alloc (Nat.le_refl _) _).alloc (by simp) _).alloc (by simp; omega) _)
      · first
          | (refine ((Blk.newL ?_).alloc _); simp; done)
          | (refine (((Blk.newL ?_).alloc _).alloc _); simp; done)
      · first
          | (refine ((Blk.newL ?_).alloc _); simp; done)
          | (refine (((Blk.newL ?_).alloc _).alloc _); simp; done)
      · first | omega | (simp; done) | (simp; omega)
      · first | omega | (simp; done) | (simp; omega)
      · first | omega | (simp; done) | (simp; omega)
      · first | exact Below.drew (((HB1.out.alloc hs1 _).alloc (by simp; omega) _).alloc (by simp; omega) _) | exact (((HB1.out.alloc hs1 _).alloc (by simp; omega) _).alloc (by simp; omega) _)
      · first | omega | (simp; done) | (simp; omega) | (simp [World.drew]; done) | (simp [World.drew]; omega)
  case rest =>
    obtain ⟨bp, a, rfl, F1, B1, Z1⟩ := hcut
    clear g1 k0
    go_wp2_with fail
    refine (BC.out _ _ bp a B1.out hs1 F1.out Z1.out).mono ?_
    rintro e w2 ⟨rfl, HI⟩
    have HR : Hid (∃ a T base, FireW w2 base bp E n (.func (.func F) #[y] #[]) a { runF E lit E.length (fire1 n q) with tree := T } [] ∧ T.Perm (runF E lit E.length (fire1 n q)).tree ∧ T.Pairwise (· ≤ ·) ∧ w.heap.size ≤ base ∧ base ≤ w2.heap.size) := by
      obtain ⟨a', T, f, p, so, hbb⟩ := HI.out
      exact ⟨a', T, _, f, p, so, hs1, Nat.le_trans Z1.out hbb.size⟩
    have HB : Hid (Below w.heap.size w w2) := by
      obtain ⟨a', T, f, p, so, hbb⟩ := HI.out
      exact B1.out.trans (hbb.mono hs1)
    go_wp2
    go_ret
    exact ⟨bp, rfl, HR, HB.out⟩
end Go.Proofs.YtghigdcpinengaaGreat

/-! A struct that a function hands back: read out of its box. -/
namespace Go.Proofs.YtghigdcpinengaaGreat
open Go.RowKit
section
variable {fn : Func} {p u v : Tmp} {tmps : Array Value} {w : World} {g : Nat} {cs : Array Value}
theorem info_graph : (Tryz.prog.info? 24).map (·.size) = some 2 := by kernel_rfl
theorem results_g (h : fn.results = #[.cell p 24]) (hp : tmps.getD p undef = .pointer (some ⟨g, 0, none⟩)) (hg : Blk w g 24 cs) (hs : cs.size = 2) :
    (results fn tmps).run Tryz.prog w = .ok (.agg cs) w := by
  exact results_cell_row h tmps w g _ cs _ _ hp hg Tryz.underlying24 rfl (by rw [info_graph, hs])
theorem results_g1 (h : fn.results = #[.cell p 24, .tmp u]) (hp : tmps.getD p undef = .pointer (some ⟨g, 0, none⟩)) (hg : Blk w g 24 cs) (hs : cs.size = 2) :
    (results fn tmps).run Tryz.prog w = .ok (.tuple #[.agg cs, tmps.getD u undef]) w := by
  have hi : (Tryz.prog.info? 24).map (·.size) = some cs.size := by rw [info_graph, hs]
  have hp' : tmps[p]?.getD undef = .pointer (some ⟨g, 0, none⟩) := by simpa using hp
  simp [results, h, hp', asAddr, run_loadVar_row w g _ _ cs _ _ hg Tryz.underlying24 rfl hi]
end
end Go.Proofs.YtghigdcpinengaaGreat

