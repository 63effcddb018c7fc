/-
  Texts of this claim, put together: OrdR, CfgF, Sup, RRecs2, RWorst, DualP.
-/
import Derived.Test.YtghigdcpinengaaGreatK18
import Derived.Test.YtghigdcpinengaaGreatK37
import Derived.Test.YtghigdcpinengaaGreatK36
import Derived.Test.YtghigdcpinengaaGreatK26
import Derived.Test.YtghigdcpinengaaGreatK31
import Derived.Test.YtghigdcpinengaaGreatK11
import Derived.Test.YtghigdcpinengaaGreatK35
import Derived.Test.YtghigdcpinengaaGreatK22
/-! ref13.Ordered at lists that are read; slices of slices of ints whose rows lie in another world. -/
namespace Go.Proofs.YtghigdcpinengaaGreat
open Go.RowKit

/-- Lists that are read, as pairs. -/
theorem rowsR_pairs {w : World} {B : Nat} {A : Option Addr} {xss : List (List Int)} (h : RowsR w B A xss) : ∃ ps : List RowV, ps.length = xss.length ∧ Reads w B 1 A ps.length (vals ps) ∧ ps.map Prod.snd = xss ∧ ∀ p ∈ ps, ∃ A' c', p.1 = .slice A' p.2.length c' ∧ Reads w B 1 A' p.2.length (ints p.2) := by
  obtain ⟨vs, hr, hi⟩ := h
  have hl : vs.length = xss.length := by have := hr.1; omega
  have e1 : (vs.zip xss).map Prod.fst = vs := by rw [List.map_fst_zip]; omega
  have e2 : (vs.zip xss).map Prod.snd = xss := by rw [List.map_snd_zip]; omega
  have e3 : (vs.zip xss).length = xss.length := by rw [List.length_zip]; omega
  refine ⟨vs.zip xss, e3, by rw [e3]; unfold vals; rw [e1]; exact hr, e2, fun p hp => ?_⟩
  obtain ⟨i, hi'⟩ := List.getElem?_of_mem hp
  obtain ⟨v, x⟩ := p
  obtain ⟨h1, h2⟩ := List.getElem?_zip_eq_some.1 hi'
  dsimp only at h1 h2 ⊢
  obtain ⟨A', c', hv, ho⟩ := hi i x h2
  rw [hv] at h1
  injection h1 with h1
  exact ⟨A', c', h1.symm, ho⟩
theorem rordR_any (A : Option Addr) (c : Nat) (xss : List (List Int)) (hn : xss.length ≤ 1000) (hl : ∀ x ∈ xss, x.length ≤ 1048576) (w : World) (h : RowsR w w.heap.size A xss) :
    Calls Tryz.prog 46 #[.slice A xss.length c] w fun e w' => ∃ A' c', e = .returned (.slice A' xss.length c') ∧ RowsR w' w'.heap.size A' (sortG bfI xss) ∧ Below w.heap.size w w' := by
  obtain ⟨ps, e1, hr, e2, hv⟩ := rowsR_pairs h
  have := rordered_any A c ps (by omega) (fun p hp => hl p.2 (by rw [← e2]; exact List.mem_map_of_mem hp)) w hr hv
  rw [e1] at this
  refine this.mono ?_
  rintro e w' ⟨A', c', rfl, o, hb⟩
  refine ⟨A', c', rfl, ?_, hb⟩
  rw [← e2, ← sortG_map]
  refine RowsR.of_pairs (c := c') (by rw [sortG_length, e1]; exact o) fun p hp => ?_
  obtain ⟨A1, c1, e, hr⟩ := hv p ((sortG_perm (lt := ltP) ps).mem_iff.1 hp)
  exact ⟨A1, c1, e, hr.next hb⟩

/-! A slice of []int of the call's own whose rows another world holds. -/
def SharI (w0 w : World) (A : Option Addr) (c : Nat) (vs : List Value) (xss : List (List Int)) : Prop :=
  w.ownsRow w0.heap.size 25 1 (.slice A xss.length c) xss.length vs ∧ ∀ (i : Nat) (xs : List Int), xss[i]? = some xs → ∃ A1 c1, vs[i]? = some (.slice A1 xs.length c1) ∧ Reads w0 w0.heap.size 1 A1 xs.length (ints xs)
section
variable {w0 w w' : World} {A : Option Addr} {c : Nat} {vs : List Value} {xss : List (List Int)}
theorem SharI.nil_ (w0 w : World) : SharI w0 w none 0 [] [] := ⟨World.ownsRow_nil _ _ _ _, by simp⟩
theorem SharI.next (h : SharI w0 w A c vs xss) (hb : Below w.heap.size w w') : SharI w0 w' A c vs xss :=
  ⟨own_kept h.1 fun k hk => hb.block k (own_lt h.1 hk).2, h.2⟩
theorem SharI.len (h : SharI w0 w A c vs xss) : vs.length = xss.length := by have := h.1.1; omega
theorem SharI.push {A' A1 : Option Addr} {c' c1 : Nat} {xs : List Int} (h : SharI w0 w A c vs xss) (hr : Reads w0 w0.heap.size 1 A1 xs.length (ints xs))
    (hown : w'.ownsRow w0.heap.size 25 1 (.slice A' (xss.length + 1) c') (xss.length + 1) (vs ++ [.slice A1 xs.length c1])) : SharI w0 w' A' c' (vs ++ [.slice A1 xs.length c1]) (xss ++ [xs]) := by
  have hl := h.len
  refine ⟨by rw [List.length_append]; exact hown, fun i ys hi => ?_⟩
  rcases Nat.lt_trichotomy i xss.length with hlt | rfl | hgt
  · rw [List.getElem?_append_left hlt] at hi
    obtain ⟨A2, c2, hv, ho⟩ := h.2 i ys hi
    exact ⟨A2, c2, by rw [List.getElem?_append_left (by omega)]; exact hv, ho⟩
  · have : ys = xs := by simpa using hi.symm
    subst this
    exact ⟨A1, c1, by rw [← hl]; simp, hr⟩
  · rw [List.getElem?_eq_none (by simp; omega)] at hi; cases hi
theorem SharI.reads (h : SharI w0 w A c vs xss) (hb : Below w0.heap.size w0 w) : RowsR w w.heap.size A xss :=
  ⟨vs, Reads.of_own h.1, fun i xs hi => by
    obtain ⟨A1, c1, hv, ho⟩ := h.2 i xs hi
    exact ⟨A1, c1, hv, (ho.below hb).more hb.size⟩⟩
end
end Go.Proofs.YtghigdcpinengaaGreat

/-! treebijection: the fire of a superstable configuration, of a spanning tree; Steps, Tree, Config. -/
namespace Go.Proofs.YtghigdcpinengaaGreat
open Go.RowKit

/-- The error of a superstable configuration. -/
def cfgErr (n : Int) (es : List E3) (q : Int) (cs : List Int) : Int := if (superE n es q cs).2 ≠ 0 then (superE n es q cs).2 else if (superE n es q cs).1 = true then 0 else 15
/-- .. of a spanning tree with a sink. -/
def grownErr (n : Int) (es : List E3) (q : Int) (xs : List Int) : Int := if treeErr n es xs ≠ 0 then treeErr n es xs else if q < 0 ∨ n ≤ q then 2 else 0
/-- A fire that is handed back. -/
def FireOut (w w' : World) (b n : Nat) (E : List (Nat × Nat)) (s : FireS) : Prop := ∃ lv a base, FireW w' base b E n lv a { s with tree := ascN E.length s.tree } [] ∧ w.heap.size ≤ base ∧ base ≤ w'.heap.size
theorem asc_of {m : Nat} {T l : List Nat} (hn : l.Nodup) (hl : ∀ e ∈ l, e < m) (hp : T.Perm l) (hs : T.Pairwise (· ≤ ·)) : T = ascN m l := by
  refine setN_ext ⟨?_, fun e he => hl e (hp.mem_iff.1 he)⟩ (asc_set m l) fun x => ⟨fun h => mem_asc.2 ⟨hl x (hp.mem_iff.1 h), hp.mem_iff.1 h⟩, fun h => hp.mem_iff.2 (mem_asc.1 h).2⟩
  have hd := hp.nodup_iff.2 hn
  exact (hd.and hs).imp fun h => by omega
theorem cfg_zero {n : Int} {es : List E3} {q : Int} {cs : List Int} (h : cfgErr n es q cs = 0) : burnErr n es q cs = 0 ∧ restL n.toNat (burntL es cs n.toNat q.toNat) = [] ∧ (superE n es q cs) = (true, 0) := by
  unfold cfgErr superE at h
  unfold superE
  by_cases h1 : burnErr n es q cs = 0
  · rw [if_pos h1] at h ⊢
    dsimp only at h
    rw [if_neg (by simp)] at h
    by_cases h2 : restL n.toNat (burntL es cs n.toNat q.toNat) = []
    · exact ⟨h1, h2, by rw [decide_eq_true h2]⟩
    · rw [decide_eq_false h2] at h; simp at h
  · rw [if_neg h1] at h
    dsimp only at h
    rw [if_pos h1] at h
    exact absurd h h1
theorem cfg_check {n : Int} {es : List E3} {q : Int} {cs : List Int} (h : cfgErr n es q cs = 0) : checkG n es = 0 := by
  obtain ⟨h1, _⟩ := burn_zero (cfg_zero h).1
  rcases conf_cases n es q cs with ⟨h2, h3⟩ | ⟨h2, _⟩ | ⟨h2, _⟩
  · exact absurd (h3 ▸ h1) h2
  all_goals
    rcases root_cases n es q with ⟨a, b⟩ | ⟨a, _, b⟩ | ⟨a, _⟩ | ⟨a, _⟩
    · exact absurd (b ▸ h2) a
    · exact a
    · exact a
    · exact a
set_option maxRecDepth 100000 in
set_option maxHeartbeats 4000000 in
theorem configured_ok (n q : Nat) (A : Option Addr) (c : Nat) (es : List E3) (hlen : es.length ≤ 10000) (hm : (endsL es).length ≤ 60) (B : Option Addr) (d : Nat) (cs : List Int) (hz : cfgErr n es q cs = 0) (w : World) (h : Reads w w.heap.size 3 A es.length (edgeCells es)) (h' : Reads w w.heap.size 1 B cs.length (ints cs)) :
    Calls Tryz.prog 50 #[.agg #[.int .i64 n, .slice A es.length c], .int .i64 q, .slice B cs.length d] w fun e w' => ∃ b, e = .returned (.tuple #[.pointer (some ⟨b, 0, none⟩), .int .i64 0]) ∧ Hid (FireOut w w' b n (endsL es) (fireC_ (endsL es) n q cs)) ∧ Below w.heap.size w w' := by
  obtain ⟨hb0, _, hsu⟩ := cfg_zero hz
  obtain ⟨hG, _, hq0, hqn, hcl, _⟩ := conf_zero (burn_zero hb0).1
  have hck : checkG n es = 0 := by
    obtain ⟨h1, _⟩ := burn_zero hb0
    rcases conf_cases n es q cs with ⟨h2, h3⟩ | ⟨h2, _⟩ | ⟨h2, _⟩
    · exact absurd (h3 ▸ h1) h2
    · rcases root_cases n es q with ⟨a, b⟩ | ⟨a, _, b⟩ | ⟨a, _⟩ | ⟨a, _⟩
      · exact absurd (b ▸ h2) a
      · exact a
      · exact a
      · exact a
    · rcases root_cases n es q with ⟨a, b⟩ | ⟨a, _, b⟩ | ⟨a, _⟩ | ⟨a, _⟩
      · exact absurd (b ▸ h2) a
      · exact a
      · exact a
      · exact a
  have hn : n ≤ 12 := by have := hG.hi; omega
  have hq : q < n := by omega
  have hE := bd_ends hG
  have hlc : cs.length = n := by omega
  have SU : Hid (∀ W, Below w.heap.size w W → Calls Tryz.prog 84 #[.agg #[.int .i64 n, .slice A es.length c], .int .i64 q, .slice B cs.length d] W fun e w' => e = .returned (.tuple #[.bool true, .int .i64 0]) ∧ Below W.heap.size W w') := by
    intro W hB
    have := super_any n A c es (by omega) q B d cs (by omega) W ((h.below hB).more hB.size) ((h'.below hB).more hB.size)
    rw [hsu] at this
    exact this
  have LI : Hid (∀ W, Below w.heap.size w W → Calls Tryz.prog 85 #[.agg #[.int .i64 n, .slice A es.length c], .int .i64 q, .func (.func 86) #[.slice B cs.length d] #[]] W fun e w' => ∃ b, e = .returned (.pointer (some ⟨b, 0, none⟩)) ∧ Hid (FireOut w w' b n (endsL es) (fireC_ (endsL es) n q cs)) ∧ Below W.heap.size W w') := by
    intro W hB
    refine (lit_any n q 86 (.slice B cs.length d) (ltC cs) A c es hn hq hlen hck hm hE W ((h.below hB).more hB.size) (enters_of (P := Tryz.prog) Tryz.func86 (by kernel_rfl) rfl) (fun W' x e t hW' hx _ => ?_)).mono ?_
    · have h6 := (h'.below (hB.trans (hW'.mono hB.size))).more (hB.trans (hW'.mono hB.size)).size
      rw [hlc] at h6 ⊢
      exact clights_any B d n cs hlc x e t hx W' h6
    · rintro e w' ⟨b, rfl, HF, hb⟩
      obtain ⟨a, T, base, f, p, so, z1, z2⟩ := HF.out
      have hfi : FI (endsL es) n q (fireC_ (endsL es) n q cs) := (FI.run (lit := ltC cs) hE hq).1
      refine ⟨b, rfl, ?_, hb⟩
      have := asc_of hfi.tnd (fun e he => hfi.lt e (hfi.tsub e he)) p so
      rw [this] at f
      exact ⟨_, a, base, f, Nat.le_trans hB.size z1, z2⟩
  have g0 := Blk.new w 24 #[.int .i64 n, .slice A es.length c]
  have hB0 : Below w.heap.size w (w.alloc (.cells #[.int .i64 n, .slice A es.length c] 24)) := (Below.refl _ _).alloc (Nat.le_refl _) _
  have c0 := g0.cell 0
  have c1 := g0.cell 1
  clear hz hb0 hsu hG hq0 hqn hcl hck hE hlc h h' hm
  go_enter Tryz.func50, Tryz.ntmps50
  go_wp2_with fail
  refine (SU.out _ hB0).mono ?_
  rintro e w1 ⟨rfl, hb1⟩
  have hB1 := hB0.trans (hb1.mono hB0.size)
  have g1 := g0.next hb1
  have k0 := g1.cell 0
  have k1 := g1.cell 1
  clear c0 c1
  go_wp2_with fail
  refine (LI.out _ hB1).mono ?_
  rintro e w2 ⟨b, rfl, HF, hb2⟩
  have hB2 := hB1.trans (hb2.mono hB1.size)
  go_wp2
  go_ret2
  exact ⟨b, rfl, HF, hB2⟩
set_option maxHeartbeats 4000000 in
theorem configured_bad (n q : Int) (A : Option Addr) (c : Nat) (es : List E3) (hlen : es.length ≤ 10000) (B : Option Addr) (d : Nat) (cs : List Int) (hm : cs.length ≤ 1048000) (z : Int) (hcz : cfgErr n es q cs = z) (hz : z ≠ 0) (w : World) (h : Reads w w.heap.size 3 A es.length (edgeCells es)) (h' : Reads w w.heap.size 1 B cs.length (ints cs)) :
    Calls Tryz.prog 50 #[.agg #[.int .i64 n, .slice A es.length c], .int .i64 q, .slice B cs.length d] w fun e w' => e = .returned (.tuple #[.pointer none, .int .i64 z]) ∧ Below w.heap.size w w' := by
  have SU := Lib.hid (fun (W : World) (hB : Below w.heap.size w W) => super_any n A c es (by omega) q B d cs hm W ((h.below hB).more hB.size) ((h'.below hB).more hB.size))
  have g0 := Blk.new w 24 #[.int .i64 n, .slice A es.length c]
  have hB0 : Below w.heap.size w (w.alloc (.cells #[.int .i64 n, .slice A es.length c] 24)) := (Below.refl _ _).alloc (Nat.le_refl _) _
  have c0 := g0.cell 0
  have c1 := g0.cell 1
  unfold cfgErr at hcz
  obtain ⟨⟨r, x⟩, hr⟩ : ∃ p, superE n es q cs = p := ⟨_, rfl⟩
  rw [hr] at SU hcz
  dsimp only at SU hcz
  clear hr h h'
  by_cases hx : x = 0
  · subst hx
    rw [if_neg (by simp)] at hcz
    rcases r with _ | _
    · obtain rfl : z = 15 := by simpa using hcz.symm
      clear hcz hz
      go_enter Tryz.func50, Tryz.ntmps50
      go_wp2_with fail
      refine (SU.out _ hB0).mono ?_
      rintro e w1 ⟨rfl, hb1⟩
      have hB1 := hB0.trans (hb1.mono hB0.size)
      go_wp2
      go_ret2
      exact ⟨rfl, hB1⟩
    · rw [if_pos rfl] at hcz; exact absurd hcz.symm hz
  · rw [if_pos hx] at hcz
    subst hcz
    have hxb : (x != 0) = true := by simpa using hx
    clear hx hz
    go_enter Tryz.func50, Tryz.ntmps50
    go_wp2_with fail
    refine (SU.out _ hB0).mono ?_
    rintro e w1 ⟨rfl, hb1⟩
    have hB1 := hB0.trans (hb1.mono hB0.size)
    go_wp2
    go_ret2
    exact ⟨rfl, hB1⟩
end Go.Proofs.YtghigdcpinengaaGreat

/-! Package superstable: calm, first, configurations. -/
namespace Go.Proofs.YtghigdcpinengaaGreat
open Go.RowKit Go.Shelf

set_option maxRecDepth 100000 in
set_option maxHeartbeats 2000000 in
theorem sfirst_ok (n : Nat) (A : Option Addr) (c : Nat) (es : List E3) (hlen : es.length ≤ 10000) (q : Nat) (hx : rootErr n es q = 0) (w : World) (h : Reads w w.heap.size 3 A es.length (edgeCells es)) :
    Calls Tryz.prog 78 #[.agg #[.int .i64 n, .slice A es.length c], .int .i64 q] w fun e w' => ∃ Am cm, e = .returned (.tuple #[.slice Am n cm, .int .i64 0]) ∧ OwnI w' w.heap.size Am cm (maxL n es q) ∧ Below w.heap.size w w' := by
  have MX := Lib.hid (maximal_ok n A c es hlen q hx)
  have g0 := Blk.new w 24 #[.int .i64 n, .slice A es.length c]
  have c0 := g0.cell 0
  have c1 := g0.cell 1
  clear hx
  go_enter Tryz.func78, Tryz.ntmps78
  go_wp2_with fail
  refine (MX.out _ ((h.alloc (Nat.le_refl _) _).more (by simp))).mono ?_
  rintro e w1 ⟨Am, cm, rfl, o1, hb1⟩
  have hB1 : Below w.heap.size w w1 := ((Below.refl _ _).alloc (Nat.le_refl _) _).trans (hb1.mono (by simp))
  go_wp2
  go_ret2
  exact ⟨Am, cm, rfl, o1.mono (by simp), hB1⟩
end Go.Proofs.YtghigdcpinengaaGreat

/-! Package recurrent: the iterator recurrents, where all vertices are chosen. -/
namespace Go.Proofs.YtghigdcpinengaaGreat
open Go.RowKit Go.Shelf
attribute [local go_sem] Oper.semAt_some

/-- What all steps of the iterator share. -/
structure RFix (n q : Nat) (es : List E3) (top : List Int) : Prop where
  hlen : es.length ≤ 10000
  hz : checkG n es = 0
  hq : q < n
  htl : top.length = n
  htb : ∀ x ∈ top, 0 ≤ x ∧ x ≤ 1048576
/-- The property. -/
def recP (n : Nat) (es : List E3) (q : Nat) (c : List Int) : Bool := recB n es c q

set_option maxRecDepth 100000 in
set_option maxHeartbeats 4000000 in
theorem recs_iter0 (n q : Nat) (es : List E3) (top : List Int) (hF : RFix n q es top) (cs : List Int) (hcs : cs.length = n) (hcb : ∀ x ∈ cs, -1048576 ≤ x ∧ x ≤ 1048577) (bp bv bt : Nat) (A : Option Addr) (cA : Nat) (C : Option Addr) (cC : Nat) (T : Option Addr) (cT : Nat) (W0 : World)
    (hW : RecW W0 n q n bp bv bt es A cA C cC T cT cs top) :
    Iter Tryz.prog 115 #[.pointer (some ⟨bp, 0, none⟩), .pointer (some ⟨bv, 0, none⟩), .pointer (some ⟨bt, 0, none⟩)] ArgD (KR bp bv bt es A C T) (fun _ => False) (enumR (recP n es q) top n 0 cs) W0 := by
  intro l J Jx C0 W hL hC hJ hJx hY h0
  have hn0 : 0 < n := by have := hF.hq; omega
  have hn12 : n ≤ 12 := by have := (right_of hF.hz).hi; omega
  have hRW : RecW W n q n bp bv bt es A cA C cC T cT cs top := hW.kept hL.size fun k hk => hL.block k (hW.lt hn0 hk) hk
  obtain ⟨Wy, hWy⟩ : ∃ Wy, W.alloc (.cells #[.func (.yield l) #[] #[]] 144) = Wy := ⟨_, rfl⟩
  have hby : Below W.heap.size W Wy := by rw [← hWy]; exact (Below.refl _ _).alloc (Nat.le_refl _) _
  have y5 : Blk Wy W.heap.size 144 #[.func (.yield l) #[] #[]] := by rw [← hWy]; exact Blk.new _ _ _
  have hsy : Wy.heap.size = W.heap.size + 1 := by rw [← hWy]; simp
  have hRy := hRW.next hn0 hby
  have RC := Lib.hid (recurs_any n A cA es q hF.hq C cC cs ⟨hF.hlen, hF.hz, hcs, hcb⟩ Wy hRy.e hRy.c)
  have CL := Lib.hid (fun (W : World) (h : Reads W W.heap.size 1 C n (ints cs)) => by have := dclone_any C cC cs (by omega) W (by rw [hcs]; exact h); rw [hcs] at this; exact this)
  have HRY := Lib.hid hRy
  have HJ := Lib.hid hJ
  have HY := Lib.hid hY
  have HC := Lib.hid hC
  have HLEN := Lib.hid hcs
  have hJy := hJ _ _ _ _ h0 (Stays.of_new hby)
  have HJy := Lib.hid hJy
  have e1 := hRy.p.cell 0
  have e2 := hRy.p.cell 1
  have e3 := hRy.p.cell 2
  have e4 := hRy.p.cell 3
  have HEN : Hid (enumR (recP n es q) top n 0 cs = if recB n es cs q then [cs] else []) := rfl
  obtain ⟨xs, hxs⟩ : ∃ xs, enumR (recP n es q) top n 0 cs = xs := ⟨_, rfl⟩
  rw [hxs] at HEN HY ⊢
  obtain ⟨b, hb⟩ : ∃ b, recB n es cs q = b := ⟨_, rfl⟩
  rw [hb] at HEN RC
  clear hb hxs hJ hY hC hcs hRy hRW hW hF hL h0 hJx hJy hcb
  refine (callsIn_wide (n := 3)).1 ?_
  refine callsIn_of_wp_marks Tryz.func115 rfl trivial ?_
  simp only [Tryz.ntmps115, List.size_toArray, List.length_cons, List.length_nil, Nat.reduceAdd, Nat.reduceSub, Array.replicate_succ, Array.replicate_zero, List.push_toArray, List.append_toArray, List.nil_append, List.cons_append]
  gi_wp2_with fail
  refine ⟨trivial, ?_⟩

  refine (inW RC.out).mono ?_
  rintro e w1 ⟨rfl, hb1⟩
  have hB1 := hby.trans (hb1.mono (by omega))
  have hR1 := HRY.out.next hn0 hb1
  have J1 := Lib.hid (HJ.out _ _ _ _ HJy.out (Stays.of_new hb1))
  have y1 := y5.next hb1
  have hs1 := hb1.size
  have e5 := y1.cell 0
  have e1 := hR1.p.cell 0
  have e3 := hR1.p.cell 2
  have e4 := hR1.p.cell 3
  have e6 := hR1.v.cell 0
  have HR1 := Lib.hid hR1
  clear hby y5 hWy hR1
  cases b
  · have HEN2 : Hid (xs = []) := HEN.out
    gi_wp2
    exact ⟨_, results_none rfl _ _ _, ⟨⟨_, rfl⟩, C0, .inl (by rw [HEN2.out]; exact J1.out)⟩⟩
  · have HEN2 : Hid (xs = [cs]) := HEN.out
    have HPR : Hid ([] ++ [cs] <+: xs) := by rw [HEN2.out]; exact List.prefix_refl _
    have HA2 : Hid (∀ (A' : Option Addr) (c' : Nat), (#[.slice A' n c'] : Array Value) = #[.slice A' cs.length c']) := fun A' c' => by rw [HLEN.out]
    gi_wp2_with fail
    refine wpIn_nopanic ?_
    gi_region_with (first
      | (refine ⟨trivial, ?_⟩; gi_at_call 82; refine (inW (CL.out w1.drew HR1.out.c)).mono ?_; rintro e w2 ⟨A', c', rfl, hown, hbel⟩
         have ho1 : Only (fun _ => False) w1 w2 := ((Only.refl _ w1).drew).trans (Only.of_new hbel)
         have cy : w2.cell? ⟨W.heap.size, 0, none⟩ = some (.func (.yield l) #[] #[]) := (hbel.cell (p := ⟨W.heap.size, 0, none⟩) y1.lt).trans e5
         have hs2 := ho1.size
         have hOw : Hid (∀ k, blockOf A' k → w1.heap.size ≤ k ∧ k < w2.heap.size) := fun k hk => hown.lt k (blockOf_own.2 hk)
         obtain ⟨fn, tmps, assign, body, hy, hR⟩ := HY.out [] cs C0 w2 #[.slice A' n c'] (blockOf A') HPR.out (HJ.out _ _ _ _ J1.out (Stays.of_only ho1 (fun _ _ h => h.elim))) (by omega) (fun k hk => by have := (HC.out k hk).1; omega) (fun k hk => ⟨fun h => by have := (HC.out k h).1; have := (hOw.out k hk).1; omega, (hOw.out k hk).2, by have := (hOw.out k hk).1; omega⟩) ⟨A', c', HA2.out A' c', hown.mono (Nat.zero_le _), fun k hk => hk⟩)
      | (refine (roundIn_wide hR).mono ?_; rintro e w3 ⟨C2, b2, ho2, hg2, rfl, hj2, hx2⟩))
    all_goals (
      refine nopanic_normal ?_
      have EN : Hid (∃ C', J xs C' w3 ∨ ∃ pre, pre <+: xs ∧ Jx pre C' w3) := by
        rw [HEN2.out]
        cases b2
        · exact ⟨C2, .inr ⟨_, List.prefix_refl _, hx2 rfl⟩⟩
        · exact ⟨C2, .inl (hj2 rfl)⟩
      clear hj2 hx2 hR hy ho2 hg2
      gi_wp2
      exact ⟨_, results_none rfl _ _ _, ⟨⟨_, rfl⟩, EN.out⟩⟩)
end Go.Proofs.YtghigdcpinengaaGreat

/-! ref24.Worst: the greatest forbidden set; ref24.Is: is a configuration recurrent? -/
namespace Go.Proofs.YtghigdcpinengaaGreat
open Go.RowKit

end Go.Proofs.YtghigdcpinengaaGreat

/-! Plain: the dual of a stable configuration is superstable exactly if the configuration is recurrent; the same order proves both; the dual of the dual is the configuration. No program is in sight. -/
namespace Go.Proofs.YtghigdcpinengaaGreat
open Go.RowKit

theorem cat_same {es : List E3} {c c' : List Int} {l : List Nat} {v : Nat} (h : v ∉ l → c.getD v 0 = c'.getD v 0) : catL es c l v = catL es c' l v := by
  unfold catL
  by_cases hm : v ∈ l
  · simp [hm]
  · rw [h hm]
theorem burnL_same {n q : Nat} {es : List E3} {c c' : List Int} (h : ∀ v, v < n → v ≠ q → c.getD v 0 = c'.getD v 0) : ∀ (k : Nat) (l : List Nat), q ∈ l → burnL es c n k l = burnL es c' n k l
  | 0, _, _ => rfl
  | k + 1, l, hq => by
    have hr : readyL es c n l = readyL es c' n l := List.filter_congr fun v hv => cat_same fun hm => h v (List.mem_range.1 hv) (fun e => hm (e ▸ hq))
    rw [burnL, burnL, hr]
    cases (readyL es c' n l).head? with
    | none => rfl
    | some v => exact burnL_same h k _ (by simp [hq])
theorem burnt_dual (n : Nat) (es : List E3) (cs : List Int) (q : Nat) : burntL es (dulL n es cs q) n q = recL n es cs q :=
  burnL_same (q := q) (fun v hv hvq => by rw [dulL_get es cs q hv, if_neg hvq, dualL_get es cs hv]) n [q] (by simp)

theorem prv_dual {n q : Nat} {es : List E3} (hG : RightG n es) (cs : List Int) : ∀ (r l : List Nat), LOk n (l ++ r) → q ∈ l → prvFrom es cs l r = provFrom es (dulL n es cs q) l r
  | [], _, _, _ => rfl
  | x :: r, l, h, hq => by
    have hxl : x ∉ l := fun hc => by
      have := h.1
      rw [List.nodup_append] at this
      exact this.2.2 x hc x (by simp) rfl
    have hxn : x < n := h.2 x (by simp)
    have hlo : LOk n l := ⟨(List.nodup_append.1 h.1).1, fun v hv => h.2 v (by simp [hv])⟩
    have h1 := cat_dual hG cs hlo hxn
    have h2 : catL es (dulL n es cs q) l x = catL es (dualL n es cs) l x := cat_same fun _ => by
      have hxq : x ≠ q := by rintro rfl; exact hxl hq
      rw [dulL_get es cs q hxn, if_neg hxq, dualL_get es cs hxn]
    have h3 : catchB es cs l x = decide ((dulL n es cs q).getD x 0 < joinsN es x l) := by
      rw [h1] at h2
      unfold catL at h2
      rw [decide_eq_false hxl, Bool.not_false, Bool.true_and, Bool.true_and] at h2
      exact h2.symm
    rw [prvFrom, provFrom, h3, prv_dual (q := q) hG cs r (l ++ [x]) (by simpa using h) (by simp [hq])]

section
variable {n q : Nat} {es : List E3} {cs : List Int}
theorem dul_err (hlen : es.length ≤ 10000) (hz : burnErr n es q cs = 0) (hs : stabTo es cs q n = true) : burnErr n es q (dulL n es cs q) = 0 := by
  obtain ⟨hG, _, _, hq, hl, hb, h0⟩ := conf_zero (burn_zero hz).1
  have hz0 := (burn_zero hz).2
  have hq : q < n := by omega
  have hl : cs.length = n := by omega
  have hst := stabTo_iff.1 hs
  have hget : ∀ v, v < n → 0 ≤ (dulL n es cs q).getD v 0 ∧ (dulL n es cs q).getD v 0 ≤ 1048576 := by
    intro v hv
    rw [dulL_get es cs q hv]
    by_cases hvq : v = q
    · rw [if_pos hvq]; omega
    · rw [if_neg hvq]
      have h1 := hst v hv hvq
      have h2 := h0 v (by omega) (by omega)
      have h3 := valE_bd hG.ok v
      omega
  refine burn_zero_of hz (by rw [dulL_length]) (fun x hx => ?_) (fun v => ?_) ?_
  · obtain ⟨i, hi⟩ := List.getElem?_of_mem hx
    have hin : i < n := by have := (List.getElem?_eq_some_iff.1 hi).1; rw [dulL_length] at this; exact this
    have := hget i hin
    rw [getD_at hi] at this
    omega
  · by_cases hv : v < n
    · exact (hget v hv).1
    · rw [List.getD_eq_getElem?_getD, List.getElem?_eq_none (by rw [dulL_length]; omega)]
      simp
  · rw [Int.toNat_natCast, dulL_get es cs q hq, if_pos rfl]
theorem dul_stab (hz : burnErr n es q cs = 0) : stabTo es (dulL n es cs q) q n = true := by
  obtain ⟨_, _, _, _, _, _, h0⟩ := conf_zero (burn_zero hz).1
  rw [stabTo_iff]
  intro v hv hvq
  rw [dulL_get es cs q hv, if_neg hvq]
  have := h0 v (by omega) (by omega)
  omega
theorem dul_dul (hz : burnErr n es q cs = 0) : dulL n es (dulL n es cs q) q = cs := by
  obtain ⟨_, _, _, _, hl, _, _⟩ := conf_zero (burn_zero hz).1
  have hz0 := (burn_zero hz).2
  rw [Int.toNat_natCast] at hz0
  have hl : cs.length = n := by omega
  apply List.ext_getElem?
  intro i
  by_cases hi : i < n
  · have h1 : ∀ {l : List Int}, l.length = n → l[i]? = some (l.getD i 0) := fun {l} h => by
      rw [List.getD_eq_getElem?_getD, List.getElem?_eq_getElem (by omega)]; rfl
    rw [h1 (dulL_length n es _ q), h1 hl, dulL_get es _ q hi]
    by_cases h : i = q
    · rw [if_pos h, h, hz0]
    · rw [if_neg h, dulL_get es cs q hi, if_neg h]
      congr 1
      omega
  · rw [List.getElem?_eq_none (by rw [dulL_length]; omega), List.getElem?_eq_none (by omega)]
/-- All that the law asks of a stable configuration. -/
theorem dual_plain (hlen : es.length ≤ 10000) (hz : burnErr n es q cs = 0) (hs : stabTo es cs q n = true) :
    burnErr n es q (dulL n es cs q) = 0 ∧ stabTo es (dulL n es cs q) q n = true ∧ dulL n es (dulL n es cs q) q = cs ∧
    decide (restL n (burntL es (dulL n es cs q) n q) = []) = recB n es cs q ∧ recB n es cs q = decide (worstL n es cs q = []) ∧
    (recB n es cs q = true → verErr n es q cs (natsI (recL n es cs q)) = 0 ∧ rverB n es q cs (natsI (recL n es cs q)) = true ∧
      verErr n es q (dulL n es cs q) (natsI (recL n es cs q)) = 0 ∧ verB n es q (dulL n es cs q) (natsI (recL n es cs q)) = true) := by
  have hd := dul_err hlen hz hs
  obtain ⟨hG, _, _, hq, hl, hb, h0⟩ := conf_zero (burn_zero hz).1
  have hq : q < n := by omega
  have hrb : recB n es cs q = decide (worstL n es cs q = []) := by
    unfold recB
    rw [hs, Bool.true_and, decide_eq_decide]
    exact full_iff hq
  refine ⟨hd, dul_stab hz, dul_dul hz, by rw [burnt_dual, hrb]; rfl, hrb, fun hr => ?_⟩
  have hw : worstL n es cs q = [] := by rw [hrb] at hr; exact of_decide_eq_true hr
  have hfull := (full_iff hq).2 hw
  have hlo := recL_ok (n := n) (q := q) (es := es) (cs := cs) hq
  obtain ⟨r, hbr, hpr⟩ := burn_proves (es := es) (cs := dulL n es cs q) (n := n) ⟨by simp, by simp⟩ n [q]
  have hbr : recL n es cs q = [q] ++ r := (burnt_dual n es cs q).symm.trans hbr
  rw [hbr] at hlo hfull
  rw [hbr]
  obtain ⟨v1, v2⟩ := ver_true hd hlo hfull hpr
  have v3 : verErr n es q cs (natsI ([q] ++ r)) = 0 := by unfold verErr; rw [if_neg (by omega)]; exact ren_zero hlo hfull
  refine ⟨v3, ?_, v1, v2⟩
  unfold rverB
  rw [if_pos v3, nats_toNat, natsI_getD]
  unfold prvL
  have := prv_dual (q := q) hG cs r [q] hlo (by simp)
  simp [this, hpr, hs]
end
end Go.Proofs.YtghigdcpinengaaGreat

