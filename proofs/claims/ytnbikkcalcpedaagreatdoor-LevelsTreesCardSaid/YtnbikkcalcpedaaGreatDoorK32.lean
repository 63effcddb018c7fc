/-
 Texts of this claim, put together: SupP, RRecs, RBan, RRVer, DivP, RCutset, ActW, CfgF, Sup, RRecs2, RWorst, DualP, ActIn, Within, StepF, FireE.
-/
import Derived.Test.YtnbikkcalcpedaaGreatDoorK29
import Derived.Test.YtnbikkcalcpedaaGreatDoorK30
import Derived.Test.YtnbikkcalcpedaaGreatDoorK07
import Derived.Test.YtnbikkcalcpedaaGreatDoorK08
import Derived.Stop.RegionWithIn
import Derived.Sort.CutIn
import Derived.Deep.RegionHeld3
import Derived.Test.YtnbikkcalcpedaaGreatDoorK21
import Derived.Test.YtnbikkcalcpedaaGreatDoorK19
import Derived.Test.YtnbikkcalcpedaaGreatDoorK26
import Derived.Deep.QuietTactic
import Derived.BigQuiet
import Derived.Deep.RegionLaw
import Derived.Deep.CutRange
import Derived.Deep.DrawnRows
import Derived.Test.YtnbikkcalcpedaaGreatDoorK27
import Derived.Test.YtnbikkcalcpedaaGreatDoorK31
import Derived.Test.YtnbikkcalcpedaaGreatDoorK20
import Derived.Test.YtnbikkcalcpedaaGreatDoorK25
import Derived.Test.YtnbikkcalcpedaaGreatDoorK16
import Derived.Test.YtnbikkcalcpedaaGreatDoorK06
import Derived.Test.YtnbikkcalcpedaaGreatDoorK23
set_option maxRecDepth 100000
set_option maxHeartbeats 4000000
namespace Go.Proofs.YtnbikkcalcpedaaGreatDoor
open Go.RowKit
def calmB (n : Nat) (es : List E3) (q : Nat) (c : List Int) : Bool := (superE n es q c).1 && decide ((superE n es q c).2 = 0)
def enumF (n q : Nat) (P : List Int → Bool) : Nat → List Int → List (List Int)
 | 0, c => [c]
 | m + 1, c => if n - (m + 1) = q then enumF n q P m c else ((List.range' 0 601).takeWhile fun j : Nat => P (c.set (n - (m + 1)) (j : Int))).flatMap fun j : Nat => enumF n q P m (c.set (n - (m + 1)) (j : Int))
theorem enumF_sink {n q : Nat} {P : List Int → Bool} {m v : Nat} {c : List Int} (hv : v + (m + 1) = n) (hq : v = q) : enumF n q P (m + 1) c = enumF n q P m c := by
 rw [enumF, if_pos (by omega)]
end Go.Proofs.YtnbikkcalcpedaaGreatDoor
namespace Go.Proofs.YtnbikkcalcpedaaGreatDoor
open Go.RowKit Go.Shelf
attribute [local go_sem] Oper.semAt_some
structure RF (K : Nat → Prop) (l : Nat) (J : List (List Int) → (Nat → Prop) → World → Prop) (W : World) (pre : List (List Int)) (C : Nat → Prop) (ds : List Deferred) (B : Nat) (w : World) : Prop where
 sz : W.heap.size < B
 szw : B ≤ w.heap.size
 kp : ∀ k, K k → k < W.heap.size ∧ w.heap[k]? = W.heap[k]?
 yb : Blk w W.heap.size 256 #[.func (.yield l) #[] #[]]
 j : J pre C w
 cl : ∀ k, C k → k < w.heap.size ∧ ¬ K k ∧ k ≠ W.heap.size
 mks : MarksAt ds w
 md : ∀ D, ({ target := .collected D, args := #[] } : Deferred) ∈ ds → W.heap.size < D ∧ D < B ∧ ¬ C D
section
variable {K : Nat → Prop} {l : Nat} {J : List (List Int) → (Nat → Prop) → World → Prop} {W : World} {pre pre' : List (List Int)} {C O C' : Nat → Prop} {ds : List Deferred} {B B' : Nat} {w w' : World}
theorem RF.stays (h : RF K l J W pre C ds B w) (hJ : Bears W.heap.size (fun _ => False) J) (hB : B ≤ B') (hst : Stays B' (fun _ => False) C w w') : RF K l J W pre C ds B w' := by
 have hsz := h.sz
 have hszw := h.szw
 refine ⟨h.sz, Nat.le_trans h.szw hst.size, fun k hk => ?_, h.yb.stays hst (.inr ⟨by omega, id⟩), ?_, ?_, ?_, h.md⟩
 ·obtain ⟨h1, h2⟩ := h.kp k hk
  exact ⟨h1, (hst.block k (by omega) (.inr ⟨by omega, id⟩)).trans h2⟩
 ·exact hJ _ _ _ _ h.j (hst.mono fun k _ hk => hk.imp id fun hk => ⟨by omega, hk.2⟩)
 ·intro k hk
  obtain ⟨h1, h2⟩ := h.cl k hk
  exact ⟨Nat.lt_of_lt_of_le h1 hst.size, h2⟩
 ·refine h.mks.keep fun D hD => ?_
  have := h.md D hD
  exact hst.block D (by omega) (.inr ⟨by omega, id⟩)
theorem RF.raise (h : RF K l J W pre C ds B w) (hB : B ≤ B') (hw : B' ≤ w.heap.size) : RF K l J W pre C ds B' w :=
 { h with sz := Nat.lt_of_lt_of_le h.sz hB, szw := hw, md := fun D hD => ⟨(h.md D hD).1, Nat.lt_of_lt_of_le (h.md D hD).2.1 hB, (h.md D hD).2.2⟩ }
theorem RF.round (h : RF K l J W pre C ds B w) (ho : Only (fun k => C k ∨ O k) w w') (hg : Grows C O C' w w') (hO : ∀ k, O k → B ≤ k ∧ k < w.heap.size) (hj : J pre' C' w') : RF K l J W pre' C' ds B w' := by
 have hsz := h.sz
 have hszw := h.szw
 have hnot : ∀ k, k < B → ¬ C k → ¬ (C k ∨ O k) := fun k hk hn hco => hco.elim hn fun hok => by have := (hO k hok).1; omega
 refine ⟨h.sz, Nat.le_trans h.szw ho.size, fun k hk => ?_, h.yb.only ho (hnot _ (by omega) fun hc => (h.cl W.heap.size hc).2.2 rfl), hj, ?_, ?_, ?_⟩
 ·obtain ⟨h1, h2⟩ := h.kp k hk
  exact ⟨h1, (ho.block k (by omega) (hnot k (by omega) fun hc => (h.cl k hc).2.1 hk)).trans h2⟩
 ·intro k hk
  rcases hg k hk with hc | hc | hc
  ·obtain ⟨q1, q2⟩ := h.cl k hc
   exact ⟨Nat.lt_of_lt_of_le q1 ho.size, q2⟩
  ·have := hO k hc
   exact ⟨Nat.lt_of_lt_of_le this.2 ho.size, (fun e => by have := (h.kp k e).1; omega), by omega⟩
  ·exact ⟨hc.2, (fun e => by have := (h.kp k e).1; omega), by omega⟩
 ·refine h.mks.keep fun D hD => ?_
  have := h.md D hD
  exact ho.block D (by omega) (hnot D (by omega) this.2.2)
 ·intro D hD
  have := h.md D hD
  refine ⟨this.1, this.2.1, fun hc => ?_⟩
  rcases hg D hc with q | q | q
  ·exact this.2.2 q
  ·have := (hO D q).1; omega
  ·omega
end
def KR (bp bv bt : Nat) (es : List E3) (A C T : Option Addr) (k : Nat) : Prop := k = bp ∨ k = bv ∨ k = bt ∨ (es.length ≠ 0 ∧ blockOf A k) ∨ blockOf C k ∨ blockOf T k
structure RecW (w : World) (n q v bp bv bt : Nat) (es : List E3) (A : Option Addr) (cA : Nat) (C : Option Addr) (cC : Nat) (T : Option Addr) (cT : Nat) (cs top : List Int) : Prop where
 p : Blk w bp 138 #[.int .i64 n, .slice A es.length cA, .int .i64 q, .slice C n cC]
 v : Blk w bv 3 #[.int .i64 v]
 t : Blk w bt 53 #[.slice T n cT]
 e : Reads w w.heap.size 3 A es.length (edgeCells es)
 c : Reads w w.heap.size 1 C n (ints cs)
 r : Reads w w.heap.size 1 T n (ints top)
section
variable {w w' : World} {n q v bp bv bt : Nat} {es : List E3} {A C T : Option Addr} {cA cC cT : Nat} {cs top : List Int}
theorem RecW.kept (h : RecW w n q v bp bv bt es A cA C cC T cT cs top) (hs : w.heap.size ≤ w'.heap.size) (hk : ∀ k, KR bp bv bt es A C T k → w'.heap[k]? = w.heap[k]?) : RecW w' n q v bp bv bt es A cA C cC T cT cs top := by
 refine ⟨(hk _ (.inl rfl)).trans h.p, (hk _ (.inr (.inl rfl))).trans h.v, (hk _ (.inr (.inr (.inl rfl)))).trans h.t, ⟨h.e.1, fun hn => ?_⟩, ⟨h.c.1, fun hn => ?_⟩, ⟨h.r.1, fun hn => ?_⟩⟩
 ·obtain ⟨b, off, hA, hb, hc⟩ := h.e.2 hn
  exact ⟨b, off, hA, by omega, fun j u hu => (World.cell?_of_block (w := w) (hk b (.inr (.inr (.inr (.inl ⟨by omega, _, hA, rfl⟩)))))).trans (hc j u hu)⟩
 ·obtain ⟨b, off, hA, hb, hc⟩ := h.c.2 hn
  exact ⟨b, off, hA, by omega, fun j u hu => (World.cell?_of_block (w := w) (hk b (.inr (.inr (.inr (.inr (.inl ⟨_, hA, rfl⟩))))))).trans (hc j u hu)⟩
 ·obtain ⟨b, off, hA, hb, hc⟩ := h.r.2 hn
  exact ⟨b, off, hA, by omega, fun j u hu => (World.cell?_of_block (w := w) (hk b (.inr (.inr (.inr (.inr (.inr ⟨_, hA, rfl⟩))))))).trans (hc j u hu)⟩
theorem RecW.lt (h : RecW w n q v bp bv bt es A cA C cC T cT cs top) (hn : 0 < n) {k : Nat} (hk : KR bp bv bt es A C T k) : k < w.heap.size := by
 rcases hk with rfl | rfl | rfl | ⟨he, ad, hA, hk⟩ | ⟨ad, hA, hk⟩ | ⟨ad, hA, hk⟩
 ·exact h.p.lt
 ·exact h.v.lt
 ·exact h.t.lt
 ·obtain ⟨b, off, e, hb, _⟩ := h.e.2 (by omega)
  rw [e] at hA; injection hA with hA; subst hA; subst hk; exact hb
 ·obtain ⟨b, off, e, hb, _⟩ := h.c.2 hn
  rw [e] at hA; injection hA with hA; subst hA; subst hk; exact hb
 ·obtain ⟨b, off, e, hb, _⟩ := h.r.2 hn
  rw [e] at hA; injection hA with hA; subst hA; subst hk; exact hb
theorem RecW.next (h : RecW w n q v bp bv bt es A cA C cC T cT cs top) (hn : 0 < n) (hb : Below w.heap.size w w') : RecW w' n q v bp bv bt es A cA C cC T cT cs top := h.kept hb.size fun k hk => hb.block k (h.lt hn hk)
end
theorem frecs_any (n m c : Nat) (A : Option Addr) (q : Int) (B : Option Addr) (k d : Nat) (v : Int) (T : Option Addr) (kT cT : Nat) (w : World) :
  Calls Tryz.prog 149 #[.agg #[.int .i64 n, .slice A m c, .int .i64 q, .slice B k d], .int .i64 v, .slice T kT cT] w fun e w' => e = .returned (.func (.func 208) #[] #[.pointer (some ⟨w.heap.size, 0, none⟩), .pointer (some ⟨w.heap.size + 1, 0, none⟩), .pointer (some ⟨w.heap.size + 1 + 1, 0, none⟩)]) ∧
   ((w.alloc (.cells #[.int .i64 n, .slice A m c, .int .i64 q, .slice B k d] 138)).alloc (.cells #[.int .i64 v] 3)).alloc (.cells #[.slice T kT cT] 53) = w' := by
 have hmf : ∀ (fn : Fn) (first cap : Array Value) (w : World), (Instr.makeFunc fn first cap).run Tryz.prog w = .ok (.func fn first cap) w := fun _ _ _ _ => rfl
 go_enter Tryz.func149, Tryz.ntmps149
 go_wp2
 go_ret
 exact ⟨rfl, rfl⟩
end Go.Proofs.YtnbikkcalcpedaaGreatDoor
namespace Go.Proofs.YtnbikkcalcpedaaGreatDoor
open Go.RowKit
def prvFrom (es : List E3) (cs : List Int) : List Nat → List Nat → Bool
 | _, [] => true
 | s, x :: r => catchB es cs s x && prvFrom es cs (s ++ [x]) r
def prvL (es : List E3) (cs : List Int) (l : List Nat) : Bool := prvFrom es cs (l.take 1) (l.drop 1)
def rverB (n : Int) (es : List E3) (q : Int) (cs xs : List Int) : Bool := if verErr n es q cs xs = 0 then decide (xs.getD 0 0 = q) && stabTo es cs q.toNat n.toNat && prvL es cs (xs.map Int.toNat) else false
end Go.Proofs.YtnbikkcalcpedaaGreatDoor
namespace Go.Proofs.YtnbikkcalcpedaaGreatDoor
theorem endsL_cons (e : E3) (es : List E3) : endsL (e :: es) = List.replicate e.2.2.toNat (e.1.toNat, e.2.1.toNat) ++ endsL es := by simp [endsL]
section
variable {E : List (Nat × Nat)} {k : Nat}
end
end Go.Proofs.YtnbikkcalcpedaaGreatDoor
namespace Go.Proofs.YtnbikkcalcpedaaGreatDoor
open Go.RowKit
def cfgErr (n : Int) (es : List E3) (q : Int) (cs : List Int) : Int := if (superE n es q cs).2 ≠ 0 then (superE n es q cs).2 else if (superE n es q cs).1 = true then 0 else 15
def grownErr (n : Int) (es : List E3) (q : Int) (xs : List Int) : Int := if treeErr n es xs ≠ 0 then treeErr n es xs else if q < 0 ∨ n ≤ q then 2 else 0
def FireOut (w w' : World) (b n : Nat) (E : List (Nat × Nat)) (s : FireS) : Prop := ∃ lv a base, FireW w' base b E n lv a { s with tree := ascN E.length s.tree } [] ∧ w.heap.size ≤ base ∧ base ≤ w'.heap.size
theorem asc_of {m : Nat} {T l : List Nat} (hn : l.Nodup) (hl : ∀ e ∈ l, e < m) (hp : T.Perm l) (hs : T.Pairwise (· ≤ ·)) : T = ascN m l := by
 refine setN_ext ⟨?_, fun e he => hl e (hp.mem_iff.1 he)⟩ (asc_set m l) fun x => ⟨fun h => mem_asc.2 ⟨hl x (hp.mem_iff.1 h), hp.mem_iff.1 h⟩, fun h => hp.mem_iff.2 (mem_asc.1 h).2⟩
 have hd := hp.nodup_iff.2 hn
 exact (hd.and hs).imp fun h => by omega
theorem cfg_zero {n : Int} {es : List E3} {q : Int} {cs : List Int} (h : cfgErr n es q cs = 0) : burnErr n es q cs = 0 ∧ restL n.toNat (burntL es cs n.toNat q.toNat) = [] ∧ (superE n es q cs) = (true, 0) := by
 unfold cfgErr superE at h
 unfold superE
 by_cases h1 : burnErr n es q cs = 0
 ·rw [if_pos h1] at h ⊢
  dsimp only at h
  rw [if_neg (by simp)] at h
  by_cases h2 : restL n.toNat (burntL es cs n.toNat q.toNat) = []
  ·exact ⟨h1, h2, by rw [decide_eq_true h2]⟩
  ·rw [decide_eq_false h2] at h; simp at h
 ·rw [if_neg h1] at h
  dsimp only at h
  rw [if_pos h1] at h
  exact absurd h h1
end Go.Proofs.YtnbikkcalcpedaaGreatDoor
namespace Go.Proofs.YtnbikkcalcpedaaGreatDoor
open Go.RowKit Go.Shelf
theorem sfirst_ok (n : Nat) (A : Option Addr) (c : Nat) (es : List E3) (hlen : es.length ≤ 10000) (q : Nat) (hx : rootErr n es q = 0) (w : World) (h : Reads w w.heap.size 3 A es.length (edgeCells es)) :
  Calls Tryz.prog 202 #[.agg #[.int .i64 n, .slice A es.length c], .int .i64 q] w fun e w' => ∃ Am cm, e = .returned (.tuple #[.slice Am n cm, .int .i64 0]) ∧ OwnI w' w.heap.size Am cm (maxL n es q) ∧ Below w.heap.size w w' := by
 have MX := Lib.hid (maximal_ok n A c es hlen q hx)
 have g0 := Blk.new w 24 #[.int .i64 n, .slice A es.length c]
 have c0 := g0.cell 0
 have c1 := g0.cell 1
 clear hx
 go_enter Tryz.func202, Tryz.ntmps202
 go_wp2_with fail
 refine (MX.out _ ((h.alloc (Nat.le_refl _) _).more (by simp))).mono ?_
 rintro e w1 ⟨Am, cm, rfl, o1, hb1⟩
 have hB1 : Below w.heap.size w w1 := ((Below.refl _ _).alloc (Nat.le_refl _) _).trans (hb1.mono (by simp))
 go_wp2
 go_ret2
 exact ⟨Am, cm, rfl, o1.mono (by simp), hB1⟩
end Go.Proofs.YtnbikkcalcpedaaGreatDoor
namespace Go.Proofs.YtnbikkcalcpedaaGreatDoor
open Go.RowKit Go.Shelf
attribute [local go_sem] Oper.semAt_some
structure RFix (n q : Nat) (es : List E3) (top : List Int) : Prop where
 hlen : es.length ≤ 10000
 hz : checkG n es = 0
 hq : q < n
 htl : top.length = n
 htb : ∀ x ∈ top, 0 ≤ x ∧ x ≤ 1048576
def recP (n : Nat) (es : List E3) (q : Nat) (c : List Int) : Bool := recB n es c q
theorem recs_iter0 (n q : Nat) (es : List E3) (top : List Int) (hF : RFix n q es top) (cs : List Int) (hcs : cs.length = n) (hcb : ∀ x ∈ cs, -1048576 ≤ x ∧ x ≤ 1048577) (bp bv bt : Nat) (A : Option Addr) (cA : Nat) (C : Option Addr) (cC : Nat) (T : Option Addr) (cT : Nat) (W0 : World)
  (hW : RecW W0 n q n bp bv bt es A cA C cC T cT cs top) :
  Iter Tryz.prog 208 #[.pointer (some ⟨bp, 0, none⟩), .pointer (some ⟨bv, 0, none⟩), .pointer (some ⟨bt, 0, none⟩)] ArgD (KR bp bv bt es A C T) (fun _ => False) (enumR (recP n es q) top n 0 cs) W0 := by
 intro l J Jx C0 W hL hC hJ hJx hY h0
 have hn0 : 0 < n := by have := hF.hq; omega
 have hn12 : n ≤ 12 := by have := (right_of hF.hz).hi; omega
 have hRW : RecW W n q n bp bv bt es A cA C cC T cT cs top := hW.kept hL.size fun k hk => hL.block k (hW.lt hn0 hk) hk
 obtain ⟨Wy, hWy⟩ : ∃ Wy, W.alloc (.cells #[.func (.yield l) #[] #[]] 256) = Wy := ⟨_, rfl⟩
 have hby : Below W.heap.size W Wy := by rw [← hWy]; exact (Below.refl _ _).alloc (Nat.le_refl _) _
 have y5 : Blk Wy W.heap.size 256 #[.func (.yield l) #[] #[]] := by rw [← hWy]; exact Blk.new _ _ _
 have hsy : Wy.heap.size = W.heap.size + 1 := by rw [← hWy]; simp
 have hRy := hRW.next hn0 hby
 have RC := Lib.hid (recurs_any n A cA es q hF.hq C cC cs ⟨hF.hlen, hF.hz, hcs, hcb⟩ Wy hRy.e hRy.c)
 have CL := Lib.hid (fun (W : World) (h : Reads W W.heap.size 1 C n (ints cs)) => by have := dclone_any C cC cs (by omega) W (by rw [hcs]; exact h); rw [hcs] at this; exact this)
 have HRY := Lib.hid hRy
 have HJ := Lib.hid hJ
 have HY := Lib.hid hY
 have HC := Lib.hid hC
 have HLEN := Lib.hid hcs
 have hJy := hJ _ _ _ _ h0 (Stays.of_new hby)
 have HJy := Lib.hid hJy
 have e1 := hRy.p.cell 0
 have e2 := hRy.p.cell 1
 have e3 := hRy.p.cell 2
 have e4 := hRy.p.cell 3
 have HEN : Hid (enumR (recP n es q) top n 0 cs = if recB n es cs q then [cs] else []) := rfl
 obtain ⟨xs, hxs⟩ : ∃ xs, enumR (recP n es q) top n 0 cs = xs := ⟨_, rfl⟩
 rw [hxs] at HEN HY ⊢
 obtain ⟨b, hb⟩ : ∃ b, recB n es cs q = b := ⟨_, rfl⟩
 rw [hb] at HEN RC
 clear hb hxs hJ hY hC hcs hRy hRW hW hF hL h0 hJx hJy hcb
 refine (callsIn_wide (n := 3)).1 ?_
 refine callsIn_of_wp_marks Tryz.func208 rfl trivial ?_
 simp only [Tryz.ntmps208, List.size_toArray, List.length_cons, List.length_nil, Nat.reduceAdd, Nat.reduceSub, Array.replicate_succ, Array.replicate_zero, List.push_toArray, List.append_toArray, List.nil_append, List.cons_append]
 gi_wp2_with fail
 refine ⟨trivial, ?_⟩
 refine (inW RC.out).mono ?_
 rintro e w1 ⟨rfl, hb1⟩
 have hB1 := hby.trans (hb1.mono (by omega))
 have hR1 := HRY.out.next hn0 hb1
 have J1 := Lib.hid (HJ.out _ _ _ _ HJy.out (Stays.of_new hb1))
 have y1 := y5.next hb1
 have hs1 := hb1.size
 have e5 := y1.cell 0
 have e1 := hR1.p.cell 0
 have e3 := hR1.p.cell 2
 have e4 := hR1.p.cell 3
 have e6 := hR1.v.cell 0
 have HR1 := Lib.hid hR1
 clear hby y5 hWy hR1
 cases b
 ·have HEN2 : Hid (xs = []) := HEN.out
  gi_wp2
  exact ⟨_, results_none rfl _ _ _, ⟨⟨_, rfl⟩, C0, .inl (by rw [HEN2.out]; exact J1.out)⟩⟩
 ·have HEN2 : Hid (xs = [cs]) := HEN.out
  have HPR : Hid ([] ++ [cs] <+: xs) := by rw [HEN2.out]; exact List.prefix_refl _
  have HA2 : Hid (∀ (A' : Option Addr) (c' : Nat), (#[.slice A' n c'] : Array Value) = #[.slice A' cs.length c']) := fun A' c' => by rw [HLEN.out]
  gi_wp2_with fail
  refine wpIn_nopanic ?_
  gi_region_with (first
   | (refine ⟨trivial, ?_⟩; gi_at_call 47; refine (inW (CL.out w1.drew HR1.out.c)).mono ?_; rintro e w2 ⟨A', c', rfl, hown, hbel⟩
      have ho1 : Only (fun _ => False) w1 w2 := ((Only.refl _ w1).drew).trans (Only.of_new hbel)
      have cy : w2.cell? ⟨W.heap.size, 0, none⟩ = some (.func (.yield l) #[] #[]) := (hbel.cell (p := ⟨W.heap.size, 0, none⟩) y1.lt).trans e5
      have hs2 := ho1.size
      have hOw : Hid (∀ k, blockOf A' k → w1.heap.size ≤ k ∧ k < w2.heap.size) := fun k hk => hown.lt k (blockOf_own.2 hk)
      obtain ⟨fn, tmps, assign, body, hy, hR⟩ := HY.out [] cs C0 w2 #[.slice A' n c'] (blockOf A') HPR.out (HJ.out _ _ _ _ J1.out (Stays.of_only ho1 (fun _ _ h => h.elim))) (by omega) (fun k hk => by have := (HC.out k hk).1; omega) (fun k hk => ⟨fun h => by have := (HC.out k h).1; have := (hOw.out k hk).1; omega, (hOw.out k hk).2, by have := (hOw.out k hk).1; omega⟩) ⟨A', c', HA2.out A' c', hown.mono (Nat.zero_le _), fun k hk => hk⟩)
   | (refine (roundIn_wide hR).mono ?_; rintro e w3 ⟨C2, b2, ho2, hg2, rfl, hj2, hx2⟩))
  all_goals (
   refine nopanic_normal ?_
   have EN : Hid (∃ C', J xs C' w3 ∨ ∃ pre, pre <+: xs ∧ Jx pre C' w3) := by
    rw [HEN2.out]
    cases b2
    ·exact ⟨C2, .inr ⟨_, List.prefix_refl _, hx2 rfl⟩⟩
    ·exact ⟨C2, .inl (hj2 rfl)⟩
   clear hj2 hx2 hR hy ho2 hg2
   gi_wp2
   exact ⟨_, results_none rfl _ _ _, ⟨⟨_, rfl⟩, EN.out⟩⟩)
end Go.Proofs.YtnbikkcalcpedaaGreatDoor
namespace Go.Proofs.YtnbikkcalcpedaaGreatDoor
open Go.RowKit
theorem cat_same {es : List E3} {c c' : List Int} {l : List Nat} {v : Nat} (h : v ∉ l → c.getD v 0 = c'.getD v 0) : catL es c l v = catL es c' l v := by
 unfold catL
 by_cases hm : v ∈ l
 ·simp [hm]
 ·rw [h hm]
theorem burnL_same {n q : Nat} {es : List E3} {c c' : List Int} (h : ∀ v, v < n → v ≠ q → c.getD v 0 = c'.getD v 0) : ∀ (k : Nat) (l : List Nat), q ∈ l → burnL es c n k l = burnL es c' n k l
 | 0, _, _ => rfl
 | k + 1, l, hq => by
   have hr : readyL es c n l = readyL es c' n l := List.filter_congr fun v hv => cat_same fun hm => h v (List.mem_range.1 hv) (fun e => hm (e ▸ hq))
   rw [burnL, burnL, hr]
   cases (readyL es c' n l).head? with
   | none => rfl
   | some v => exact burnL_same h k _ (by simp [hq])
theorem burnt_dual (n : Nat) (es : List E3) (cs : List Int) (q : Nat) : burntL es (dulL n es cs q) n q = recL n es cs q :=
 burnL_same (q := q) (fun v hv hvq => by rw [dulL_get es cs q hv, if_neg hvq, dualL_get es cs hv]) n [q] (by simp)
theorem prv_dual {n q : Nat} {es : List E3} (hG : RightG n es) (cs : List Int) : ∀ (r l : List Nat), LOk n (l ++ r) → q ∈ l → prvFrom es cs l r = provFrom es (dulL n es cs q) l r
 | [], _, _, _ => rfl
 | x :: r, l, h, hq => by
   have hxl : x ∉ l := fun hc => by
    have := h.1
    rw [List.nodup_append] at this
    exact this.2.2 x hc x (by simp) rfl
   have hxn : x < n := h.2 x (by simp)
   have hlo : LOk n l := ⟨(List.nodup_append.1 h.1).1, fun v hv => h.2 v (by simp [hv])⟩
   have h1 := cat_dual hG cs hlo hxn
   have h2 : catL es (dulL n es cs q) l x = catL es (dualL n es cs) l x := cat_same fun _ => by
    have hxq : x ≠ q := by rintro rfl; exact hxl hq
    rw [dulL_get es cs q hxn, if_neg hxq, dualL_get es cs hxn]
   have h3 : catchB es cs l x = decide ((dulL n es cs q).getD x 0 < joinsN es x l) := by
    rw [h1] at h2
    unfold catL at h2
    rw [decide_eq_false hxl, Bool.not_false, Bool.true_and, Bool.true_and] at h2
    exact h2.symm
   rw [prvFrom, provFrom, h3, prv_dual (q := q) hG cs r (l ++ [x]) (by simpa using h) (by simp [hq])]
section
variable {n q : Nat} {es : List E3} {cs : List Int}
theorem dul_err (hlen : es.length ≤ 10000) (hz : burnErr n es q cs = 0) (hs : stabTo es cs q n = true) : burnErr n es q (dulL n es cs q) = 0 := by
 obtain ⟨hG, _, _, hq, hl, hb, h0⟩ := conf_zero (burn_zero hz).1
 have hz0 := (burn_zero hz).2
 have hq : q < n := by omega
 have hl : cs.length = n := by omega
 have hst := stabTo_iff.1 hs
 have hget : ∀ v, v < n → 0 ≤ (dulL n es cs q).getD v 0 ∧ (dulL n es cs q).getD v 0 ≤ 1048576 := by
  intro v hv
  rw [dulL_get es cs q hv]
  by_cases hvq : v = q
  ·rw [if_pos hvq]; omega
  ·rw [if_neg hvq]
   have h1 := hst v hv hvq
   have h2 := h0 v (by omega) (by omega)
   have h3 := valE_bd hG.ok v
   omega
 refine burn_zero_of hz (by rw [dulL_length]) (fun x hx => ?_) (fun v => ?_) ?_
 ·obtain ⟨i, hi⟩ := List.getElem?_of_mem hx
  have hin : i < n := by have := (List.getElem?_eq_some_iff.1 hi).1; rw [dulL_length] at this; exact this
  have := hget i hin
  rw [getD_at hi] at this
  omega
 ·by_cases hv : v < n
  ·exact (hget v hv).1
  ·rw [List.getD_eq_getElem?_getD, List.getElem?_eq_none (by rw [dulL_length]; omega)]
   simp
 ·rw [Int.toNat_natCast, dulL_get es cs q hq, if_pos rfl]
theorem dul_stab (hz : burnErr n es q cs = 0) : stabTo es (dulL n es cs q) q n = true := by
 obtain ⟨_, _, _, _, _, _, h0⟩ := conf_zero (burn_zero hz).1
 rw [stabTo_iff]
 intro v hv hvq
 rw [dulL_get es cs q hv, if_neg hvq]
 have := h0 v (by omega) (by omega)
 omega
theorem dul_dul (hz : burnErr n es q cs = 0) : dulL n es (dulL n es cs q) q = cs := by
 obtain ⟨_, _, _, _, hl, _, _⟩ := conf_zero (burn_zero hz).1
 have hz0 := (burn_zero hz).2
 rw [Int.toNat_natCast] at hz0
 have hl : cs.length = n := by omega
 apply List.ext_getElem?
 intro i
 by_cases hi : i < n
 ·have h1 : ∀ {l : List Int}, l.length = n → l[i]? = some (l.getD i 0) := fun {l} h => by
   rw [List.getD_eq_getElem?_getD, List.getElem?_eq_getElem (by omega)]; rfl
  rw [h1 (dulL_length n es _ q), h1 hl, dulL_get es _ q hi]
  by_cases h : i = q
  ·rw [if_pos h, h, hz0]
  ·rw [if_neg h, dulL_get es cs q hi, if_neg h]
   congr 1
   omega
 ·rw [List.getElem?_eq_none (by rw [dulL_length]; omega), List.getElem?_eq_none (by omega)]
theorem dual_plain (hlen : es.length ≤ 10000) (hz : burnErr n es q cs = 0) (hs : stabTo es cs q n = true) :
  burnErr n es q (dulL n es cs q) = 0 ∧ stabTo es (dulL n es cs q) q n = true ∧ dulL n es (dulL n es cs q) q = cs ∧
  decide (restL n (burntL es (dulL n es cs q) n q) = []) = recB n es cs q ∧ recB n es cs q = decide (worstL n es cs q = []) ∧
  (recB n es cs q = true → verErr n es q cs (natsI (recL n es cs q)) = 0 ∧ rverB n es q cs (natsI (recL n es cs q)) = true ∧
   verErr n es q (dulL n es cs q) (natsI (recL n es cs q)) = 0 ∧ verB n es q (dulL n es cs q) (natsI (recL n es cs q)) = true) := by
 have hd := dul_err hlen hz hs
 obtain ⟨hG, _, _, hq, hl, hb, h0⟩ := conf_zero (burn_zero hz).1
 have hq : q < n := by omega
 have hrb : recB n es cs q = decide (worstL n es cs q = []) := by
  unfold recB
  rw [hs, Bool.true_and, decide_eq_decide]
  exact full_iff hq
 refine ⟨hd, dul_stab hz, dul_dul hz, by rw [burnt_dual, hrb]; rfl, hrb, fun hr => ?_⟩
 have hw : worstL n es cs q = [] := by rw [hrb] at hr; exact of_decide_eq_true hr
 have hfull := (full_iff hq).2 hw
 have hlo := recL_ok (n := n) (q := q) (es := es) (cs := cs) hq
 obtain ⟨r, hbr, hpr⟩ := burn_proves (es := es) (cs := dulL n es cs q) (n := n) ⟨by simp, by simp⟩ n [q]
 have hbr : recL n es cs q = [q] ++ r := (burnt_dual n es cs q).symm.trans hbr
 rw [hbr] at hlo hfull
 rw [hbr]
 obtain ⟨v1, v2⟩ := ver_true hd hlo hfull hpr
 have v3 : verErr n es q cs (natsI ([q] ++ r)) = 0 := by unfold verErr; rw [if_neg (by omega)]; exact ren_zero hlo hfull
 refine ⟨v3, ?_, v1, v2⟩
 unfold rverB
 rw [if_pos v3, nats_toNat, natsI_getD]
 unfold prvL
 have := prv_dual (q := q) hG cs r [q] hlo (by simp)
 simp [this, hpr, hs]
end
end Go.Proofs.YtnbikkcalcpedaaGreatDoor
namespace Go.Proofs.YtnbikkcalcpedaaGreatDoor
open Go.RowKit
def incP (v : Nat) (l : List Nat) (p : Nat × Nat) : Bool := decide (p.1 = v ∨ p.2 = v) && decide (oth p v ∈ l)
theorem degTo_filter (E : List (Nat × Nat)) (v : Nat) (l : List Nat) : degTo E v l = (E.filter (incP v l)).length := by
 have h1 : (List.range E.length).map (fun e => E.getD e (0, 0)) = E := by
  apply List.ext_getElem?
  intro i
  by_cases hi : i < E.length
  ·simp [hi]
  ·simp [hi]
 conv => rhs; rw [← h1, List.filter_map, List.length_map]
 unfold degTo
 rfl
theorem deg_one {n : Int} {e : E3} (h : okE n e) (v : Nat) {l : List Nat} (hv : v ∉ l) : (((List.replicate e.2.2.toNat (e.1.toNat, e.2.1.toNat)).filter (incP v l)).length : Int) = jnT l v e := by
 obtain ⟨a, b, k⟩ := e
 unfold okE at h
 dsimp only at h
 have hf : ∀ (k : Nat) (p : Nat × Nat), ((List.replicate k p).filter (incP v l)).length = if incP v l p = true then k else 0 := by
  intro k p
  induction k with
  | zero => simp
  | succ k ih =>
    rw [List.replicate_succ, List.filter_cons]
    by_cases hp : incP v l p = true
    ·rw [if_pos hp] at ih ⊢
     rw [if_pos hp, List.length_cons, ih]
    ·rw [if_neg hp] at ih ⊢
     rw [if_neg hp, ih]
 rw [hf]
 obtain ⟨a, rfl⟩ := Int.eq_ofNat_of_zero_le h.1
 obtain ⟨b, rfl⟩ := Int.eq_ofNat_of_zero_le (show 0 ≤ b by omega)
 unfold jnT incP oth
 dsimp only
 simp only [Int.toNat_natCast]
 by_cases ha : a = v
 ·subst ha
  by_cases hb : b = a
  ·subst hb; simp [hv]
  ·have hb' : ¬ ((a : Int) = (b : Int)) := by omega
   by_cases hm : b ∈ l
   ·simp [hm, hb']; omega
   ·simp [hm, hb']; omega
 ·by_cases hb : b = v
  ·subst hb
   have hb' : ¬ ((a : Int) = (b : Int)) := by omega
   by_cases hm : a ∈ l
   ·simp [hm, ha, hb']; omega
   ·simp [hm, ha, hb']
  ·have h1 : ¬ ((a : Int) = (v : Int)) := by omega
   have h2 : ¬ ((b : Int) = (v : Int)) := by omega
   simp [ha, hb, h1, h2]
theorem deg_jn {n : Int} {es : List E3} (h : ∀ e ∈ es, okE n e) (v : Nat) {l : List Nat} (hv : v ∉ l) : (degTo (endsL es) v l : Int) = jnE es l v := by
 rw [degTo_filter]
 induction es with
 | nil => rfl
 | cons e es ih =>
   have e1 : endsL (e :: es) = List.replicate e.2.2.toNat (e.1.toNat, e.2.1.toNat) ++ endsL es := rfl
   have e2 : jnE (e :: es) l v = jnT l v e + jnE es l v := by unfold jnE; rw [List.map_cons, List.sum_cons]
   rw [e1, List.filter_append, List.length_append, e2, ← ih (fun x hx => h x (by simp [hx])), ← deg_one (h e (by simp)) v hv]
   omega
theorem deg_joins {n : Nat} {es : List E3} (hG : RightG n es) {v : Nat} {l : List Nat} (hl : LOk n l) (hv : v ∉ l) : (degTo (endsL es) v l : Int) = joinsN es v l := by
 rw [deg_jn hG.ok v hv, jnE_flm hG, flm_joins l hl hv]
theorem fburns_iff {n q : Nat} {es : List E3} (hG : RightG n es) (hq : q < n) (cs : List Int) : restL n (burntL es cs n q) = [] ↔ BurnsAll (endsL es) n q cs := by
 have he : ∀ a b, 0 ≤ btw es a b := fun a b => (btw_bd hG.ok a b).1
 have hl0 : LOk n [q] := ⟨by simp, by simpa using hq⟩
 constructor
 ·intro hr O hqO hnd hlt hcl v hv
  have h1 := burns_same (es := es) (c := cs) (n := n) (l := [q]) (l' := O) (by simpa using hqO) (fun u hu => by
   unfold catL
   by_cases hm : u ∈ O
   ·simp [hm]
   ·have := hcl u hu hm
    rw [deg_joins hG ⟨hnd, hlt⟩ hm] at this
    have h2 : ¬ cs.getD u 0 < joinsN es u O := by omega
    rw [decide_eq_false h2]; simp) ⟨hnd, hlt⟩ he n hl0
  refine h1 v (Classical.byContradiction fun hm => ?_)
  have : v ∈ restL n (burntL es cs n q) := mem_rest.2 ⟨hv, hm⟩
  rw [hr] at this; simp at this
 ·intro h
  have hok : LOk n (burntL es cs n q) := burnL_ok n [q] hl0
  rw [List.eq_nil_iff_forall_not_mem]
  intro v hv
  obtain ⟨h1, h2⟩ := mem_rest.1 hv
  refine h2 (h (burntL es cs n q) ((burnL_pre n [q]).subset (by simp)) hok.1 hok.2 (fun u hu hm => ?_) v h1)
  have h3 := burnL_done (es := es) (c := cs) (n := n) (k := n) (l := [q]) hl0 (by simp) u hu
  rw [deg_joins hG hok hm]
  change catL es cs (burntL es cs n q) u = false at h3
  refine Classical.byContradiction fun h4 => ?_
  rw [catL_true.2 ⟨hm, by omega⟩] at h3; cases h3
theorem cfg_iff {n q : Nat} {es : List E3} {cs : List Int} : cfgErr n es q cs = 0 ↔ burnErr n es q cs = 0 ∧ BurnsAll (endsL es) n q cs := by
 constructor
 ·intro h
  obtain ⟨h1, h2, _⟩ := cfg_zero h
  obtain ⟨hG, _, _, hq, _⟩ := conf_zero (burn_zero h1).1
  exact ⟨h1, (fburns_iff hG (by omega) cs).1 h2⟩
 ·rintro ⟨h1, h2⟩
  obtain ⟨hG, _, _, hq, _⟩ := conf_zero (burn_zero h1).1
  have h3 := (fburns_iff hG (by omega) cs).2 h2
  unfold cfgErr superE
  rw [if_pos h1]
  simp [h3]
theorem jnE_mono {n : Int} {es : List E3} (h : ∀ e ∈ es, okE n e) {l m : List Nat} (hs : ∀ u ∈ l, u ∈ m) (v : Int) : jnE es l v ≤ jnE es m v := by
 induction es with
 | nil => exact Int.le_refl _
 | cons e es ih =>
   have e2 : ∀ l, jnE (e :: es) l v = jnT l v e + jnE es l v := fun l => by unfold jnE; rw [List.map_cons, List.sum_cons]
   rw [e2, e2]
   have h1 := ih fun x hx => h x (by simp [hx])
   have h2 : jnT l v e ≤ jnT m v e := by
    have hb := (jnT_bd (h e (by simp)) m v).1
    unfold jnT at hb ⊢
    by_cases hc : e.1 ≠ e.2.1 ∧ ((e.1 = v ∧ e.2.1.toNat ∈ l) ∨ (e.2.1 = v ∧ e.1.toNat ∈ l))
    ·rw [if_pos hc, if_pos ⟨hc.1, hc.2.imp (fun x => ⟨x.1, hs _ x.2⟩) (fun x => ⟨x.1, hs _ x.2⟩)⟩]
     exact Int.le_refl _
    ·rw [if_neg hc]; exact hb
   omega
theorem burns_stab {n q : Nat} {es : List E3} (hG : RightG n es) (hq : q < n) {cs : List Int} (h : BurnsAll (endsL es) n q cs) : stabTo es cs q n = true := by
 unfold stabTo
 rw [List.all_eq_true]
 intro v hv
 have hv := List.mem_range.1 hv
 rw [Bool.or_eq_true, decide_eq_true_eq, decide_eq_true_eq]
 by_cases hvq : v = q
 ·exact .inl hvq
 ·right
  refine Classical.byContradiction fun hc => ?_
  have hO : v ∉ (List.range n).filter fun u => !decide (u = v) := by simp
  refine hO (h _ (List.mem_filter.2 ⟨List.mem_range.2 hq, by simp; omega⟩) (List.nodup_range.sublist List.filter_sublist) (fun u hu => List.mem_range.1 (List.mem_filter.1 hu).1) (fun u hu hm => ?_) v hv)
  have : u = v := Classical.byContradiction fun hne => hm (List.mem_filter.2 ⟨List.mem_range.2 hu, by simp [hne]⟩)
  subst this
  rw [deg_jn hG.ok u hO]
  have h1 := jnE_mono hG.ok (l := (List.range n).filter fun x => !decide (x = u)) (m := List.range n) (fun x hx => (List.mem_filter.1 hx).1) (u : Int)
  rw [← valE_jn hG.ok] at h1
  omega
theorem root_of {n q : Nat} {es : List E3} (hj : joinErr n es = 0) (hq : q < n) : rootErr n es q = 0 := by
 obtain ⟨h1, _, h2⟩ := join_zero hj
 rcases root_cases n es q with ⟨a, _⟩ | ⟨_, a, _⟩ | ⟨_, _, a, _⟩ | ⟨_, _, _, a⟩
 ·exact absurd h1 a
 ·rw [a] at h2; cases h2
 ·unfold vertB at a; simp at a; omega
 ·exact a
theorem le_sum_of {l : List Int} (h : ∀ x ∈ l, 0 ≤ x) : ∀ x ∈ l, x ≤ l.sum := by
 induction l with
 | nil => simp
 | cons a l ih =>
   have h1 : 0 ≤ l.sum := by
    clear ih
    have : ∀ l : List Int, (∀ x ∈ l, 0 ≤ x) → 0 ≤ l.sum := by
     intro l
     induction l with
     | nil => intro _; exact Int.le_refl _
     | cons a l ih => intro h; rw [List.sum_cons]; have := h a (by simp); have := ih fun x hx => h x (by simp [hx]); omega
    exact this l fun x hx => h x (by simp [hx])
   intro x hx
   rw [List.sum_cons]
   have ha := h a (by simp)
   rcases List.mem_cons.1 hx with rfl | hx
   ·omega
   ·have := ih (fun x hx => h x (by simp [hx])) x hx; omega
theorem getD_mem {l : List Int} (h : ∀ v, 0 ≤ l.getD v 0) : ∀ x ∈ l, 0 ≤ x := by
 intro x hx
 obtain ⟨i, hi, rfl⟩ := List.mem_iff_getElem.1 hx
 have := h i
 rw [List.getD_eq_getElem?_getD, List.getElem?_eq_getElem hi] at this
 exact this
theorem conf_right {m p : Nat} {es : List E3} {t : List Nat} (hj : joinErr m es = 0) (hG : RightG m es) (hp : p < m) (hm : (endsL es).length ≤ 1000) : burnErr m es p (confN (endsL es) m p t) = 0 := by
 obtain ⟨h1, h2, h3, h4⟩ := conf_facts (t := t) (bd_ends hG) hp
 have h5 := getD_mem h2
 have h6 := le_sum_of h5
 have hc := conf_of (root_of hj hp) h1 (fun x hx => by have := h5 x hx; omega) (fun x hx => by have := h6 x hx; omega) (fun v _ _ => h2 v)
 unfold burnErr
 rw [if_neg (fun h => h hc), Int.toNat_natCast, if_neg (fun h => h h3)]
theorem conf_cfg {m p : Nat} {es : List E3} {t : List Nat} (hj : joinErr m es = 0) (hR : TreeR m es t) (hp : p < m) (hm : (endsL es).length ≤ 1000) : cfgErr m es p (confN (endsL es) m p t) = 0 ∧ stabTo es (confN (endsL es) m p t) p m = true := by
 have hb := conf_burns (bd_ends hR.hG) hp hR.tr
 exact ⟨cfg_iff.2 ⟨conf_right hj hR.hG hp hm, hb⟩, burns_stab hR.hG hp hb⟩
end Go.Proofs.YtnbikkcalcpedaaGreatDoor
