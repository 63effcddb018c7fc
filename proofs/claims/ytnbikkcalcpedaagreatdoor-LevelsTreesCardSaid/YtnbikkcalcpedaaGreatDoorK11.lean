/-
 Texts of this claim, put together: RSort.
-/
import Derived.Test.YtnbikkcalcpedaaGreatDoorK02
import Derived.Deep.QuietTactic
import Derived.BigQuiet
import Derived.Deep.RegionLaw
import Derived.Deep.CutRange
import Derived.Test.YtnbikkcalcpedaaGreatDoorK08
import Derived.Deep.RegionHeld3
set_option maxRecDepth 100000
set_option maxHeartbeats 4000000
namespace Go.Proofs.YtnbikkcalcpedaaGreatDoor
open Go.RowKit
theorem sortG_take {xs : List Int} {k : Nat} {x : Int} (h : xs[k]? = some x) : sortG ltI (xs.take (k + 1)) = insS ltI (sortG ltI (xs.take k)) x := by
 unfold sortG; rw [take_snoc h, List.foldl_append]; rfl
theorem insK_step {x : Int} {L : List Int} {j : Nat} {y : Int} (h : L[j]? = some y) : insK ltI x L (j + 1) = if x < y then insK ltI x L j else j + 1 := by
 rw [insK, h]
 simp only [ltI]
 by_cases hxy : x < y
 ·simp [hxy]
 ·simp [hxy]
theorem Reads.takeI {w : World} {B : Nat} {A : Option Addr} {xs : List Int} {n : Nat} (h : Reads w B 1 A n (ints xs)) (p : Nat) (hp : p ≤ n) : Reads w B 1 A p (ints (xs.take p)) := by
 have hl : xs.length = n := by have := h.1; simpa [ints] using this
 refine ⟨by simp [ints]; omega, fun hp0 => ?_⟩
 obtain ⟨b, off, hA, hb, hc⟩ := h.2 (by omega)
 refine ⟨b, off, hA, hb, fun j v hv => hc j v ?_⟩
 have hj := (List.getElem?_eq_some_iff.1 hv).1
 simp [ints] at hj
 rw [← hv]; simp only [ints, List.getElem?_map, List.getElem?_take]; rw [if_pos (by omega)]
theorem Reads.dropI {w : World} {B b off : Nat} {xs : List Int} {n : Nat} (h : Reads w B 1 (some ⟨b, off, none⟩) n (ints xs)) (p : Nat) (hp : p < n) : Reads w B 1 (some ⟨b, off + p, none⟩) (n - p) (ints (xs.drop p)) := by
 have hl : xs.length = n := by have := h.1; simpa [ints] using this
 refine ⟨by simp [ints]; omega, fun _ => ?_⟩
 obtain ⟨b', off', hA, hb, hc⟩ := h.2 (by omega)
 injection hA with hA; injection hA with e1 e2; subst e1 e2
 refine ⟨b, off + p, rfl, hb, fun j v hv => ?_⟩
 rw [show off + p + j = off + (p + j) from by omega]
 exact hc (p + j) v (by rw [← hv]; simp [ints])
theorem Blk.newAtS {w : World} {g : Nat} {t : TypeId} {cs : Array Value} (hg : g = w.heap.size) : Blk (w.alloc (.cells cs t)) g t cs := hg ▸ Blk.new w t cs
theorem Reads.box1 (w : World) (u : Value) (e : TypeId) : Reads (w.alloc (.cells #[u] e)) (w.heap.size + 1) 1 (some ⟨w.heap.size, 0, none⟩) 1 [u] := Reads.box w u e
theorem Reads.of_blk1 {w : World} {g : Nat} {u : Value} {e : TypeId} (h : Blk w g e #[u]) : Reads w w.heap.size 1 (some ⟨g, 0, none⟩) 1 [u] :=
 ⟨rfl, fun _ => ⟨g, 0, rfl, h.lt, fun j v hv => by
  have hj : j = 0 := by
   rcases Nat.eq_zero_or_pos j with h | h
   ·exact h
   ·rw [List.getElem?_eq_none (by simp; omega)] at hv; cases hv
  subst hj
  have : u = v := by simpa using hv
  subst this
  exact h.cell 0⟩⟩
theorem own_join {w : World} {B base n c q : Nat} {A : Option Addr} {L : List Int} {x : Int} (h : w.ownsRow B 3 1 (.slice A n c) n (ints (L.take q) ++ [.int .i64 x] ++ ints (L.drop q))) (hn : (L.take q ++ x :: L.drop q).length = n) (hb : base ≤ B) : OwnI w base A c (L.take q ++ x :: L.drop q) := by
 have h2 : OwnI w B A c (L.take q ++ x :: L.drop q) := by
  unfold OwnI
  rw [hn, show ints (L.take q ++ x :: L.drop q) = ints (L.take q) ++ [.int .i64 x] ++ ints (L.drop q) from by simp [ints]]
  exact h
 exact h2.mono hb
theorem Reads.dropI2 {w : World} {B b off : Nat} {xs : List Int} {n : Nat} (h : Reads w B 1 (some ⟨b, off, none⟩) n (ints xs)) (p : Nat) (hp : p ≤ n) : Reads w B 1 (some ⟨b, off + p, none⟩) (n - p) (ints (xs.drop p)) := by
 rcases Nat.lt_or_ge p n with h1 | h1
 ·exact h.dropI p h1
 ·have hl : xs.length = n := by have := h.1; simpa [ints] using this
  exact ⟨by simp [ints]; omega, fun h2 => by omega⟩
theorem rsorted_any (A : Option Addr) (c : Nat) (xs : List Int) (hn : xs.length ≤ 1000) (w : World) (h : Reads w w.heap.size 1 A xs.length (ints xs)) :
  Calls Tryz.prog 262 #[.slice A xs.length c] w fun en w' => ∃ A' c', en = .returned (.slice A' xs.length c') ∧ OwnI w' w.heap.size A' c' (sortG ltI xs) ∧ Below w.heap.size w w' := by
 have hA0 : Hid (OwnI w w.heap.size none 0 (sortG ltI (xs.take 0))) := OwnI.nil_ _ _
 have HLN : Hid (∀ k, k ≤ xs.length → (sortG ltI (xs.take k)).length = k) := fun k hk => by rw [sortG_length, List.length_take]; omega
 go_enter Tryz.func262, Tryz.ntmps262
 go_wp2_with fail
 go_loopw [3, 4, 5, 6] (fun o i _ _ wr => ∃ (k : Nat) (Ao : Option Addr) (co : Nat), k ≤ xs.length ∧ i = .int .i64 k ∧ o = .slice Ao k co ∧ Hid (OwnI wr w.heap.size Ao co (sortG ltI (xs.take k))) ∧ Hid (Below w.heap.size w wr) ∧ Hid (k = 0 → Ao = none ∧ co = 0)) (fun _ i _ _ _ => xs.length - (intOf i).toNat)
 case atStart => exact ⟨0, none, 0, by omega, rfl, rfl, hA0, Below.refl _ _, fun _ => ⟨rfl, rfl⟩⟩
 case round =>
  obtain ⟨k, Ao, co, hk, rfl, rfl, HO, HW, HKN⟩ := hrel
  have hwz := HW.out.size
  by_cases hlt : k < xs.length
  ·obtain ⟨x, hx⟩ := get_of_lt hlt
   have hi : (k : Int) < (xs.length : Int) := by omega
   have hst := sortG_take hx
   have hll := HLN.out k hk
   obtain ⟨L, hL⟩ : ∃ L, sortG ltI (xs.take k) = L := ⟨_, rfl⟩
   rw [hL] at HO hst hll
   have HST := Lib.hid hst
   have HLL := Lib.hid hll
   have hkle : Hid (insK ltI x L k ≤ k) := insK_le k
   obtain ⟨bX, oX, hXA, hbX, hcX⟩ := (h.below HW.out).at_ (ints_at hx)
   subst hXA
   obtain ⟨wo, rfl⟩ : ∃ wo : World, wo = wr := ⟨_, rfl⟩
   clear hx hst hll hL
   go_wp2_with fail
   go_loopw [5] (fun j wl => ∃ q : Nat, q ≤ k ∧ j = .int .i64 q ∧ Hid (insK ltI x L k = insK ltI x L q) ∧ Hid (∃ nq, wl = wo.drewN nq)) (fun j _ => (intOf j).toNat)
   case atStart => exact ⟨k, by omega, rfl, rfl, 0, rfl⟩
   case round =>
    obtain ⟨q, hq, rfl, HQ, HD⟩ := hrel
    obtain ⟨n0, hnq⟩ := HD.out
    subst hnq
    by_cases hgo : ∃ p y, q = p + 1 ∧ L[p]? = some y ∧ x < y
    ·obtain ⟨p, y, rfl, hy, hxy⟩ := hgo
     have hstep : insK ltI x L (p + 1) = insK ltI x L p := by rw [insK_step hy, if_pos hxy]
     have HQ' : Hid (insK ltI x L k = insK ltI x L p) := by rw [Hid, HQ.out, hstep]
     obtain ⟨bL, oL, hLA, hbL, hcL⟩ := HO.out.reads.at_ (ints_at hy)
     subst hLA
     have hq0 : (0 : Int) < ((p + 1 : Nat) : Int) := by omega
     have hq1 : IntKind.i64.wrap (((p + 1 : Nat) : Int) - 1) = (p : Int) := by rw [IntWalk.i64_in _ (by omega)]; omega
     have hpk : (p : Int) < (k : Int) := by omega
     have hd : decide (x < y) = true := decide_eq_true hxy
     clear hstep hy HQ hxy
     go_wp2_with fail
     go_quiet (fail)
     go_wp2
     go_roundw
     case rel => exact ⟨p, by omega, rfl, HQ', ⟨_, rfl⟩⟩
     case measure => simp [intOf]
    ·have HK : Hid (insK ltI x L k = q) := by
      rw [Hid, HQ.out]
      cases q with
      | zero => rfl
      | succ p =>
        obtain ⟨y, hy⟩ := get_of_lt (xs := L) (k := p) (by have := HLL.out; omega)
        rw [insK_step hy, if_neg (fun hxy => hgo ⟨p, y, rfl, hy, hxy⟩)]
     have hcase : q = 0 ∨ ∃ p y, q = p + 1 ∧ L[p]? = some y ∧ ¬ x < y := by
      cases q with
      | zero => exact .inl rfl
      | succ p =>
        obtain ⟨y, hy⟩ := get_of_lt (xs := L) (k := p) (by have := HLL.out; omega)
        exact .inr ⟨p, y, rfl, hy, fun hxy => hgo ⟨p, y, rfl, hy, hxy⟩⟩
     have HC := Lib.hid hcase
     clear hgo hcase HQ
     rcases HC.out with hq0 | ⟨p, y, hqp, hy, hxy⟩
     ·have hd : decide ((0 : Int) < (q : Int)) = false := decide_eq_false (by omega)
      have hd2 : decide (0 < q) = false := decide_eq_false (by omega)
      clear hq0
      go_wp2_with fail
      go_quiet (fail)
      clear hd hd2
      go_wp2_with fail
      obtain ⟨Wq, hWq⟩ : ∃ W, (wo.drewN n0).drewN nq = W := ⟨_, rfl⟩
      have OQ : OwnI Wq w.heap.size Ao co L := by rw [← hWq]; exact HO.out
      have BQ : Below w.heap.size w Wq := by rw [← hWq]; exact ⟨HW.out.os, HW.out.tape, HW.out.output, HW.out.size, HW.out.block⟩
      have kx0 : Wq.cell? ⟨bX, oX + k, none⟩ = some (.int .i64 x) := by rw [← hWq]; exact hcX
      rw [hWq]
      clear hWq hcX
      have hzq := BQ.size
      have hLk := HLL.out
      have hq00 : (0 : Int) ≤ (q : Int) := by omega
      have hk00 : (0 : Int) ≤ (k : Int) := by omega
      have hqi : (q : Int) ≤ (k : Int) := by omega
      have hbXs : bX < Wq.heap.size := by omega
      have HS : Hid (sortG ltI (xs.take (k + 1)) = L.take q ++ x :: L.drop q) := by rw [Hid, HST.out]; unfold insS; rw [hLk, HK.out]
      have own1 : (Wq.alloc (.cells #[] 3)).ownsRow Wq.heap.size 3 1 (.slice (some ⟨Wq.heap.size, 0, none⟩) 0 0) 0 [] := OwnI.of_blk (l := []) (Blk.new Wq 3 (intCells [])) (Nat.le_refl _) (by decide)
      have own2 := World.ownsRow.alloc own1 (.cells #[.int .i64 x] 3)
      have own3 : ((Wq.alloc (.cells #[.int .i64 x] 3)).alloc (.cells #[] 3)).ownsRow Wq.heap.size 3 1 (.slice (some ⟨Wq.heap.size + 1, 0, none⟩) 0 0) 0 [] := OwnI.of_blk (l := []) (Blk.newAtS (cs := intCells []) (by simp)) (by omega) (by decide)
      have BX1 := (Below.refl Wq.heap.size Wq).alloc (Nat.le_refl _) (.cells #[] 3)
      have BX2 := ((Below.refl Wq.heap.size Wq).alloc (Nat.le_refl _) (.cells #[] 3)).alloc (by simp) (.cells #[.int .i64 x] 3)
      have BX3 := ((Below.refl Wq.heap.size Wq).alloc (Nat.le_refl _) (.cells #[.int .i64 x] 3)).alloc (by simp) (.cells #[] 3)
      have kx1 := (BX1.cell (p := ⟨bX, oX + k, none⟩) (by show bX < _; omega)).trans kx0
      have kx2 := (BX2.cell (p := ⟨bX, oX + k, none⟩) (by show bX < _; omega)).trans kx0
      have kx3 := (BX3.cell (p := ⟨bX, oX + k, none⟩) (by show bX < _; omega)).trans kx0
      have bx2 : Blk ((Wq.alloc (.cells #[] 3)).alloc (.cells #[.int .i64 x] 3)) (Wq.heap.size + 1) 3 #[.int .i64 x] := Blk.newAtS (by simp)
      have bx3 : Blk ((Wq.alloc (.cells #[.int .i64 x] 3)).alloc (.cells #[] 3)) Wq.heap.size 3 #[.int .i64 x] := (Blk.new Wq 3 #[.int .i64 x]).alloc _
      have hlen9 : q + 1 + (k - q) = k + 1 := by omega
      have OQ2 := OQ
      obtain ⟨_, OQ2⟩ := OQ2
      rcases OQ2 with ⟨hv, h0⟩ | ⟨g, cap, cur, hv, hg, hbl, hnc, hcap, _⟩
      ·obtain ⟨rfl, _, rfl⟩ : Ao = none ∧ L.length = 0 ∧ co = 0 := by simpa using hv
       obtain rfl : q = 0 := by omega
       have rL : Reads Wq Wq.heap.size 1 none k (ints L) := by have := OQ.reads; rw [hLk] at this; exact this
       have hlen9 : 1 + k = k + 1 := by omega
       have rT := rL.takeI 0 (by omega)
       have rT1 := rT.below BX1
       have rT2 := rT.below BX2
       have rT3 := rT.below BX3
       have rD : Reads Wq Wq.heap.size 1 none k (ints (L.drop 0)) := rL
       clear hLk
       go_cut [6] from 31 to 41 (fun s wx => ∃ A5 c5, s = .slice A5 1 c5 ∧ Hid (wx.ownsRow Wq.heap.size 3 1 (.slice A5 1 c5) 1 (ints (L.take 0) ++ [.int .i64 x])) ∧ Hid (Below Wq.heap.size Wq wx))
       case first =>
        go_region_held3 (fun W => W.cell? ⟨bX, oX + k, none⟩ = some (.int .i64 x)) (go_keep) (first
         | (refine append_step2 rfl (.tmp 31) (.tmp 34) _ _ rfl Wq.heap.size 3 3 Tryz.underlying25 Tryz.underlying25 info_int rfl (by omega) (some ⟨Wq.heap.size, 0, none⟩) 0 0 [] rfl ?_ Wq.heap.size (ints (L.take 0)) rfl ?_ ints_one (by omega) ?_ ?_
            ·exact own1
            ·exact rT1
            ·first | (simp; done) | (simp; omega)
            intro A4 c4 w4 hown4 hg4 hb4 _; try rw [Nat.zero_add] at hown4 ⊢; rw [List.nil_append] at hown4; have k4 := (hb4.cell (p := ⟨bX, oX + k, none⟩) (by show bX < _; omega)).trans kx1; have hz4 : Wq.heap.size ≤ w4.heap.size := Nat.le_trans (by first | (simp; done) | (simp; omega)) hb4.size; have HB4 : Hid (Below Wq.heap.size Wq w4) := BX1.trans ⟨hb4.os, hb4.tape, hb4.output, hb4.size, hb4.block⟩)
         | (refine append_step2 rfl (.tmp 31) (.tmp 34) _ _ rfl Wq.heap.size 3 3 Tryz.underlying25 Tryz.underlying25 info_int rfl (by omega) (some ⟨Wq.heap.size, 0, none⟩) 0 0 [] rfl ?_ Wq.heap.size (ints (L.take 0)) rfl ?_ ints_one (by omega) ?_ ?_
            ·exact own2
            ·exact rT2
            ·first | (simp; done) | (simp; omega)
            intro A4 c4 w4 hown4 hg4 hb4 _; try rw [Nat.zero_add] at hown4 ⊢; rw [List.nil_append] at hown4; have k4 := (hb4.cell (p := ⟨bX, oX + k, none⟩) (by show bX < _; omega)).trans kx2; have hz4 : Wq.heap.size ≤ w4.heap.size := Nat.le_trans (by first | (simp; done) | (simp; omega)) hb4.size; have HB4 : Hid (Below Wq.heap.size Wq w4) := BX2.trans ⟨hb4.os, hb4.tape, hb4.output, hb4.size, hb4.block⟩; have rb4 := Reads.of_blk1 (w := w4) (g := (Wq.heap.size + 1)) (u := .int .i64 x) (e := 3) ((hg4.block (Wq.heap.size + 1) bx2.lt (by simp [Value.ownBlock])).trans bx2))
         | (refine append_step2 rfl (.tmp 31) (.tmp 34) _ _ rfl Wq.heap.size 3 3 Tryz.underlying25 Tryz.underlying25 info_int rfl (by omega) (some ⟨Wq.heap.size + 1, 0, none⟩) 0 0 [] rfl ?_ Wq.heap.size (ints (L.take 0)) rfl ?_ ints_one (by omega) ?_ ?_
            ·exact own3
            ·exact rT3
            ·first | (simp; done) | (simp; omega)
            intro A4 c4 w4 hown4 hg4 hb4 _; try rw [Nat.zero_add] at hown4 ⊢; rw [List.nil_append] at hown4; have k4 := (hb4.cell (p := ⟨bX, oX + k, none⟩) (by show bX < _; omega)).trans kx3; have hz4 : Wq.heap.size ≤ w4.heap.size := Nat.le_trans (by first | (simp; done) | (simp; omega)) hb4.size; have HB4 : Hid (Below Wq.heap.size Wq w4) := BX3.trans ⟨hb4.os, hb4.tape, hb4.output, hb4.size, hb4.block⟩; have rb4 := Reads.of_blk1 (w := w4) (g := Wq.heap.size) (u := .int .i64 x) (e := 3) ((hg4.block Wq.heap.size bx3.lt (by simp [Value.ownBlock])).trans bx3))
         | (refine append_step2 rfl (.tmp 35) (.tmp 40) _ _ rfl Wq.heap.size 3 3 Tryz.underlying25 Tryz.underlying25 info_int rfl (by omega) A4 c4 0 (ints (L.take 0)) rfl ?_ w4.heap.size [.int .i64 x] rfl ?_ (by simp [Value.oneCell']) (by omega) ?_ ?_
            ·exact hown4
            ·exact rb4
            ·exact hz4
            intro A5 c5 w5 hown5 hg5 hb5 _; have k5 := (hb5.cell (p := ⟨bX, oX + k, none⟩) (by show bX < _; omega)).trans k4; have HB5 : Hid (Below Wq.heap.size Wq w5) := HB4.out.trans ⟨hb5.os, hb5.tape, hb5.output, hb5.size, hb5.block⟩)
         | (refine append_step2 rfl (.tmp 35) (.tmp 40) _ _ rfl Wq.heap.size 3 3 Tryz.underlying25 Tryz.underlying25 info_int rfl (by omega) A4 c4 0 (ints (L.take 0)) rfl ?_ (w4.heap.size + 1) [.int .i64 x] rfl ?_ (by simp [Value.oneCell']) (by omega) ?_ ?_
            ·exact World.ownsRow.alloc hown4 _
            ·exact Reads.box1 w4 _ _
            ·exact Nat.le_trans hz4 (by simp)
            intro A5 c5 w5 hown5 hg5 hb5 _; have k5 := (hb5.cell (p := ⟨bX, oX + k, none⟩) (by show bX < _; omega)).trans ((((Below.refl w4.heap.size w4).alloc (Nat.le_refl _) (.cells #[.int .i64 x] 3)).cell (p := ⟨bX, oX + k, none⟩) (by show bX < _; omega)).trans k4); have HB5 : Hid (Below Wq.heap.size Wq w5) := (HB4.out.alloc hz4 (.cells #[.int .i64 x] 3)).trans ⟨hb5.os, hb5.tape, hb5.output, hb5.size, hb5.block⟩)
         | fail)
        all_goals
         go_wp2
         go_meet
         exact ⟨A5, c5, rfl, hown5, HB5⟩
       case rest =>
        obtain ⟨A5, c5, rfl, HO5, HB5⟩ := hcut
        clear own1 own2 own3 BX1 BX2 BX3 kx0 kx1 kx2 kx3 bx2 bx3 rT1 rT2 rT3
        go_wp2_with (first | (at_builtin; refine append_go rfl (.tmp 42) (.tmp 45) _ rfl Wq.heap.size 3 Tryz.underlying25 info_int rfl (by omega) A5 c5 1 (ints (L.take 0) ++ [.int .i64 x]) rfl HO5.out Wq.heap.size (ints (L.drop 0)) rfl (rD.below HB5.out) ints_one (by omega) HB5.out.size ?_; intro A6 c6 w6 hown6 _ hb6 _; have HB6 := Lib.hid ((HB5.out).trans hb6); have HO6 := Lib.hid hown6) | fail)
        go_wp2
        go_roundw
        case rel => exact ⟨k + 1, A6, c6, by omega, by go_num, rfl, by rw [Hid, HS.out]; exact own_join HO6.out (by have := HLL.out; simp; omega) hzq, BQ.trans (HB6.out.mono hzq), fun h => by omega⟩
        case measure => simp [intOf]; omega
      injection hv with e1 e2 e3
      subst e1 e3
      have hqc : (q : Int) ≤ (co : Int) := by omega
      have hkc : (k : Int) ≤ (co : Int) := by omega
      have rL : Reads Wq Wq.heap.size 1 (some ⟨g, 0, none⟩) k (ints L) := by have := OQ.reads; rw [hLk] at this; exact this
      have rT := rL.takeI q hq
      have rT1 := rT.below BX1
      have rT2 := rT.below BX2
      have rT3 := rT.below BX3
      have hc0 : ¬ co = 0 := by
       rintro rfl
       have := (HKN.out (by omega)).1
       cases this
      clear hLk
      go_cut [6] from 31 to 41 (fun s wx => ∃ A5 c5, s = .slice A5 (q + 1) c5 ∧ Hid (wx.ownsRow Wq.heap.size 3 1 (.slice A5 (q + 1) c5) (q + 1) (ints (L.take q) ++ [.int .i64 x])) ∧ Hid (Below Wq.heap.size Wq wx))
      case first =>
       go_region_held3 (fun W => W.cell? ⟨bX, oX + k, none⟩ = some (.int .i64 x)) (go_keep) (first
        | (refine append_step2 rfl (.tmp 31) (.tmp 34) _ _ rfl Wq.heap.size 3 3 Tryz.underlying25 Tryz.underlying25 info_int rfl (by omega) (some ⟨Wq.heap.size, 0, none⟩) 0 0 [] rfl ?_ Wq.heap.size (ints (L.take q)) rfl ?_ ints_one (by omega) ?_ ?_
           ·exact own1
           ·exact rT1
           ·first | (simp; done) | (simp; omega)
           intro A4 c4 w4 hown4 hg4 hb4 _; rw [Nat.zero_add q] at hown4 ⊢; rw [List.nil_append] at hown4; have k4 := (hb4.cell (p := ⟨bX, oX + k, none⟩) (by show bX < _; omega)).trans kx1; have hz4 : Wq.heap.size ≤ w4.heap.size := Nat.le_trans (by first | (simp; done) | (simp; omega)) hb4.size; have HB4 : Hid (Below Wq.heap.size Wq w4) := BX1.trans ⟨hb4.os, hb4.tape, hb4.output, hb4.size, hb4.block⟩)
        | (refine append_step2 rfl (.tmp 31) (.tmp 34) _ _ rfl Wq.heap.size 3 3 Tryz.underlying25 Tryz.underlying25 info_int rfl (by omega) (some ⟨Wq.heap.size, 0, none⟩) 0 0 [] rfl ?_ Wq.heap.size (ints (L.take q)) rfl ?_ ints_one (by omega) ?_ ?_
           ·exact own2
           ·exact rT2
           ·first | (simp; done) | (simp; omega)
           intro A4 c4 w4 hown4 hg4 hb4 _; rw [Nat.zero_add q] at hown4 ⊢; rw [List.nil_append] at hown4; have k4 := (hb4.cell (p := ⟨bX, oX + k, none⟩) (by show bX < _; omega)).trans kx2; have hz4 : Wq.heap.size ≤ w4.heap.size := Nat.le_trans (by first | (simp; done) | (simp; omega)) hb4.size; have HB4 : Hid (Below Wq.heap.size Wq w4) := BX2.trans ⟨hb4.os, hb4.tape, hb4.output, hb4.size, hb4.block⟩; have rb4 := Reads.of_blk1 (w := w4) (g := (Wq.heap.size + 1)) (u := .int .i64 x) (e := 3) ((hg4.block (Wq.heap.size + 1) bx2.lt (by simp [Value.ownBlock])).trans bx2))
        | (refine append_step2 rfl (.tmp 31) (.tmp 34) _ _ rfl Wq.heap.size 3 3 Tryz.underlying25 Tryz.underlying25 info_int rfl (by omega) (some ⟨Wq.heap.size + 1, 0, none⟩) 0 0 [] rfl ?_ Wq.heap.size (ints (L.take q)) rfl ?_ ints_one (by omega) ?_ ?_
           ·exact own3
           ·exact rT3
           ·first | (simp; done) | (simp; omega)
           intro A4 c4 w4 hown4 hg4 hb4 _; rw [Nat.zero_add q] at hown4 ⊢; rw [List.nil_append] at hown4; have k4 := (hb4.cell (p := ⟨bX, oX + k, none⟩) (by show bX < _; omega)).trans kx3; have hz4 : Wq.heap.size ≤ w4.heap.size := Nat.le_trans (by first | (simp; done) | (simp; omega)) hb4.size; have HB4 : Hid (Below Wq.heap.size Wq w4) := BX3.trans ⟨hb4.os, hb4.tape, hb4.output, hb4.size, hb4.block⟩; have rb4 := Reads.of_blk1 (w := w4) (g := Wq.heap.size) (u := .int .i64 x) (e := 3) ((hg4.block Wq.heap.size bx3.lt (by simp [Value.ownBlock])).trans bx3))
        | (refine append_step2 rfl (.tmp 35) (.tmp 40) _ _ rfl Wq.heap.size 3 3 Tryz.underlying25 Tryz.underlying25 info_int rfl (by omega) A4 c4 q (ints (L.take q)) rfl ?_ w4.heap.size [.int .i64 x] rfl ?_ (by simp [Value.oneCell']) (by omega) ?_ ?_
           ·exact hown4
           ·exact rb4
           ·exact hz4
           intro A5 c5 w5 hown5 hg5 hb5 _; have k5 := (hb5.cell (p := ⟨bX, oX + k, none⟩) (by show bX < _; omega)).trans k4; have HB5 : Hid (Below Wq.heap.size Wq w5) := HB4.out.trans ⟨hb5.os, hb5.tape, hb5.output, hb5.size, hb5.block⟩)
        | (refine append_step2 rfl (.tmp 35) (.tmp 40) _ _ rfl Wq.heap.size 3 3 Tryz.underlying25 Tryz.underlying25 info_int rfl (by omega) A4 c4 q (ints (L.take q)) rfl ?_ (w4.heap.size + 1) [.int .i64 x] rfl ?_ (by simp [Value.oneCell']) (by omega) ?_ ?_
           ·exact World.ownsRow.alloc hown4 _
           ·exact Reads.box1 w4 _ _
           ·exact Nat.le_trans hz4 (by simp)
           intro A5 c5 w5 hown5 hg5 hb5 _; have k5 := (hb5.cell (p := ⟨bX, oX + k, none⟩) (by show bX < _; omega)).trans ((((Below.refl w4.heap.size w4).alloc (Nat.le_refl _) (.cells #[.int .i64 x] 3)).cell (p := ⟨bX, oX + k, none⟩) (by show bX < _; omega)).trans k4); have HB5 : Hid (Below Wq.heap.size Wq w5) := (HB4.out.alloc hz4 (.cells #[.int .i64 x] 3)).trans ⟨hb5.os, hb5.tape, hb5.output, hb5.size, hb5.block⟩)
        | fail)
       all_goals
        go_wp2
        go_meet
        exact ⟨A5, c5, rfl, hown5, HB5⟩
      case rest =>
       obtain ⟨A5, c5, rfl, HO5, HB5⟩ := hcut
       by_cases hcq : co = q
       ·have rD : Reads Wq Wq.heap.size 1 (some ⟨g, 0, none⟩) (k - q) (ints (L.drop q)) := ⟨by have := HLL.out; simp [ints]; omega, fun hp => by omega⟩
        clear own1 own2 own3 BX1 BX2 BX3 kx0 kx1 kx2 kx3 bx2 bx3 rT1 rT2 rT3
        go_wp2_with (first | (at_builtin; refine append_go rfl (.tmp 42) (.tmp 45) _ rfl Wq.heap.size 3 Tryz.underlying25 info_int rfl (by omega) A5 c5 (q + 1) (ints (L.take q) ++ [.int .i64 x]) rfl HO5.out Wq.heap.size (ints (L.drop q)) rfl (rD.below HB5.out) ints_one (by omega) HB5.out.size ?_; intro A6 c6 w6 hown6 _ hb6 _; have HB6 := Lib.hid ((HB5.out).trans hb6); have HO6 := Lib.hid hown6) | fail)
        go_wp2
        go_roundw
        case rel => exact ⟨k + 1, A6, c6, by omega, by go_num, rfl, by rw [Hid, HS.out]; exact own_join HO6.out (by have := HLL.out; simp; omega) hzq, BQ.trans (HB6.out.mono hzq), fun h => by omega⟩
        case measure => simp [intOf]; omega
       ·have rD : Reads Wq Wq.heap.size 1 (some ⟨g, q, none⟩) (k - q) (ints (L.drop q)) := by have := rL.dropI2 q hq; rwa [Nat.zero_add] at this
        clear own1 own2 own3 BX1 BX2 BX3 kx0 kx1 kx2 kx3 bx2 bx3 rT1 rT2 rT3
        go_wp2_with (first | (at_builtin; refine append_go rfl (.tmp 42) (.tmp 45) _ rfl Wq.heap.size 3 Tryz.underlying25 info_int rfl (by omega) A5 c5 (q + 1) (ints (L.take q) ++ [.int .i64 x]) rfl HO5.out Wq.heap.size (ints (L.drop q)) rfl (rD.below HB5.out) ints_one (by omega) HB5.out.size ?_; intro A6 c6 w6 hown6 _ hb6 _; have HB6 := Lib.hid ((HB5.out).trans hb6); have HO6 := Lib.hid hown6) | fail)
        go_wp2
        go_roundw
        case rel => exact ⟨k + 1, A6, c6, by omega, by go_num, rfl, by rw [Hid, HS.out]; exact own_join HO6.out (by have := HLL.out; simp; omega) hzq, BQ.trans (HB6.out.mono hzq), fun h => by omega⟩
        case measure => simp [intOf]; omega
     ·obtain ⟨bL, oL, hLA, hbL, hcL⟩ := HO.out.reads.at_ (ints_at hy)
      have hq1 : IntKind.i64.wrap ((q : Int) - 1) = (p : Int) := by rw [IntWalk.i64_in _ (by omega)]; omega
      have hq0 : (0 : Int) < (q : Int) := by omega
      have hq2 : decide (0 < q) = true := decide_eq_true (by omega)
      have hpk : (p : Int) < (k : Int) := by omega
      have hd : decide (x < y) = false := decide_eq_false hxy
      clear hy hqp hxy
      subst hLA
      go_wp2_with fail
      go_quiet (fail)
      go_wp2_with fail
      clear hd hq0 hq1 hq2 hpk hcL hbL
      obtain ⟨Wq, hWq⟩ : ∃ W, (wo.drewN n0).drewN nq = W := ⟨_, rfl⟩
      have OQ : OwnI Wq w.heap.size (some ⟨bL, oL, none⟩) co L := by rw [← hWq]; exact HO.out
      have BQ : Below w.heap.size w Wq := by rw [← hWq]; exact ⟨HW.out.os, HW.out.tape, HW.out.output, HW.out.size, HW.out.block⟩
      have kx0 : Wq.cell? ⟨bX, oX + k, none⟩ = some (.int .i64 x) := by rw [← hWq]; exact hcX
      rw [hWq]
      clear hWq hcX
      have hzq := BQ.size
      have hLk := HLL.out
      have hq00 : (0 : Int) ≤ (q : Int) := by omega
      have hk00 : (0 : Int) ≤ (k : Int) := by omega
      have hqi : (q : Int) ≤ (k : Int) := by omega
      have hbXs : bX < Wq.heap.size := by omega
      have HS : Hid (sortG ltI (xs.take (k + 1)) = L.take q ++ x :: L.drop q) := by rw [Hid, HST.out]; unfold insS; rw [hLk, HK.out]
      have own1 : (Wq.alloc (.cells #[] 3)).ownsRow Wq.heap.size 3 1 (.slice (some ⟨Wq.heap.size, 0, none⟩) 0 0) 0 [] := OwnI.of_blk (l := []) (Blk.new Wq 3 (intCells [])) (Nat.le_refl _) (by decide)
      have own2 := World.ownsRow.alloc own1 (.cells #[.int .i64 x] 3)
      have own3 : ((Wq.alloc (.cells #[.int .i64 x] 3)).alloc (.cells #[] 3)).ownsRow Wq.heap.size 3 1 (.slice (some ⟨Wq.heap.size + 1, 0, none⟩) 0 0) 0 [] := OwnI.of_blk (l := []) (Blk.newAtS (cs := intCells []) (by simp)) (by omega) (by decide)
      have BX1 := (Below.refl Wq.heap.size Wq).alloc (Nat.le_refl _) (.cells #[] 3)
      have BX2 := ((Below.refl Wq.heap.size Wq).alloc (Nat.le_refl _) (.cells #[] 3)).alloc (by simp) (.cells #[.int .i64 x] 3)
      have BX3 := ((Below.refl Wq.heap.size Wq).alloc (Nat.le_refl _) (.cells #[.int .i64 x] 3)).alloc (by simp) (.cells #[] 3)
      have kx1 := (BX1.cell (p := ⟨bX, oX + k, none⟩) (by show bX < _; omega)).trans kx0
      have kx2 := (BX2.cell (p := ⟨bX, oX + k, none⟩) (by show bX < _; omega)).trans kx0
      have kx3 := (BX3.cell (p := ⟨bX, oX + k, none⟩) (by show bX < _; omega)).trans kx0
      have bx2 : Blk ((Wq.alloc (.cells #[] 3)).alloc (.cells #[.int .i64 x] 3)) (Wq.heap.size + 1) 3 #[.int .i64 x] := Blk.newAtS (by simp)
      have bx3 : Blk ((Wq.alloc (.cells #[.int .i64 x] 3)).alloc (.cells #[] 3)) Wq.heap.size 3 #[.int .i64 x] := (Blk.new Wq 3 #[.int .i64 x]).alloc _
      have hlen9 : q + 1 + (k - q) = k + 1 := by omega
      have OQ2 := OQ
      obtain ⟨_, OQ2⟩ := OQ2
      rcases OQ2 with ⟨hv, h0⟩ | ⟨g, cap, cur, hv, hg, hbl, hnc, hcap, _⟩
      ·simp at hv
      injection hv with e1 e2 e3
      injection e1 with e1
      injection e1 with f1 f2
      have f1 := f1.symm
      subst f1 f2 e3
      rw [Nat.zero_add p]
      have hqc : (q : Int) ≤ (co : Int) := by omega
      have hkc : (k : Int) ≤ (co : Int) := by omega
      have rL : Reads Wq Wq.heap.size 1 (some ⟨g, 0, none⟩) k (ints L) := by have := OQ.reads; rw [hLk] at this; exact this
      have rT := rL.takeI q hq
      have rT1 := rT.below BX1
      have rT2 := rT.below BX2
      have rT3 := rT.below BX3
      have hc0 : ¬ co = 0 := by
       rintro rfl
       have := (HKN.out (by omega)).1
       cases this
      clear hLk
      go_cut [6] from 31 to 41 (fun s wx => ∃ A5 c5, s = .slice A5 (q + 1) c5 ∧ Hid (wx.ownsRow Wq.heap.size 3 1 (.slice A5 (q + 1) c5) (q + 1) (ints (L.take q) ++ [.int .i64 x])) ∧ Hid (Below Wq.heap.size Wq wx))
      case first =>
       go_region_held3 (fun W => W.cell? ⟨bX, oX + k, none⟩ = some (.int .i64 x)) (go_keep) (first
        | (refine append_step2 rfl (.tmp 31) (.tmp 34) _ _ rfl Wq.heap.size 3 3 Tryz.underlying25 Tryz.underlying25 info_int rfl (by omega) (some ⟨Wq.heap.size, 0, none⟩) 0 0 [] rfl ?_ Wq.heap.size (ints (L.take q)) rfl ?_ ints_one (by omega) ?_ ?_
           ·exact own1
           ·exact rT1
           ·first | (simp; done) | (simp; omega)
           intro A4 c4 w4 hown4 hg4 hb4 _; rw [Nat.zero_add q] at hown4 ⊢; rw [List.nil_append] at hown4; have k4 := (hb4.cell (p := ⟨bX, oX + k, none⟩) (by show bX < _; omega)).trans kx1; have hz4 : Wq.heap.size ≤ w4.heap.size := Nat.le_trans (by first | (simp; done) | (simp; omega)) hb4.size; have HB4 : Hid (Below Wq.heap.size Wq w4) := BX1.trans ⟨hb4.os, hb4.tape, hb4.output, hb4.size, hb4.block⟩)
        | (refine append_step2 rfl (.tmp 31) (.tmp 34) _ _ rfl Wq.heap.size 3 3 Tryz.underlying25 Tryz.underlying25 info_int rfl (by omega) (some ⟨Wq.heap.size, 0, none⟩) 0 0 [] rfl ?_ Wq.heap.size (ints (L.take q)) rfl ?_ ints_one (by omega) ?_ ?_
           ·exact own2
           ·exact rT2
           ·first | (simp; done) | (simp; omega)
           intro A4 c4 w4 hown4 hg4 hb4 _; rw [Nat.zero_add q] at hown4 ⊢; rw [List.nil_append] at hown4; have k4 := (hb4.cell (p := ⟨bX, oX + k, none⟩) (by show bX < _; omega)).trans kx2; have hz4 : Wq.heap.size ≤ w4.heap.size := Nat.le_trans (by first | (simp; done) | (simp; omega)) hb4.size; have HB4 : Hid (Below Wq.heap.size Wq w4) := BX2.trans ⟨hb4.os, hb4.tape, hb4.output, hb4.size, hb4.block⟩; have rb4 := Reads.of_blk1 (w := w4) (g := (Wq.heap.size + 1)) (u := .int .i64 x) (e := 3) ((hg4.block (Wq.heap.size + 1) bx2.lt (by simp [Value.ownBlock])).trans bx2))
        | (refine append_step2 rfl (.tmp 31) (.tmp 34) _ _ rfl Wq.heap.size 3 3 Tryz.underlying25 Tryz.underlying25 info_int rfl (by omega) (some ⟨Wq.heap.size + 1, 0, none⟩) 0 0 [] rfl ?_ Wq.heap.size (ints (L.take q)) rfl ?_ ints_one (by omega) ?_ ?_
           ·exact own3
           ·exact rT3
           ·first | (simp; done) | (simp; omega)
           intro A4 c4 w4 hown4 hg4 hb4 _; rw [Nat.zero_add q] at hown4 ⊢; rw [List.nil_append] at hown4; have k4 := (hb4.cell (p := ⟨bX, oX + k, none⟩) (by show bX < _; omega)).trans kx3; have hz4 : Wq.heap.size ≤ w4.heap.size := Nat.le_trans (by first | (simp; done) | (simp; omega)) hb4.size; have HB4 : Hid (Below Wq.heap.size Wq w4) := BX3.trans ⟨hb4.os, hb4.tape, hb4.output, hb4.size, hb4.block⟩; have rb4 := Reads.of_blk1 (w := w4) (g := Wq.heap.size) (u := .int .i64 x) (e := 3) ((hg4.block Wq.heap.size bx3.lt (by simp [Value.ownBlock])).trans bx3))
        | (refine append_step2 rfl (.tmp 35) (.tmp 40) _ _ rfl Wq.heap.size 3 3 Tryz.underlying25 Tryz.underlying25 info_int rfl (by omega) A4 c4 q (ints (L.take q)) rfl ?_ w4.heap.size [.int .i64 x] rfl ?_ (by simp [Value.oneCell']) (by omega) ?_ ?_
           ·exact hown4
           ·exact rb4
           ·exact hz4
           intro A5 c5 w5 hown5 hg5 hb5 _; have k5 := (hb5.cell (p := ⟨bX, oX + k, none⟩) (by show bX < _; omega)).trans k4; have HB5 : Hid (Below Wq.heap.size Wq w5) := HB4.out.trans ⟨hb5.os, hb5.tape, hb5.output, hb5.size, hb5.block⟩)
        | (refine append_step2 rfl (.tmp 35) (.tmp 40) _ _ rfl Wq.heap.size 3 3 Tryz.underlying25 Tryz.underlying25 info_int rfl (by omega) A4 c4 q (ints (L.take q)) rfl ?_ (w4.heap.size + 1) [.int .i64 x] rfl ?_ (by simp [Value.oneCell']) (by omega) ?_ ?_
           ·exact World.ownsRow.alloc hown4 _
           ·exact Reads.box1 w4 _ _
           ·exact Nat.le_trans hz4 (by simp)
           intro A5 c5 w5 hown5 hg5 hb5 _; have k5 := (hb5.cell (p := ⟨bX, oX + k, none⟩) (by show bX < _; omega)).trans ((((Below.refl w4.heap.size w4).alloc (Nat.le_refl _) (.cells #[.int .i64 x] 3)).cell (p := ⟨bX, oX + k, none⟩) (by show bX < _; omega)).trans k4); have HB5 : Hid (Below Wq.heap.size Wq w5) := (HB4.out.alloc hz4 (.cells #[.int .i64 x] 3)).trans ⟨hb5.os, hb5.tape, hb5.output, hb5.size, hb5.block⟩)
        | fail)
       all_goals
        go_wp2
        go_meet
        exact ⟨A5, c5, rfl, hown5, HB5⟩
      case rest =>
       obtain ⟨A5, c5, rfl, HO5, HB5⟩ := hcut
       by_cases hcq : co = q
       ·have rD : Reads Wq Wq.heap.size 1 (some ⟨g, 0, none⟩) (k - q) (ints (L.drop q)) := ⟨by have := HLL.out; simp [ints]; omega, fun hp => by omega⟩
        clear own1 own2 own3 BX1 BX2 BX3 kx0 kx1 kx2 kx3 bx2 bx3 rT1 rT2 rT3
        go_wp2_with (first | (at_builtin; refine append_go rfl (.tmp 42) (.tmp 45) _ rfl Wq.heap.size 3 Tryz.underlying25 info_int rfl (by omega) A5 c5 (q + 1) (ints (L.take q) ++ [.int .i64 x]) rfl HO5.out Wq.heap.size (ints (L.drop q)) rfl (rD.below HB5.out) ints_one (by omega) HB5.out.size ?_; intro A6 c6 w6 hown6 _ hb6 _; have HB6 := Lib.hid ((HB5.out).trans hb6); have HO6 := Lib.hid hown6) | fail)
        go_wp2
        go_roundw
        case rel => exact ⟨k + 1, A6, c6, by omega, by go_num, rfl, by rw [Hid, HS.out]; exact own_join HO6.out (by have := HLL.out; simp; omega) hzq, BQ.trans (HB6.out.mono hzq), fun h => by omega⟩
        case measure => simp [intOf]; omega
       ·have rD : Reads Wq Wq.heap.size 1 (some ⟨g, q, none⟩) (k - q) (ints (L.drop q)) := by have := rL.dropI2 q hq; rwa [Nat.zero_add] at this
        clear own1 own2 own3 BX1 BX2 BX3 kx0 kx1 kx2 kx3 bx2 bx3 rT1 rT2 rT3
        go_wp2_with (first | (at_builtin; refine append_go rfl (.tmp 42) (.tmp 45) _ rfl Wq.heap.size 3 Tryz.underlying25 info_int rfl (by omega) A5 c5 (q + 1) (ints (L.take q) ++ [.int .i64 x]) rfl HO5.out Wq.heap.size (ints (L.drop q)) rfl (rD.below HB5.out) ints_one (by omega) HB5.out.size ?_; intro A6 c6 w6 hown6 _ hb6 _; have HB6 := Lib.hid ((HB5.out).trans hb6); have HO6 := Lib.hid hown6) | fail)
        go_wp2
        go_roundw
        case rel => exact ⟨k + 1, A6, c6, by omega, by go_num, rfl, by rw [Hid, HS.out]; exact own_join HO6.out (by have := HLL.out; simp; omega) hzq, BQ.trans (HB6.out.mono hzq), fun h => by omega⟩
        case measure => simp [intOf]; omega
  ·obtain rfl : k = xs.length := by omega
   rw [List.take_length] at HO
   go_wp2
   go_ret
   exact ⟨Ao, co, rfl, HO.out, HW.out⟩
end Go.Proofs.YtnbikkcalcpedaaGreatDoor
