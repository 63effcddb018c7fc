/-
 Texts of this claim, put together: RRecs3, Sup2, Intvl, GrownF.
-/
import Derived.Test.YtnbikkcalcpedaaGreatDoorK32
import Derived.Test.YtnbikkcalcpedaaGreatDoorK08
import Derived.Stop.RegionWithIn
import Derived.Test.YtnbikkcalcpedaaGreatDoorK29
import Derived.Test.YtnbikkcalcpedaaGreatDoorK18
import Derived.Test.YtnbikkcalcpedaaGreatDoorK23
set_option maxRecDepth 100000
set_option maxHeartbeats 20000000
namespace Go.Proofs.YtnbikkcalcpedaaGreatDoor
open Go.RowKit Go.Shelf
attribute [local go_sem] Oper.semAt_some
theorem leafA {wo w2 : World} {n q cA c1 : Nat} {es : List E3} {A A1 : Option Addr} {cs : List Int} (ho : OwnI w2 wo.drew.heap.size A1 c1 cs) (hb : Below wo.heap.size wo w2) :
  ∃ (pb : Nat) (B1 : Option Addr) (d1 : Nat), Value.pointer (some ⟨w2.heap.size, 0, none⟩) = .pointer (some ⟨pb, 0, none⟩) ∧ Blk (w2.alloc (.cells #[.int .i64 n, .slice A es.length cA, .int .i64 q, .slice A1 n c1] 138)) pb 138 #[.int .i64 n, .slice A es.length cA, .int .i64 q, .slice B1 n d1] ∧
    OwnI (w2.alloc (.cells #[.int .i64 n, .slice A es.length cA, .int .i64 q, .slice A1 n c1] 138)) wo.heap.size B1 d1 cs ∧ wo.heap.size ≤ pb ∧ Below wo.heap.size wo (w2.alloc (.cells #[.int .i64 n, .slice A es.length cA, .int .i64 q, .slice A1 n c1] 138)) :=
 ⟨_, A1, c1, rfl, Blk.new _ _ _, OwnI.alloc ho _, hb.size, hb.alloc hb.size _⟩
theorem leafB {wo w2 : World} {n q cA c1 : Nat} {es : List E3} {A A1 : Option Addr} {cs : List Int} (h1 : wo.heap.size < wo.heap.size + 1) (h2 : wo.heap.size ≤ wo.heap.size + 1) (g2 : Blk w2 wo.heap.size 138 #[.int .i64 0, .slice none 0 0, .int .i64 0, .slice none 0 0]) (ho : OwnI w2 (wo.heap.size + 1) A1 c1 cs) (hb : Below wo.heap.size wo w2) :
  ∃ (pb : Nat) (B1 : Option Addr) (d1 : Nat), Value.pointer (some ⟨wo.heap.size, 0, none⟩) = .pointer (some ⟨pb, 0, none⟩) ∧ Blk ((((w2.setCell ⟨wo.heap.size, 0, none⟩ (.int .i64 n)).setCell ⟨wo.heap.size, 1, none⟩ (.slice A es.length cA)).setCell ⟨wo.heap.size, 2, none⟩ (.int .i64 q)).setCell ⟨wo.heap.size, 3, none⟩ (.slice A1 n c1)) pb 138 #[.int .i64 n, .slice A es.length cA, .int .i64 q, .slice B1 n d1] ∧
    OwnI ((((w2.setCell ⟨wo.heap.size, 0, none⟩ (.int .i64 n)).setCell ⟨wo.heap.size, 1, none⟩ (.slice A es.length cA)).setCell ⟨wo.heap.size, 2, none⟩ (.int .i64 q)).setCell ⟨wo.heap.size, 3, none⟩ (.slice A1 n c1)) wo.heap.size B1 d1 cs ∧ wo.heap.size ≤ pb ∧ Below wo.heap.size wo ((((w2.setCell ⟨wo.heap.size, 0, none⟩ (.int .i64 n)).setCell ⟨wo.heap.size, 1, none⟩ (.slice A es.length cA)).setCell ⟨wo.heap.size, 2, none⟩ (.int .i64 q)).setCell ⟨wo.heap.size, 3, none⟩ (.slice A1 n c1)) :=
 ⟨_, A1, c1, rfl, (((g2.set_ 0 _).set_ 1 _).set_ 2 _).set_ 3 _, ((((ho.far (p := ⟨wo.heap.size, 0, none⟩) h1 _).far (p := ⟨wo.heap.size, 1, none⟩) h1 _).far (p := ⟨wo.heap.size, 2, none⟩) h1 _).far (p := ⟨wo.heap.size, 3, none⟩) h1 _).mono h2, Nat.le_refl _, (((hb.setCell (p := ⟨wo.heap.size, 0, none⟩) (Nat.le_refl _) _).setCell (p := ⟨wo.heap.size, 1, none⟩) (Nat.le_refl _) _).setCell (p := ⟨wo.heap.size, 2, none⟩) (Nat.le_refl _) _).setCell (p := ⟨wo.heap.size, 3, none⟩) (Nat.le_refl _) _⟩
theorem recs_iterS (n q : Nat) (es : List E3) (top : List Int) (hF : RFix n q es top) (f : Nat)
  (ih : ∀ (cs : List Int) (_ : cs.length = n) (_ : ∀ x ∈ cs, -1048576 ≤ x ∧ x ≤ 1048577) (v : Nat) (_ : v + f = n) (bp bv bt : Nat) (A : Option Addr) (cA : Nat) (C : Option Addr) (cC : Nat) (T : Option Addr) (cT : Nat) (W0 : World)
   (_ : RecW W0 n q v bp bv bt es A cA C cC T cT cs top),
   Iter Tryz.prog 208 #[.pointer (some ⟨bp, 0, none⟩), .pointer (some ⟨bv, 0, none⟩), .pointer (some ⟨bt, 0, none⟩)] ArgD (KR bp bv bt es A C T) (fun _ => False) (enumR (recP n es q) top n f cs) W0)
  (cs : List Int) (hcs : cs.length = n) (hcb : ∀ x ∈ cs, -1048576 ≤ x ∧ x ≤ 1048577) (v : Nat) (hv : v + (f + 1) = n) (bp bv bt : Nat) (A : Option Addr) (cA : Nat) (C : Option Addr) (cC : Nat) (T : Option Addr) (cT : Nat) (W0 : World)
  (hW : RecW W0 n q v bp bv bt es A cA C cC T cT cs top) :
  Iter Tryz.prog 208 #[.pointer (some ⟨bp, 0, none⟩), .pointer (some ⟨bv, 0, none⟩), .pointer (some ⟨bt, 0, none⟩)] ArgD (KR bp bv bt es A C T) (fun _ => False) (enumR (recP n es q) top n (f + 1) cs) W0 := by
 intro l J Jx C0 W hL hC hJ hJx hY h0
 have hn0 : 0 < n := by have := hF.hq; omega
 have hn12 : n ≤ 12 := by have := (right_of hF.hz).hi; omega
 have hRW : RecW W n q v bp bv bt es A cA C cC T cT cs top := hW.kept hL.size fun k hk => hL.block k (hW.lt hn0 hk) hk
 obtain ⟨Wy, hWy⟩ : ∃ Wy, W.alloc (.cells #[.func (.yield l) #[] #[]] 256) = Wy := ⟨_, rfl⟩
 have hby : Below W.heap.size W Wy := by rw [← hWy]; exact (Below.refl _ _).alloc (Nat.le_refl _) _
 have y5 : Blk Wy W.heap.size 256 #[.func (.yield l) #[] #[]] := by rw [← hWy]; exact Blk.new _ _ _
 have hsy : Wy.heap.size = W.heap.size + 1 := by rw [← hWy]; simp
 have hRy := hRW.next hn0 hby
 have RC := Lib.hid (recurs_any n A cA es q hF.hq C cC cs ⟨hF.hlen, hF.hz, hcs, hcb⟩ Wy hRy.e hRy.c)
 have CL := Lib.hid (fun (W : World) (h : Reads W W.heap.size 1 C n (ints cs)) => by have := dclone_any C cC cs (by omega) W (by rw [hcs]; exact h); rw [hcs] at this; exact this)
 have HRY := Lib.hid hRy
 have HRW := Lib.hid hRW
 have HFX := Lib.hid hF
 have HJ := Lib.hid hJ
 have HJX := Lib.hid hJx
 have HY := Lib.hid hY
 have HC := Lib.hid hC
 have HLEN := Lib.hid hcs
 have HCB := Lib.hid hcb
 have HV := Lib.hid hv
 have IH := Lib.hid ih
 have hJy := hJ _ _ _ _ h0 (Stays.of_new hby)
 have HJy := Lib.hid hJy
 have e1 := hRy.p.cell 0
 have e2 := hRy.p.cell 1
 have e3 := hRy.p.cell 2
 have e4 := hRy.p.cell 3
 obtain ⟨tv, htv⟩ := get_of_lt (xs := top) (k := v) (by rw [hF.htl]; omega)
 have htb := hF.htb tv (List.mem_of_getElem? htv)
 obtain ⟨bT, oT, rfl, hbT, hcT⟩ := hRW.r.at_ (ints_at htv)
 have htd := getD_at htv
 have HTD := Lib.hid htd
 obtain ⟨tn, rfl⟩ := Int.eq_ofNat_of_zero_le htb.1
 have HE0 : Hid (recB n es cs q = false → enumR (recP n es q) top n (f + 1) cs = []) := fun h => enumR_no h
 have HE1 : Hid (recB n es cs q = true → enumR (recP n es q) top n (f + 1) cs = remR (recP n es q) top n f cs 0) := fun h => enumR_succ h
 obtain ⟨xs, hxs⟩ : ∃ xs, enumR (recP n es q) top n (f + 1) cs = xs := ⟨_, rfl⟩
 rw [hxs] at HE0 HE1 HY ⊢
 obtain ⟨b, hb⟩ : ∃ b, recB n es cs q = b := ⟨_, rfl⟩
 rw [hb] at HE0 HE1 RC
 have hvn : ((v : Int) == (n : Int)) = false := by simp; omega
 have hvi : (v : Int) < (n : Int) := by omega
 have hwr : IntKind.i64.wrap ((tn : Int) + 1) = tn + 1 := IntWalk.i64_in _ (by omega)
 clear hb hxs hJ hJx hY hC hcs hcb hRy hRW hW hF hL h0 hJy ih htv htd hv
 refine (callsIn_wide (n := 3)).1 ?_
 refine callsIn_of_wp_marks Tryz.func208 rfl trivial ?_
 simp only [Tryz.ntmps208, List.size_toArray, List.length_cons, List.length_nil, Nat.reduceAdd, Nat.reduceSub, Array.replicate_succ, Array.replicate_zero, List.push_toArray, List.append_toArray, List.nil_append, List.cons_append]
 gi_wp2_with fail
 refine ⟨trivial, ?_⟩
 refine (inW RC.out).mono ?_
 rintro e w1 ⟨rfl, hb1⟩
 have hB1 := hby.trans (hb1.mono (by omega))
 have hR1 := HRY.out.next hn0 hb1
 have J1 := Lib.hid (HJ.out _ _ _ _ HJy.out (Stays.of_new hb1))
 have y1 := y5.next hb1
 have hs1 := hb1.size
 have e5 := y1.cell 0
 have e1 := hR1.p.cell 0
 have e6 := hR1.v.cell 0
 have e7 := hR1.t.cell 0
 have e8 := (hB1.cell (p := ⟨bT, oT + v, none⟩) (by exact hbT)).trans hcT
 have HR1 := Lib.hid hR1
 have RF1 : Hid (RF (KR bp bv bt es A C (some ⟨bT, oT, none⟩)) l J W [] C0 [] w1.heap.size w1) := by
  refine ⟨by omega, Nat.le_refl _, fun k hk => ⟨HRW.out.lt hn0 hk, hB1.block k (HRW.out.lt hn0 hk)⟩, y1, J1.out, fun k hk => ?_, trivial, fun D hD => by cases hD⟩
  obtain ⟨h1, h2⟩ := HC.out k hk
  exact ⟨by omega, h2, by omega⟩
 clear hby y5 hWy hR1
 cases b
 ·have HEN2 : Hid (xs = []) := HE0.out rfl
  gi_wp2
  exact ⟨_, results_none rfl _ _ _, ⟨⟨_, rfl⟩, C0, .inl (by rw [HEN2.out]; exact J1.out)⟩⟩
 ·have HXS : Hid (xs = remR (recP n es q) top n f cs 0) := HE1.out rfl
  gi_wp2_with fail
  clear e1 e5 e6 e7 e8 hb1 J1
  have HXN : Hid (∀ k : Nat, (k : Int) ≤ tn → remR (recP n es q) top n f cs k = enumR (recP n es q) top n f (cs.set v (k : Int)) ++ remR (recP n es q) top n f cs (k + 1)) := fun k hk => remR_step HV.out (by rw [HTD.out]; exact hk)
  have HXE : Hid (∀ k : Nat, (tn : Int) < k → remR (recP n es q) top n f cs k = []) := fun k hk => remR_end HV.out (by rw [HTD.out]; exact hk)
  refine wpIn_loop (fun a' w' => ∃ (k : Nat) (pre : List (List Int)) (C' : Nat → Prop) (ds : List Deferred) (B : Nat) (u5 u6 u7 u27 u28 u29 u30 u31 u32 u33 u34 u35 u36 u37 u38 u39 u40 u41 u42 u43 u44 u45 u46 u47 u48 u49 u50 u51 u52 : Value), Hid (RF (KR bp bv bt es A C (some ⟨bT, oT, none⟩)) l J W pre C' ds B w') ∧ Hid (xs = pre ++ remR (recP n es q) top n f cs k) ∧
   a' = { tmps := #[.func (.yield l) #[] #[], .pointer (some ⟨bp, 0, none⟩), .pointer (some ⟨bv, 0, none⟩), .pointer (some ⟨bt, 0, none⟩), .pointer (some ⟨W.heap.size, 0, none⟩), u5, u6, u7, .agg #[.int .i64 n, .slice A es.length cA, .int .i64 q, .slice C n cC], .bool true, .bool false, .int .i64 v, .pointer (some ⟨bp, 0, none⟩), .pointer (some ⟨bp, 0, none⟩), .int .i64 n, .bool false, undef, undef, undef, undef, undef, .slice (some ⟨bT, oT, none⟩) n cT, .int .i64 v, .pointer (some ⟨bT, oT + v, none⟩), .int .i64 tn, .int .i64 ((tn : Int) + 1), .int .i64 k, u27, u28, u29, u30, u31, u32, u33, u34, u35, u36, u37, u38, u39, u40, u41, u42, u43, u44, u45, u46, u47, u48, u49, u50, u51, u52], defers := ds }) (fun a' _ => tn + 1 - (intOf (a'.tmps.getD 26 undef)).toNat) ?_ ?_
  ·exact ⟨0, [], C0, [], w1.heap.size, _, _, _, _, _, _, _, _, _, _, _, _, _, _, _, _, _, _, _, _, _, _, _, _, _, _, _, _, _, RF1, by rw [Hid, HXS.out]; rfl, rfl⟩
  ·rintro a' wo ⟨k, pre, C', ds, B, u5, u6, u7, u27, u28, u29, u30, u31, u32, u33, u34, u35, u36, u37, u38, u39, u40, u41, u42, u43, u44, u45, u46, u47, u48, u49, u50, u51, u52, HRF, HS, rfl⟩
   clear RF1
   have HRo : Hid (RecW wo n q v bp bv bt es A cA C cC (some ⟨bT, oT, none⟩) cT cs top) := HRW.out.kept (by have := HRF.out.sz; have := HRF.out.szw; omega) fun k hk => (HRF.out.kp k hk).2
   have e1 := HRo.out.p.cell 0
   have e2 := HRo.out.p.cell 1
   have e3 := HRo.out.p.cell 2
   have e4 := HRo.out.p.cell 3
   by_cases hk : k ≤ tn
   ·have hki : (k : Int) < (tn : Int) + 1 := by omega
    have HKI := Lib.hid hki
    gi_upto_region 7 with (fail)
    gi_cut [6] from 29 (fun p wx => ∃ (pb : Nat) (A1 : Option Addr) (c1 : Nat), p = .pointer (some ⟨pb, 0, none⟩) ∧ Blk wx pb 138 #[.int .i64 n, .slice A es.length cA, .int .i64 q, .slice A1 n c1] ∧ OwnI wx wo.heap.size A1 c1 cs ∧ wo.heap.size ≤ pb ∧ Below wo.heap.size wo wx)
    case first =>
     have CL1 := Lib.hid (CL.out wo.drew HRo.out.c)
     have CL2 := Lib.hid (CL.out (wo.alloc (.cells #[.int .i64 0, .slice none 0 0, .int .i64 0, .slice none 0 0] 138)).drew ((HRo.out.c.alloc (Nat.le_refl _) _).more (by simp)))
     have gZ : Hid (Blk (wo.alloc (.cells #[.int .i64 0, .slice none 0 0, .int .i64 0, .slice none 0 0] 138)).drew wo.heap.size 138 #[.int .i64 0, .slice none 0 0, .int .i64 0, .slice none 0 0]) := Blk.new wo 138 _
     have HRa : Hid (RecW (wo.alloc (.cells #[.int .i64 0, .slice none 0 0, .int .i64 0, .slice none 0 0] 138)) n q v bp bv bt es A cA C cC (some ⟨bT, oT, none⟩) cT cs top) := HRo.out.next hn0 ((Below.refl _ _).alloc (Nat.le_refl _) _)
     have a1 := HRa.out.p.cell 0
     have a2 := HRa.out.p.cell 1
     have a3 := HRa.out.p.cell 2
     have a4 := HRa.out.p.cell 3
     have hle : Hid (wo.heap.size + 1 ≤ (wo.alloc (.cells #[.int .i64 0, .slice none 0 0, .int .i64 0, .slice none 0 0] 138)).drew.heap.size) := by unfold Hid; simp [World.drew]
     have hle0 : Hid (wo.heap.size ≤ (wo.alloc (.cells #[.int .i64 0, .slice none 0 0, .int .i64 0, .slice none 0 0] 138)).drew.heap.size) := by unfold Hid; simp [World.drew]
     have BZ : Hid (Below wo.heap.size wo (wo.alloc (.cells #[.int .i64 0, .slice none 0 0, .int .i64 0, .slice none 0 0] 138)).drew) := ((Below.refl _ _).alloc (Nat.le_refl _) _).drew
     have BD : Hid (Below wo.heap.size wo wo.drew) := (Below.refl _ _).drew
     have hl1 : Hid (wo.heap.size < wo.heap.size + 1) := Nat.lt_succ_self _
     have hl2 : Hid (wo.heap.size ≤ wo.heap.size + 1) := Nat.le_succ _
     refine wpIn_nopanic ?_
     gi_region_with (first
      | (refine ⟨trivial, ?_⟩; gi_at_call 47; refine (inW CL1.out).mono ?_; rintro e w2 ⟨A1, c1, rfl, hown, hbel⟩
         have HB2 := Lib.hid (BD.out.trans hbel)
         have HO2 := Lib.hid hown
         have R2 := RecW.next (w := wo.drew) ⟨HRo.out.p, HRo.out.v, HRo.out.t, HRo.out.e, HRo.out.c, HRo.out.r⟩ hn0 hbel
         have r1 := R2.p.cell 0
         have r2 := R2.p.cell 1
         have r3 := R2.p.cell 2
         have r4 := R2.p.cell 3
         have R3 := R2.next hn0 ((Below.refl _ _).alloc (Nat.le_refl _) (.cells #[.int .i64 0, .slice none 0 0, .int .i64 0, .slice none 0 0] 138))
         have s1 := R3.p.cell 0
         have s2 := R3.p.cell 1
         have s3 := R3.p.cell 2
         have s4 := R3.p.cell 3)
      | (refine ⟨trivial, ?_⟩; gi_at_call 47; refine (inW CL2.out).mono ?_; rintro e w2 ⟨A1, c1, rfl, hown, hbel⟩
         have HB2 := Lib.hid (BZ.out.trans (hbel.mono hle0.out))
         have HO2 := Lib.hid (hown.mono hle.out)
         have g2 := gZ.out.next hbel
         have R2 := RecW.next (w := (wo.alloc (.cells #[.int .i64 0, .slice none 0 0, .int .i64 0, .slice none 0 0] 138)).drew) ⟨HRa.out.p, HRa.out.v, HRa.out.t, HRa.out.e, HRa.out.c, HRa.out.r⟩ hn0 hbel
         have r1 := R2.p.cell 0
         have r2 := R2.p.cell 1
         have r3 := R2.p.cell 2
         have r4 := R2.p.cell 3
         have z0 := g2.cell 0
         have z1 := g2.cell 1
         have z2 := g2.cell 2
         have z3 := g2.cell 3
         have f0 := g2.frozen 0
         have f1 := g2.frozen 1
         have f2 := g2.frozen 2
         have f3 := g2.frozen 3))
     all_goals
      refine nopanic_normal ?_
      gi_wp2
      gi_meet
      first
       | with_reducible exact leafA HO2.out HB2.out
       | with_reducible exact leafB hl1.out hl2.out g2 HO2.out HB2.out
    case rest =>
     obtain ⟨pb, A1, c1, rfl, P2, O2, hpb, B2⟩ := hcut
     obtain ⟨gA, hA1, hgA, hfr, hce⟩ := O2.block (by rw [HLEN.out]; exact hn0)
     subst hA1
     obtain ⟨x, hx⟩ := get_of_lt (xs := cs) (k := v) (by rw [HLEN.out]; have := HV.out; omega)
     have c0 := hce v x hx
     have f0 := hfr v
     have p0 := P2.cell 0
     have p1 := P2.cell 1
     have p2 := P2.cell 2
     have p3 := P2.cell 3
     have HRc := HRo.out.next hn0 B2
     have e6 := HRc.v.cell 0
     have e7 := HRc.t.cell 0
     have hne : gA ≠ pb := own_blk O2 P2 (by decide) ⟨_, rfl, rfl⟩
     have O3 := O2.put v (k : Int)
     have P3 := P2.far (p := ⟨gA, v, none⟩) (fun e => hne e.symm) (.int .i64 k)
     have B3 := B2.setCell (p := ⟨gA, v, none⟩) hgA (.int .i64 k)
     have HRd := HRo.out.next hn0 B3
     have q0 := P3.cell 0
     have q1 := P3.cell 1
     have q2 := P3.cell 2
     have q3 := P3.cell 3
     have e9 := HRd.v.cell 0
     have e10 := HRd.t.cell 0
     have hwv : IntKind.i64.wrap ((v : Int) + 1) = (v : Int) + 1 := IntWalk.i64_in _ (by have := HV.out; omega)
     obtain ⟨nx, hnx⟩ : ∃ nx, cs.set v (k : Int) = nx := ⟨_, rfl⟩
     have hnl : nx.length = n := by rw [← hnx, List.length_set]; exact HLEN.out
     have hnb : ∀ y ∈ nx, -1048576 ≤ y ∧ y ≤ 1048577 := by
      intro y hy
      rw [← hnx] at hy
      rcases List.mem_or_eq_of_mem_set hy with hy | rfl
      ·exact HCB.out y hy
      ·omega
     rw [hnx] at O3
     have HSP : Hid (xs = pre ++ (enumR (recP n es q) top n f nx ++ remR (recP n es q) top n f cs (k + 1))) := by rw [Hid, HS.out, HXN.out k (by omega), hnx]
     have HNL := Lib.hid hnl
     have HNB := Lib.hid hnb
     have HRD := Lib.hid HRd
     have O3 := Lib.hid O3
     have P3 := Lib.hid P3
     have hne2 := Lib.hid hne
     clear hnx hnl hnb HRc HRd hx e1 e2 e3 e4 hne P2 O2
     gi_wp2_with fail
     refine ⟨trivial, ?_⟩
     obtain ⟨w5, hw5⟩ : ∃ w5, wc.setCell ⟨gA, v, none⟩ (.int .i64 k) = w5 := ⟨_, rfl⟩
     rw [hw5] at B3 HRD O3 P3 ⊢
     clear hw5 q0 q1 q2 q3 e9 e10 p0 p1 p2 p3 e6 e7 c0 f0 hfr hce
     refine (inW (frecs_any n es.length cA A q (some ⟨gA, 0, none⟩) n c1 ((v : Int) + 1) (some ⟨bT, oT, none⟩) n cT w5)).mono ?_
     rintro e w6 ⟨rfl, hw6⟩
     have h56 : Below w5.heap.size w5 w6 := by rw [← hw6]; exact (((Below.refl _ _).alloc (Nat.le_refl _) _).alloc (by simp) _).alloc (by simp; omega) _
     have hs6 : w6.heap.size = w5.heap.size + 1 + 1 + 1 := by rw [← hw6]; simp
     have B6 := B3.trans (h56.mono B3.size)
     have O6 := O3.out.next h56
     have HR6 := HRo.out.next hn0 B6
     have RW6 : RecW w6 n q (v + 1) w5.heap.size (w5.heap.size + 1) (w5.heap.size + 1 + 1) es A cA (some ⟨gA, 0, none⟩) c1 (some ⟨bT, oT, none⟩) cT nx top := by
      refine ⟨?_, ?_, ?_, HR6.e, ?_, HR6.r⟩
      ·rw [← hw6]; exact ((Blk.new _ _ _).alloc _).alloc _
      ·rw [← hw6]; exact (by have := (Blk.new (w5.alloc (.cells #[.int .i64 n, .slice A es.length cA, .int .i64 q, .slice (some ⟨gA, 0, none⟩) n c1] 138)) 3 #[.int .i64 ((v : Int) + 1)]).alloc (.cells #[.slice (some ⟨bT, oT, none⟩) n cT] 53); simpa using this)
      ·rw [← hw6]
       have := Blk.new ((w5.alloc (.cells #[.int .i64 n, .slice A es.length cA, .int .i64 q, .slice (some ⟨gA, 0, none⟩) n c1] 138)).alloc (.cells #[.int .i64 ((v : Int) + 1)] 3)) 53 #[.slice (some ⟨bT, oT, none⟩) n cT]
       simpa using this
      ·have := O6.reads; rw [HNL.out] at this; exact this
     have hF6 : RF (KR bp bv bt es A C (some ⟨bT, oT, none⟩)) l J W pre C' ds w6.heap.size w6 := (HRF.out.stays HJ.out (Nat.le_refl _) (Stays.of_new B6)).raise (by have := HRF.out.szw; have := B6.size; omega) (Nat.le_refl _)
     have hlt6 : wo.heap.size ≤ w5.heap.size := B3.size
     have hCo := HRF.out.cl
     have hKlt := fun kk hk => RW6.lt hn0 (k := kk) hk
     have hszo : W.heap.size < wo.heap.size := by have := HRF.out.sz; have := HRF.out.szw; omega
     have hAo : ∀ kk, blockOf A kk → es.length ≠ 0 → (KR bp bv bt es A C (some ⟨bT, oT, none⟩)) kk := fun kk h hn => .inr (.inr (.inr (.inl ⟨hn, h⟩)))
     have hTo : ∀ kk, blockOf (some ⟨bT, oT, none⟩) kk → (KR bp bv bt es A C (some ⟨bT, oT, none⟩)) kk := fun kk h => .inr (.inr (.inr (.inr (.inr h))))
     clear hw6
     have HR6 := Lib.hid HR6
     have RW6 := Lib.hid RW6
     have hF6 := Lib.hid hF6
     have hCo := Lib.hid hCo
     have hKlt := Lib.hid hKlt
     have hAo := Lib.hid hAo
     have hTo := Lib.hid hTo
     gi_wp2_with fail
     refine range_outer (n := 3) (gf := 208) (lb := #[.pointer (some ⟨w5.heap.size, 0, none⟩), .pointer (some ⟨w5.heap.size + 1, 0, none⟩), .pointer (some ⟨w5.heap.size + 1 + 1, 0, none⟩)]) rfl (enters_of Tryz.func208 (by kernel_rfl) rfl)
      (IH.out nx HNL.out HNB.out (v + 1) (by have := HV.out; omega) w5.heap.size (w5.heap.size + 1) (w5.heap.size + 1 + 1) A cA (some ⟨gA, 0, none⟩) c1 (some ⟨bT, oT, none⟩) cT w6 RW6.out) ?hK C' ?hC
      (fun pre' C1 w => RF (KR bp bv bt es A C (some ⟨bT, oT, none⟩)) l J W (pre ++ pre') C1 ds w6.heap.size w)
      (fun cd pre' C1 w => cd = .ret ∧ Jx (pre ++ pre') C1 w ∧ MarksAt ds w ∧ (∀ D, ({ target := .collected D, args := #[] } : Deferred) ∈ ds → W.heap.size < D ∧ D < w6.heap.size ∧ ¬ C1 D) ∧ w6.heap.size ≤ w.heap.size) ?hI ?hIx ?h0 ?hps ?round ?done ?stop
     case hK => exact fun kk hk => hKlt.out kk hk
     case hC =>
      intro kk hk
      obtain ⟨h1, h2, _⟩ := hCo.out kk hk
      refine ⟨by omega, ?_⟩
      rintro (e | e | e | ⟨hn, e⟩ | ⟨ad, e, e'⟩ | e)
      ·omega
      ·omega
      ·omega
      ·exact h2 (hAo.out kk e hn)
      ·injection e with e; subst e; dsimp only at e'; omega
      ·exact h2 (hTo.out kk e)
     case hI => intro pre' C1 wa wb h hst; exact h.stays HJ.out (Nat.le_refl _) hst
     case hIx =>
      rintro cd pre' C1 wa wb ⟨rfl, hj, hm, hd, hsz⟩ hst
      have := hF6.out.sz
      refine ⟨rfl, HJX.out _ _ _ _ hj (hst.mono fun k _ hk => hk.imp id fun hk => ⟨by omega, hk.2⟩), hm.keep fun D hD => hst.block D (by have := hd D hD; omega) (.inr ⟨(hd D hD).2.1, id⟩), hd, Nat.le_trans hsz hst.size⟩
     case h0 => simpa using hF6.out
     case hps => rintro x' args O W' ⟨A', c', rfl, _⟩; rfl
     case round =>
      intro l2 pre' x' args C1 O w7 hpre hI1 hl2 hC1 hO harg hl7 hnC hnO T hT
      obtain ⟨A8, c8, rfl, hown8, hO8⟩ := harg
      gi_wp2
      refine hT _ _ (Only.refl _ _) ?_
      intro w8 h8 hr8
      have hF8 := hI1.stays HJ.out (Nat.le_refl _) (Stays.of_only h8 (fun k _ hk => by subst hk; exact ⟨hnC, .inl (by omega)⟩))
      obtain ⟨fn, tmps, assign, body, hy, hR⟩ := HY.out (pre ++ pre') x' C1 w8 #[.slice A8 x'.length c8] O
       (by rw [HSP.out, List.append_assoc]; obtain ⟨z, hz⟩ := hpre; exact ⟨z ++ remR (recP n es q) top n f cs (k + 1), by rw [← hz]; simp⟩) hF8.j (by have := hF8.sz; have := hF8.szw; omega)
       (fun k hk => Nat.lt_of_lt_of_le (hC1 k hk) h8.size) (fun k hk => ⟨(hO k hk).1, Nat.lt_of_lt_of_le (hO k hk).2.1 h8.size, by have := (hO k hk).2.2; have := hF6.out.sz; omega⟩)
       ⟨A8, c8, rfl, hown8.only h8 (fun k hk e => hnO (e ▸ hO8 k hk)), hO8⟩
      have e5 := hF8.yb.cell 0
      gi_wp2_with fail
      refine (roundIn_in hR).mono ?_
      rintro e w9 ⟨C9, b9, ho9, hg9, rfl, hj9, hx9⟩
      have hO9 : ∀ k, O k → w6.heap.size ≤ k ∧ k < w8.heap.size := fun k hk => ⟨(hO k hk).2.2, Nat.lt_of_lt_of_le (hO k hk).2.1 h8.size⟩
      cases b9
      ·have hjx := hx9 rfl
       rw [List.append_assoc] at hjx
       clear hx9 hj9
       gi_wp2
       refine ⟨C9, ho9, hg9, rfl, hjx, ?_, ?_, ?_⟩
       ·exact hF8.mks.keep fun D hD => by
         have := hF8.md D hD
         exact ho9.block D (by have := hF8.szw; omega) (fun h => h.elim this.2.2 fun h => by have := (hO9 D h).1; omega)
       ·intro D hD
        have := hF8.md D hD
        refine ⟨this.1, this.2.1, fun hc => ?_⟩
        rcases hg9 D hc with q | q | q
        ·exact this.2.2 q
        ·have := (hO9 D q).1; omega
        ·have := hF8.szw; omega
       ·exact Nat.le_trans hF8.szw ho9.size
      ·have h9 := hF8.round ho9 hg9 hO9 (hj9 rfl)
       rw [List.append_assoc] at h9
       clear hx9 hj9
       gi_wp2
       exact ⟨C9, ho9, hg9, h9⟩
     case done =>
      intro C1 w9 hF9 hnD hD
      gi_wp2_with fail
      have hDl : w6.heap.size < w9.heap.size := (Array.getElem?_eq_some_iff.1 hD).1
      refine ⟨⟨k + 1, pre ++ enumR (recP n es q) top n f nx, C1, _, w9.heap.size, _, _, _, _, _, _, _, _, _, _, _, _, _, _, _, _, _, _, _, _, _, _, _, _, _, _, _, _, _, ?_, ?_, rfl⟩, ?_⟩
      ·have h1 := hF9.raise (B' := w9.heap.size) (by omega) (Nat.le_refl _)
       refine { h1 with mks := ⟨w6.heap.size, rfl, hD, ?_, hF9.mks⟩, md := ?_ }
       ·intro d' hd' e
        subst e
        have := (hF9.md _ hd').2.1
        omega
       ·intro D hDd
        rcases List.mem_cons.1 hDd with e | e
        ·obtain rfl : D = w6.heap.size := by injection e with e; injection e
         exact ⟨hF9.sz, hDl, hnD⟩
        ·exact ⟨(h1.md D e).1, (h1.md D e).2.1, (h1.md D e).2.2⟩
      ·rw [Hid, HSP.out, List.append_assoc]
      ·simp [intOf]; omega
     case stop =>
      rintro cd pre' C1 w9 hp ⟨rfl, hjx, hmk, hmd, hsz9⟩ hnD hD
      gi_wp2
      refine end_marks _ _ ⟨w6.heap.size, rfl, hD, ?_, hmk⟩ fun w' ho => ⟨_, results_none rfl _ _ _, ⟨_, rfl⟩, C1, .inr ⟨pre ++ pre', ?_, ?_⟩⟩
      ·intro d' hd' e
       subst e
       have := (hmd _ hd').2.1
       omega
      ·rw [HSP.out]
       obtain ⟨z, hz⟩ := hp
       exact ⟨z ++ remR (recP n es q) top n f cs (k + 1), by rw [← hz]; simp⟩
      ·refine HJX.out _ _ _ _ hjx (Stays.of_only ho fun k _ hk => ?_)
       rcases List.mem_cons.1 hk with e | e
       ·obtain rfl : k = w6.heap.size := by injection e with e; injection e
        exact ⟨hnD, .inl (by have := hF6.out.sz; omega)⟩
       ·exact ⟨(hmd k e).2.2, .inl (by have := (hmd k e).1; omega)⟩
   ·have hki : ¬ (k : Int) < (tn : Int) + 1 := by omega
    gi_wp2_with fail
    refine end_marks ds _ HRF.out.mks fun w' ho => ⟨_, results_none rfl _ _ _, ⟨_, rfl⟩, C', .inl ?_⟩
    have e : xs = pre := by rw [HS.out, HXE.out k (by omega), List.append_nil]
    rw [e]
    exact HJ.out _ _ _ _ HRF.out.j (Stays.of_only ho fun k _ hk => ⟨(HRF.out.md k hk).2.2, .inl (by have := (HRF.out.md k hk).1; omega)⟩)
theorem recs_iter (n q : Nat) (es : List E3) (top : List Int) (hF : RFix n q es top) (f : Nat) : ∀ (cs : List Int) (_ : cs.length = n) (_ : ∀ x ∈ cs, -1048576 ≤ x ∧ x ≤ 1048577) (v : Nat) (_ : v + f = n) (bp bv bt : Nat) (A : Option Addr) (cA : Nat) (C : Option Addr) (cC : Nat) (T : Option Addr) (cT : Nat) (W0 : World)
   (_ : RecW W0 n q v bp bv bt es A cA C cC T cT cs top),
   Iter Tryz.prog 208 #[.pointer (some ⟨bp, 0, none⟩), .pointer (some ⟨bv, 0, none⟩), .pointer (some ⟨bt, 0, none⟩)] ArgD (KR bp bv bt es A C T) (fun _ => False) (enumR (recP n es q) top n f cs) W0 := by
 induction f with
 | zero =>
   intro cs h1 h2 v hv bp bv bt A cA C cC T cT W0 hW
   obtain rfl : v = n := by omega
   exact recs_iter0 v q es top hF cs h1 h2 bp bv bt A cA C cC T cT W0 hW
 | succ f ih => exact fun cs h1 h2 v hv bp bv bt A cA C cC T cT W0 hW => recs_iterS n q es top hF f ih cs h1 h2 v hv bp bv bt A cA C cC T cT W0 hW
end Go.Proofs.YtnbikkcalcpedaaGreatDoor
namespace Go.Proofs.YtnbikkcalcpedaaGreatDoor
open Go.RowKit Go.Shelf
attribute [local go_sem] Oper.semAt_some
structure FA where
 bg : Nat
 by_ : Nat
 bc : Nat
 bq : Nat
 bf : Nat
 gc : Nat
 A : Option Addr
 cA : Nat
section
variable {W W' : World} {n q l : Nat} {es : List E3} {a : FA} {cs : List Int}
end
end Go.Proofs.YtnbikkcalcpedaaGreatDoor
namespace Go.Proofs.YtnbikkcalcpedaaGreatDoor
open Go.RowKit
def confFE (n : Int) (es : List E3) (q : Int) (xs : List Int) : List Int × Int := if grownErr n es q xs = 0 then (confN (endsL es) n.toNat q.toNat (xs.map Int.toNat), 0) else ([], grownErr n es q xs)
theorem nI_toNat (t : List Nat) : (nI t).map Int.toNat = t := by
 unfold nI; rw [List.map_map]
 exact (List.map_congr_left fun x _ => by simp).trans (List.map_id t)
theorem tree_join {n : Int} {es : List E3} {xs : List Int} (h : treeErr n es xs = 0) : joinErr n es = 0 := by
 obtain ⟨_, _, _, _, _, _, _, _, _, hj⟩ := tree_zero h
 exact hj
theorem grown_nat {n : Int} {es : List E3} {q : Int} {xs : List Int} (h : grownErr n es q xs = 0) : ∃ (m p : Nat) (t : List Nat), n = m ∧ q = p ∧ xs = nI t ∧ p < m ∧ m ≤ 12 ∧ TreeR m es t ∧ treeErr n es xs = 0 := by
 unfold grownErr at h
 by_cases h1 : treeErr n es xs = 0
 ·rw [if_neg (fun hc => hc h1)] at h
  by_cases h2 : q < 0 ∨ n ≤ q
  ·rw [if_pos h2] at h; cases h
  ·rw [not_or] at h2
   obtain ⟨m, t, rfl, rfl, hR⟩ := treeR_of h1
   obtain ⟨p, rfl⟩ := Int.eq_ofNat_of_zero_le (show 0 ≤ q by omega)
   exact ⟨m, p, t, rfl, rfl, rfl, by omega, hR.hi, hR, h1⟩
 ·rw [if_pos h1] at h; exact absurd h h1
theorem grown_ok (m p : Nat) (A : Option Addr) (c : Nat) (es : List E3) (hlen : es.length ≤ 10000) (hm : (endsL es).length ≤ 60) (B : Option Addr) (d : Nat) (t : List Nat) (hp : p < m) (hR : TreeR m es t) (hck : checkG m es = 0) (hz : treeErr m es (nI t) = 0) (w : World) (h : Reads w w.heap.size 3 A es.length (edgeCells es)) (h' : Reads w w.heap.size 1 B t.length (ints (nI t))) :
  Calls Tryz.prog 199 #[.agg #[.int .i64 m, .slice A es.length c], .int .i64 p, .slice B t.length d] w fun e w' => ∃ b, e = .returned (.tuple #[.pointer (some ⟨b, 0, none⟩), .int .i64 0]) ∧ Hid (FireOut w w' b m (endsL es) (fireB (endsL es) m p t)) ∧ Below w.heap.size w w' := by
 have hE := hR.hT.bd
 have hm12 := hR.hi
 have htl : t.length ≤ 12 := hR.len
 have TC : Hid (∀ W, Below w.heap.size w W → Calls Tryz.prog 70 #[.agg #[.int .i64 m, .slice A es.length c], .slice B t.length d] W fun e w' => e = .returned (.int .i64 0) ∧ Below W.heap.size W w') := by
  intro W hB
  have h6 := (h'.below hB).more hB.size
  have := tcheck_any m A c es hlen B d (nI t) (by rw [nI_length]; omega) W ((h.below hB).more hB.size) (by rw [nI_length]; exact h6)
  rw [nI_length, hz] at this
  exact this
 have LI : Hid (∀ W, Below w.heap.size w W → Calls Tryz.prog 256 #[.agg #[.int .i64 m, .slice A es.length c], .int .i64 p, .func (.func 257) #[.slice B t.length d] #[]] W fun e w' => ∃ b, e = .returned (.pointer (some ⟨b, 0, none⟩)) ∧ Hid (FireOut w w' b m (endsL es) (fireB (endsL es) m p t)) ∧ Below W.heap.size W w') := by
  intro W hB
  refine (lit_any m p 257 (.slice B t.length d) (ltB t) A c es hm12 hp hlen hck hm hE W ((h.below hB).more hB.size) (enters_of (P := Tryz.prog) Tryz.func257 (by kernel_rfl) rfl) (fun W' x e k hW' hx _ => ?_)).mono ?_
  ·have h6 := (h'.below (hB.trans (hW'.mono hB.size))).more (hB.trans (hW'.mono hB.size)).size
   exact blights_any B d t (by omega) x e k W' h6
  ·rintro e w' ⟨b, rfl, HF, hb⟩
   obtain ⟨a, T, base, f, p', so, z1, z2⟩ := HF.out
   have hfi : FI (endsL es) m p (fireB (endsL es) m p t) := (FI.run (lit := ltB t) hE hp).1
   refine ⟨b, rfl, ?_, hb⟩
   have := asc_of hfi.tnd (fun e he => hfi.lt e (hfi.tsub e he)) p' so
   rw [this] at f
   exact ⟨_, a, base, f, Nat.le_trans hB.size z1, z2⟩
 have g0 := Blk.new w 24 #[.int .i64 m, .slice A es.length c]
 have hB0 : Below w.heap.size w (w.alloc (.cells #[.int .i64 m, .slice A es.length c] 24)) := (Below.refl _ _).alloc (Nat.le_refl _) _
 have c0 := g0.cell 0
 have c1 := g0.cell 1
 have hp1 : (p : Int) < (m : Int) := by omega
 have hp0 : (0 : Int) ≤ (p : Int) := by omega
 have hp2 : decide ((p : Int) ≥ (m : Int)) = false := decide_eq_false (by omega)
 obtain ⟨S, hS⟩ : ∃ S, fireB (endsL es) m p t = S := ⟨_, rfl⟩
 rw [hS] at LI ⊢
 clear hz hck hE h h' hm hR htl hS
 go_enter Tryz.func199, Tryz.ntmps199
 go_wp2_with fail
 refine (TC.out _ hB0).mono ?_
 rintro e w1 ⟨rfl, hb1⟩
 have hB1 := hB0.trans (hb1.mono hB0.size)
 have g1 := g0.next hb1
 have k0 := g1.cell 0
 have k1 := g1.cell 1
 clear c0 c1
 go_wp2_with fail
 refine (LI.out _ hB1).mono ?_
 rintro e w2 ⟨b, rfl, HF, hb2⟩
 have hB2 := hB1.trans (hb2.mono hB1.size)
 go_wp2
 go_ret2
 exact ⟨b, rfl, HF, hB2⟩
theorem grown_bad (n q : Int) (A : Option Addr) (c : Nat) (es : List E3) (hlen : es.length ≤ 10000) (B : Option Addr) (d : Nat) (xs : List Int) (hm : xs.length ≤ 1048576) (z : Int) (hcz : grownErr n es q xs = z) (hz : z ≠ 0) (w : World) (h : Reads w w.heap.size 3 A es.length (edgeCells es)) (h' : Reads w w.heap.size 1 B xs.length (ints xs)) :
  Calls Tryz.prog 199 #[.agg #[.int .i64 n, .slice A es.length c], .int .i64 q, .slice B xs.length d] w fun e w' => e = .returned (.tuple #[.pointer none, .int .i64 z]) ∧ Below w.heap.size w w' := by
 have TC := Lib.hid (fun (W : World) (hB : Below w.heap.size w W) => tcheck_any n A c es hlen B d xs hm W ((h.below hB).more hB.size) ((h'.below hB).more hB.size))
 have g0 := Blk.new w 24 #[.int .i64 n, .slice A es.length c]
 have hB0 : Below w.heap.size w (w.alloc (.cells #[.int .i64 n, .slice A es.length c] 24)) := (Below.refl _ _).alloc (Nat.le_refl _) _
 have c0 := g0.cell 0
 have c1 := g0.cell 1
 unfold grownErr at hcz
 obtain ⟨x, hr⟩ : ∃ p, treeErr n es xs = p := ⟨_, rfl⟩
 rw [hr] at TC hcz
 clear hr h h'
 by_cases hx : x = 0
 ·subst hx
  rw [if_neg (by simp)] at hcz
  by_cases h2 : q < 0 ∨ n ≤ q
  ·rw [if_pos h2] at hcz
   subst hcz
   clear hz
   have hrest : ∀ w1, Below w.heap.size w w1 → w1.cell? ⟨w.heap.size, 0, none⟩ = some (.int .i64 n) → True := fun _ _ _ => trivial
   by_cases h3 : q < 0
   ·go_enter Tryz.func199, Tryz.ntmps199
    go_wp2_with fail
    refine (TC.out _ hB0).mono ?_
    rintro e w1 ⟨rfl, hb1⟩
    have hB1 := hB0.trans (hb1.mono hB0.size)
    have g1 := g0.next hb1
    have k0 := g1.cell 0
    clear c0 c1 hrest
    go_wp2
    go_ret2
    exact ⟨rfl, hB1⟩
   ·have h4 : n ≤ q := by omega
    have h5 : decide (q ≥ n) = true := decide_eq_true h4
    go_enter Tryz.func199, Tryz.ntmps199
    go_wp2_with fail
    refine (TC.out _ hB0).mono ?_
    rintro e w1 ⟨rfl, hb1⟩
    have hB1 := hB0.trans (hb1.mono hB0.size)
    have g1 := g0.next hb1
    have k0 := g1.cell 0
    clear c0 c1 hrest
    go_wp2
    go_ret2
    exact ⟨rfl, hB1⟩
  ·rw [if_neg h2] at hcz; exact absurd hcz.symm hz
 ·rw [if_pos hx] at hcz
  subst hcz
  have hxb : (x != 0) = true := by simpa using hx
  clear hx hz
  go_enter Tryz.func199, Tryz.ntmps199
  go_wp2_with fail
  refine (TC.out _ hB0).mono ?_
  rintro e w1 ⟨rfl, hb1⟩
  have hB1 := hB0.trans (hb1.mono hB0.size)
  go_wp2
  go_ret2
  exact ⟨rfl, hB1⟩
theorem config30_any (n q : Int) (A : Option Addr) (c : Nat) (es : List E3) (hlen : es.length ≤ 10000) (hm0 : checkG n es = 0 → (endsL es).length ≤ 60) (B : Option Addr) (d : Nat) (xs : List Int) (hl : xs.length ≤ 1048576) (w : World) (h : Reads w w.heap.size 3 A es.length (edgeCells es)) (h' : Reads w w.heap.size 1 B xs.length (ints xs)) :
  Calls Tryz.prog 144 #[.agg #[.int .i64 n, .slice A es.length c], .int .i64 q, .slice B xs.length d] w fun e w' => ∃ A' c', e = .returned (.tuple #[.slice A' (confFE n es q xs).1.length c', .int .i64 (confFE n es q xs).2]) ∧ OwnI w' w.heap.size A' c' (confFE n es q xs).1 ∧ Below w.heap.size w w' := by
 have g0 := Blk.new w 24 #[.int .i64 n, .slice A es.length c]
 have hB0 : Below w.heap.size w (w.alloc (.cells #[.int .i64 n, .slice A es.length c] 24)) := (Below.refl _ _).alloc (Nat.le_refl _) _
 have c0 := g0.cell 0
 have c1 := g0.cell 1
 by_cases hz : grownErr n es q xs = 0
 ·obtain ⟨m, p, t, rfl, rfl, rfl, hp, hm12, hR, hte⟩ := grown_nat hz
  have hck : checkG m es = 0 := (join_zero (tree_join hte)).1
  have hm := hm0 hck
  rw [nI_length] at h' hl ⊢
  have CO := Lib.hid (fun (W : World) (hB : Below w.heap.size w W) => grown_ok m p A c es hlen hm B d t hp hR hck hte W ((h.below hB).more hB.size) ((h'.below hB).more hB.size))
  have hE : confFE m es p (nI t) = (confN (endsL es) m p t, 0) := by unfold confFE; rw [if_pos hz, nI_toNat]; rfl
  rw [hE]
  dsimp only
  have hcl : (confN (endsL es) m p t).length = m := (conf_facts hR.hT.bd hp t).1
  obtain ⟨S, hS⟩ : ∃ S, fireB (endsL es) m p t = S := ⟨_, rfl⟩
  have hC : confN (endsL es) m p t = S.times := by rw [← hS]; rfl
  rw [hS] at CO
  rw [hC] at hcl ⊢
  rw [hcl]
  have HCL := Lib.hid hcl
  clear hE hS hz h h' hm hC hcl hR hte hck hl
  go_enter Tryz.func144, Tryz.ntmps144
  go_wp2_with fail
  refine (CO.out _ hB0).mono ?_
  rintro e w1 ⟨b, rfl, HF, hb1⟩
  have hB1 := hB0.trans (hb1.mono hB0.size)
  obtain ⟨lv, a, base, f, z1, z2⟩ := HF.out
  have k4 : w1.cell? ⟨b, 3, none⟩ = some (.slice (some ⟨a.gT, 0, none⟩) m m) := f.blk.cell 3
  have R2 : Hid (OwnI w1 w.heap.size (some ⟨a.gT, 0, none⟩) m S.times) := f.times.mono (Nat.le_trans hB0.size z1)
  clear f HF
  go_wp2
  go_ret2
  exact ⟨_, _, rfl, R2.out, hB1⟩
 ·have hE : confFE n es q xs = ([], grownErr n es q xs) := by unfold confFE; rw [if_neg hz]
  have CO := Lib.hid (fun (W : World) (hB : Below w.heap.size w W) => grown_bad n q A c es hlen B d xs hl _ rfl hz W ((h.below hB).more hB.size) ((h'.below hB).more hB.size))
  rw [hE]
  dsimp only
  obtain ⟨z, hzz⟩ : ∃ z, grownErr n es q xs = z := ⟨_, rfl⟩
  rw [hzz] at CO hz ⊢
  have hzb : (z != 0) = true := by simpa using hz
  clear hE hzz hz h h' hm0
  go_enter Tryz.func144, Tryz.ntmps144
  go_wp2_with fail
  refine (CO.out _ hB0).mono ?_
  rintro e w1 ⟨rfl, hb1⟩
  have hB1 := hB0.trans (hb1.mono hB0.size)
  go_wp2
  go_ret2
  exact ⟨_, _, rfl, OwnI.nil_ _ _, hB1⟩
end Go.Proofs.YtnbikkcalcpedaaGreatDoor
