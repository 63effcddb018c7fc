/-
 Texts of this claim, put together: FireB, Burn.
-/
import Derived.Test.YtnbikkcalcpedaaGreatDoorK26
import Derived.Test.YtnbikkcalcpedaaGreatDoorK15
import Derived.Test.YtnbikkcalcpedaaGreatDoorK13
import Derived.Test.YtnbikkcalcpedaaGreatDoorK27
import Derived.Test.YtnbikkcalcpedaaGreatDoorK08
set_option maxRecDepth 100000
set_option maxHeartbeats 16000000
namespace Go.Proofs.YtnbikkcalcpedaaGreatDoor
open Go.RowKit
theorem FireW.sorted {w w' : World} {base b n : Nat} {E : List (Nat × Nat)} {lv : Value} {a : FireA} {s : FireS} {H : List Int} {T : List Nat} (h : FireW w base b E n lv a s H) (hs : base ≤ w.heap.size) (hT : T.length = s.tree.length) (hO : OwnI w' base a.AD a.cD (nI T)) (hW : Only (blockOf a.AD) w w') : FireW w' base b E n lv a { s with tree := T } H := by
 have keepI : ∀ {A : Option Addr} {c : Nat} {xs : List Int}, OwnI w base A c xs → Dj A a.AD → OwnI w' base A c xs := fun {A c xs} ho hd => own_kept ho fun k hk => hW.block k (own_ltI ho k hk) (hd k hk)
 have hnb : ¬ blockOf a.AD b := fun hk => own_neB h.tree h.blk (by decide) b hk rfl
 have hng : ¬ blockOf a.AD a.gB := fun hk => own_neB h.tree h.burnt (by decide) _ hk rfl
 have hbel : Below base w w' := hW.below (fun k hk hc => by have := own_geI h.tree k hc; omega) hs
 refine { h with blk := ?_, ends := h.ends.below hbel, burnt := (hW.block a.gB h.burnt.lt hng).trans h.burnt, times := keepI h.times h.tD, tlen := h.tlen, steps := keepI h.steps h.sD, order := keepI h.order h.oD, tree := hO, next := keepI h.next h.dH.symm }
 have e : fireC E n lv a { s with tree := T } H = fireC E n lv a s H := by simp [fireC, hT]
 rw [e]
 exact (hW.block b h.blk.lt hnb).trans h.blk
theorem nI_sorted {T : List Nat} {xs : List Int} (h : xs.Perm (nI T)) : ∃ U : List Nat, xs = nI U ∧ U.Perm T := by
 refine ⟨xs.map Int.toNat, ?_, ?_⟩
 ·have : ∀ x ∈ xs, ((x.toNat : Nat) : Int) = x := fun x hx => by
   obtain ⟨u, _, rfl⟩ := List.mem_map.1 (h.mem_iff.1 hx)
   simp
  unfold nI
  rw [List.map_map]
  exact (List.map_id xs).symm.trans (List.map_congr_left fun x hx => (this x hx).symm)
 ·have h2 := h.map Int.toNat
  have : (nI T).map Int.toNat = T := by
   unfold nI; rw [List.map_map]
   exact (List.map_congr_left fun x _ => by simp).trans (List.map_id T)
  rw [this] at h2; exact h2
theorem fburn_any (base b n q F : Nat) (y : Value) (lit : Nat → Nat → Int → Bool) (E : List (Nat × Nat)) (a : FireA) (hn : n ≤ 12) (hq : q < n) (hE : BdP n E) (hEl : E.length ≤ 60) (w : World) (hF : FireW w base b E n (.func (.func F) #[y] #[]) a (fire0 n) []) (hs : base ≤ w.heap.size)
  (eg : ∀ args w, (callFunc F args).run Tryz.prog w = .ok (.enter F args) w) (hL : ∀ W x e t, Below base w W → x < n → e < E.length → Calls Tryz.prog F #[y, .int .i64 (x : Int), .int .i64 (e : Int), .int .i64 t] W fun r w' => r = .returned (.bool (lit x e t)) ∧ W = w') :
  Calls Tryz.prog 299 #[.pointer (some ⟨b, 0, none⟩), .int .i64 q] w fun e w' => e = .returned (.tuple #[]) ∧ Hid (∃ a' T, FireW w' base b E n (.func (.func F) #[y] #[]) a' { runF E lit E.length (fire1 n q) with tree := T } [] ∧ T.Perm (runF E lit E.length (fire1 n q)).tree ∧ T.Pairwise (· ≤ ·) ∧ Below base w w') := by
 have TC := Lib.hid (take_any base b n q E _ a (fire0 n) [] hn hq hE (by omega) (by simp) (by simp [fire0]) (by intro i h1 h2; simp at h2) w hF hs)
 have HL := Lib.hid hL
 have HEB := Lib.hid hE
 clear hF hL hE
 go_enter Tryz.func299, Tryz.ntmps299
 go_wp2_with fail
 refine (TC.out).mono ?_
 rintro e w1 ⟨rfl, a1, H1, f1, p1, h1, B1⟩
 have F1 := Lib.hid f1
 have P1 := Lib.hid p1
 have H1H := Lib.hid h1
 have B1 := Lib.hid B1
 clear f1 p1 h1
 have BI1 : Hid (BurnI E lit n q (fire1 n q) H1) := burnI_start hq P1.out H1H.out
 go_wp2_with fail
 go_loopw [] (fun wr => Hid (base ≤ wr.heap.size) ∧ Hid (Below base w wr) ∧ Hid (∃ a' s H, FireW wr base b E n (.func (.func F) #[y] #[]) a' s H ∧ BurnI E lit n q s H)) (fun wr => lenAt wr b 7 + (n - lenAt wr b 5) * (E.length + 1))
 case atStart => exact ⟨Nat.le_trans hs B1.out.size, B1.out, a1, fire1 n q, H1, F1.out, BI1.out⟩
 case round =>
  obtain ⟨HZ, HW, HI⟩ := hrel
  obtain ⟨a2, s, H, f2, bi⟩ := HI.out
  have hb7 : wr.cell? ⟨b, 7, none⟩ = some (.slice a2.AH H.length a2.cH) := f2.blk.cell 7
  have FW := Lib.hid f2
  have BI := Lib.hid bi
  clear f2 bi HI
  rcases Nat.eq_zero_or_pos H.length with h0 | h0
  ·rw [h0] at hb7
   have H0 := Lib.hid h0
   clear h0
   have hb6 : wr.cell? ⟨b, 6, none⟩ = some (.slice a2.AD s.tree.length a2.cD) := FW.out.blk.cell 6
   have hfi := BI.out.fi HEB.out hq
   have htl : s.tree.length ≤ 12 := by
    have h1 := hfi.onum
    have h2 := nodup_sub_le hfi.ond (m := List.range n) (fun x hx => List.mem_range.2 (hfi.olt x hx))
    rw [List.length_range] at h2; omega
   have SC : Hid (Calls Tryz.prog 135 #[.slice a2.AD s.tree.length a2.cD] wr fun e w' => e = .returned (.tuple #[]) ∧ OwnI w' base a2.AD a2.cD (sortG ltI (nI s.tree)) ∧ Only (blockOf a2.AD) wr w') := by
    have := sortS_any a2.AD a2.cD (nI s.tree) (by rw [nI_length]; exact htl) wr base FW.out.tree
    rw [nI_length] at this
    exact this
   clear hfi htl
   go_wp2_with fail
   refine (qlen_any _ 0 _ _).mono ?_
   rintro e w5 ⟨rfl, rfl⟩
   go_wp2_with fail
   refine (SC.out).mono ?_
   rintro e w6 ⟨rfl, o6, W6⟩
   have HF : Hid (∃ a' T, FireW w6 base b E n (.func (.func F) #[y] #[]) a' { runF E lit E.length (fire1 n q) with tree := T } [] ∧ T.Perm (runF E lit E.length (fire1 n q)).tree ∧ T.Pairwise (· ≤ ·) ∧ Below base w w6) := by
    have hH := List.eq_nil_of_length_eq_zero H0.out
    subst hH
    obtain ⟨U, hU, hp⟩ := nI_sorted (sortG_perm (lt := ltI) (nI s.tree))
    rw [hU] at o6
    refine ⟨a2, U, ?_, ?_, ?_, HW.out.trans (W6.below (fun k hk hc => by have := own_geI FW.out.tree k hc; omega) HZ.out)⟩
    ·rw [BI.out.done]
     exact FW.out.sorted HZ.out hp.length_eq o6 W6
    ·rw [BI.out.done]; exact hp
    ·have h3 := sortG_sorted ltI_tr ltI_as (nI s.tree)
     rw [hU, nI, List.pairwise_map] at h3
     exact h3.imp fun h => by simp [ltI] at h; omega
   go_wp2
   exact bodyPost_end (results_none rfl _ _ _) rfl ⟨rfl, HF⟩
  ·obtain ⟨m, hm⟩ : ∃ m, H.length = m + 1 := ⟨H.length - 1, by omega⟩
   rw [hm] at hb7
   have HM := Lib.hid hm
   clear h0 hm
   have hml : m ≤ 60 := by
    obtain ⟨L, hp, hw⟩ := BI.out.wait
    have h1 := hp.length_eq
    have h2 := HM.out
    have h3 := nodup_sub_le hw.nodup (m := List.range E.length) (fun x hx => List.mem_range.2 (hw.lt x hx))
    rw [nI_length] at h1
    rw [List.length_range] at h3
    omega
   have PC := Lib.hid (hpop_any b 7 base 242 (by decide) _ a2.AH a2.cH H m HM.out (by omega) (by have := BI.out.heap; rw [HM.out] at this; exact this) wr FW.out.next FW.out.blk (by rw [← HM.out]; simp [fireC]))
   go_wp2_with fail
   refine (qlen_any _ (m + 1) _ _).mono ?_
   rintro e w5 ⟨rfl, rfl⟩
   have hpos : decide (((m + 1 : Nat) : Int) > 0) = true := decide_eq_true (by omega)
   go_wp2_with fail
   refine (PC.out).mono ?_
   rintro e w6 ⟨x, H6, rfl, l6, p6, min6, h6, o6, b6, W6⟩
   rw [← l6] at b6 h6
   have f6 := FW.out.queue o6 b6 W6 (fun k hk => .inl hk) HZ.out
   have HW6 : Hid (Below base wr w6) := W6.below (fun j hj hc => by
    rcases hc with hc | hc
    ·have := own_geI FW.out.next j hc; omega
    ·have := FW.out.hb; omega) HZ.out
   have hx : ∃ L e, x = ((e : Nat) : Int) ∧ e ∈ L ∧ H.Perm (nI L) ∧ Wait E s L := by
    obtain ⟨L, hp, hw⟩ := BI.out.wait
    have h1 : x ∈ nI L := (hp.mem_iff).1 (p6.mem_iff.1 List.mem_cons_self)
    obtain ⟨e, he, hxe⟩ := List.mem_map.1 h1
    exact ⟨L, e, hxe.symm, he, hp, hw⟩
   obtain ⟨L, e, rfl, heL, hpL, hwL⟩ := hx
   have F6 := Lib.hid f6
   have L6 := Lib.hid l6
   have P6 := Lib.hid p6
   have M6 := Lib.hid min6
   have H6H := Lib.hid h6
   have HEL := Lib.hid heL
   have HPL := Lib.hid hpL
   have HWL := Lib.hid hwL
   have hta := fun w => assert_int (e : Int) w
   have hel : e < E.length := hwL.lt e heL
   obtain ⟨⟨x0, x1⟩, hp⟩ : ∃ p, E.getD e (0, 0) = p := ⟨_, rfl⟩
   have hab := getD_bd HEB.out hel
   obtain ⟨bA, oA, hA, hbA, q0, q1⟩ := f6.ends.pairAt (getD_some hel)
   have hb0 : w6.cell? ⟨b, 0, none⟩ = some (.slice (some ⟨bA, oA, none⟩) E.length a2.cE) := by rw [← hA]; exact f6.blk.cell 0
   have hb2 : w6.cell? ⟨b, 2, none⟩ = some (.slice (some ⟨a2.gB, 0, none⟩) n n) := f6.blk.cell 2
   rw [hp] at hab q0 q1
   dsimp only at hab q0 q1
   obtain ⟨i0, i1⟩ := hab
   have c0 := (f6.burnt.cell x0).trans (bntL_at (order := s.order) i0)
   have c1 := (f6.burnt.cell x1).trans (bntL_at (order := s.order) i1)
   have HPE := Lib.hid hp
   have HA := Lib.hid hA
   have heli : (e : Int) < (E.length : Int) := by omega
   have hi0 : (x0 : Int) < (n : Int) := by omega
   have hi1 : (x1 : Int) < (n : Int) := by omega
   clear f6 p6 min6 h6 heL hpL hwL o6 b6 W6 l6 hb7 hp hA
   by_cases m0 : x0 ∈ s.order
   ·rw [decide_eq_true m0] at c0
    by_cases m1 : x1 ∈ s.order
    ·rw [decide_eq_true m1] at c1
     have M0 := Lib.hid m0
     have M1 := Lib.hid m1
     clear m0 m1
     go_wp2_with fail
     have hc : candB E s e = false := by unfold candB; rw [HPE.out, decide_eq_true M0.out, decide_eq_true M1.out]; simp
     refine ⟨⟨Nat.le_trans HZ.out HW6.out.size, HW.out.trans (HW6.out), _, s, H6, F6.out, BI.out.stale HPL.out HWL.out HEL.out P6.out H6H.out hc⟩, ?_⟩
     rw [F6.out.lenH, F6.out.lenO, FW.out.lenH, FW.out.lenO, HM.out, L6.out]
     omega
    ·rw [decide_eq_false m1] at c1
     have MV := Lib.hid m1
     have hc : candB E s e = true := by unfold candB; rw [HPE.out, decide_eq_true m0, decide_eq_false m1]; simp [HWL.out.new e HEL.out]
     have LV : Hid (leadV E s e = x1) := by unfold Hid leadV; rw [HPE.out, if_pos m0]
     have HC := Lib.hid hc
     clear m0 m1 hc
     have own0 := own_lenH F6.out.steps (nI_length s.steps)
     have hsl : s.steps.length ≤ 60 := Nat.le_trans (steps_len HWL.out.ok) hEl
     have kb4 : w6.cell? ⟨b, 4, none⟩ = some (.slice a2.AS s.steps.length a2.cS) := F6.out.blk.cell 4
     have hz6 : base ≤ w6.heap.size := Nat.le_trans HZ.out HW6.out.size
     have hrb := Reads.box w6 (.int .i64 (e : Int)) 3
     go_wp2_with (first | (at_builtin; refine append_go rfl (.tmp 55) (.tmp 57) _ rfl base 3 Tryz.underlying25 info_int rfl (by omega) a2.AS a2.cS s.steps.length (ints (nI s.steps)) rfl (World.ownsRow.alloc own0 _) (w6.heap.size + 1) [.int .i64 (e : Int)] rfl hrb (by simp [Value.oneCell']) (by omega) (by simp; omega) ?_; intro A7 c7 w7 hown7 hg7 hb7 hd7; have b7 : Blk w7 b 242 (fireC E n (.func (.func F) #[y] #[]) a2 s H6) := (hg7.block b (by have h1 := F6.out.blk.lt; simp; omega) (fun e => own_neB F6.out.steps F6.out.blk (by decide) b (blockOf_own.1 e.symm) rfl)).trans (F6.out.blk.alloc _); have fz7 := b7.frozen 4; have kc7 : w7.cell? ⟨b, 4, none⟩ = some (.slice a2.AS s.steps.length a2.cS) := b7.cell 4) | fail)
     have hA7 : ∀ k, blockOf A7 k → blockOf a2.AS k ∨ w6.heap.size ≤ k := by
      intro k hk
      have hk2 : (Value.slice A7 (s.steps.length + 1) c7).ownBlock = some k := blockOf_own.2 hk
      rcases hd7 with hd7 | hd7
      ·rw [hd7] at hk2; exact .inl (blockOf_own.1 hk2)
      ·rw [hd7] at hk2; injection hk2 with hk2; subst hk2; refine .inr ?_; simp
     have o7 : OwnI w7 base A7 c7 (nI (s.steps ++ [e])) := by
      unfold OwnI; rw [nI_length, List.length_append]
      have : ints (nI (s.steps ++ [e])) = ints (nI s.steps) ++ [.int .i64 (e : Int)] := by simp [nI, ints]
      rw [this]; exact hown7
     have F7 := Lib.hid (F6.out.step (x := s.steps.length) hg7 o7 hA7)
     obtain ⟨W7, hW7⟩ : ∃ W, (w7.setCell ⟨b, 4, none⟩ (.slice A7 (s.steps.length + 1) c7)) = W := ⟨_, rfl⟩
     rw [hW7] at F7
     have B7 : Hid (Below base w6 W7) := by rw [← hW7]; exact ((((Below.refl base w6).alloc hz6 (.cells #[.int .i64 (e : Int)] 3)).trans hb7).setCell (p := ⟨b, 4, none⟩) F6.out.hb _)
     have k71 : W7.cell? ⟨b, 1, none⟩ = some (.func (.func F) #[y] #[]) := F7.out.blk.cell 1
     have k73 : W7.cell? ⟨b, 3, none⟩ = some (.slice (some ⟨a2.gT, 0, none⟩) n n) := F7.out.blk.cell 3
     obtain ⟨tv, htv⟩ := get_of_lt (xs := s.times) (k := x1) (by have := F6.out.tlen; omega)
     have kt : W7.cell? ⟨a2.gT, x1, none⟩ = some (.int .i64 tv) := (F7.out.times.at_ (by show 0 < s.times.length; have := F6.out.tlen; omega)).2.2.2 x1 tv htv
     have ht0 : s.times.getD x1 0 = tv := by rw [List.getD_eq_getElem?_getD, htv]; rfl
     have htb : 0 ≤ tv ∧ tv ≤ 60 := by
      have hfi := BI.out.fi HEB.out hq
      have h1 := hfi.nn x1
      have h2 := hfi.cnt x1 i1 MV.out
      have h3 := List.length_filter_le (incB E x1) s.steps
      rw [ht0] at h1 h2
      omega
     obtain ⟨htb0, htb1⟩ := htb
     have LC0 : ∀ m, Calls Tryz.prog F #[y, .int .i64 (x1 : Int), .int .i64 (e : Int), .int .i64 tv] (W7.drewN m) fun r w' => r = .returned (.bool (lit x1 e tv)) ∧ W7.drewN m = w' := fun m => HL.out (W7.drewN m) x1 e tv (below_drewN ((HW.out.trans HW6.out).trans B7.out) m) i1 hel
     have HT0 := Lib.hid ht0
     clear hown7 hg7 hb7 hd7 b7 fz7 kc7 o7 hA7 own0 kb4 hrb htv ht0 c0 c1 hb0 hb2 q0 q1 hta
     try rw [hW7]
     clear hW7
     rcases hlt : lit x1 e tv with _ | _
     ·rw [hlt] at LC0
      have LC := Lib.hid LC0
      have BD := Lib.hid (BI.out.dark HEB.out hq HPL.out HWL.out HEL.out P6.out M6.out H6H.out HC.out LV.out (by rw [HT0.out]; exact hlt))
      clear LC0 hlt
      go_quiet ((exact Calls.quiet_of_same ((LC.out _).mono fun _ _ h => ⟨h.1, h.2.symm⟩)))
      have F8 := Lib.hid (F7.out.keep (w' := W7.drewN nq) (Nat.le_trans hz6 B7.out.size) (below_drewN (Below.refl _ _) nq))
      have k83 : (W7.drewN nq).cell? ⟨b, 3, none⟩ = some (.slice (some ⟨a2.gT, 0, none⟩) n n) := k73
      have kt8 : (W7.drewN nq).cell? ⟨a2.gT, x1, none⟩ = some (.int .i64 tv) := kt
      have fz8 : (W7.drewN nq).frozen? ⟨a2.gT, x1, none⟩ = false := (F8.out.times.at_ (by show 0 < s.times.length; have := F6.out.tlen; omega)).2.2.1 x1
      go_wp2_with fail
      have F9 := Lib.hid (F8.out.time x1 (tv + 1))
      have ZT : base ≤ a2.gT := own_geI F8.out.times _ ⟨_, rfl, rfl⟩
      refine ⟨⟨?_, ?_, _, _, _, F9.out, ?_⟩, ?_⟩
      ·show base ≤ ((W7.drewN nq).setCell _ _).heap.size
       simp only [World.setCell, Array.size_modify]
       exact Nat.le_trans hz6 B7.out.size
      ·exact (below_drewN ((HW.out.trans HW6.out).trans B7.out) nq).setCell (p := ⟨a2.gT, x1, none⟩) ZT _
      ·have := BD.out
       rw [HT0.out] at this
       exact this
      ·rw [F9.out.lenH, F9.out.lenO, FW.out.lenH, FW.out.lenO, HM.out, L6.out]
       show m + (n - s.order.length) * (E.length + 1) < _
       omega
     ·rw [hlt] at LC0
      have LC := Lib.hid LC0
      have HLT : Hid (lit x1 e (s.times.getD x1 0) = true) := by rw [HT0.out]; exact hlt
      clear LC0 hlt
      go_quiet ((exact Calls.quiet_of_same ((LC.out _).mono fun _ _ h => ⟨h.1, h.2.symm⟩)))
      have F8 := Lib.hid (F7.out.keep (w' := W7.drewN nq) (Nat.le_trans hz6 B7.out.size) (below_drewN (Below.refl _ _) nq))
      have B8 : Hid (Below base w (W7.drewN nq)) := below_drewN ((HW.out.trans HW6.out).trans B7.out) nq
      obtain ⟨W8, hW8⟩ : ∃ W, W7.drewN nq = W := ⟨_, rfl⟩
      rw [hW8] at F8 B8
      try rw [hW8]
      have HW8 := Lib.hid hW8
      clear hW8 k71 k73 kt
      have own8 := own_lenH F8.out.tree (nI_length s.tree)
      have htl : s.tree.length ≤ 60 := by
       have hfi := BI.out.fi HEB.out hq
       have h1 := nodup_sub_le hfi.tnd (m := List.range E.length) (fun x hx => List.mem_range.2 (hfi.lt x (hfi.tsub x hx)))
       rw [List.length_range] at h1; omega
      have kb6 : W8.cell? ⟨b, 6, none⟩ = some (.slice a2.AD s.tree.length a2.cD) := F8.out.blk.cell 6
      have hz8 : base ≤ W8.heap.size := Nat.le_trans hs B8.out.size
      have hrb8 := Reads.box W8 (.int .i64 (e : Int)) 3
      go_wp2_with (first | (at_builtin; refine append_go rfl (.tmp 89) (.tmp 91) _ rfl base 3 Tryz.underlying25 info_int rfl (by omega) a2.AD a2.cD s.tree.length (ints (nI s.tree)) rfl (World.ownsRow.alloc own8 _) (W8.heap.size + 1) [.int .i64 (e : Int)] rfl hrb8 (by simp [Value.oneCell']) (by omega) (by simp; omega) ?_; intro A9 c9 w9 hown9 hg9 hb9 hd9; have b9 : Blk w9 b 242 (fireC E n (.func (.func F) #[y] #[]) { a2 with AS := A7, cS := c7 } { s with steps := s.steps ++ [e] } H6) := (hg9.block b (by have h1 := F8.out.blk.lt; simp; omega) (fun e => own_neB F8.out.tree F8.out.blk (by decide) b (blockOf_own.1 e.symm) rfl)).trans (F8.out.blk.alloc _); have fz9 := b9.frozen 6; have kc9 : w9.cell? ⟨b, 6, none⟩ = some (.slice a2.AD s.tree.length a2.cD) := b9.cell 6) | fail)
      have hA9 : ∀ k, blockOf A9 k → blockOf a2.AD k ∨ W8.heap.size ≤ k := by
       intro k hk
       have hk2 : (Value.slice A9 (s.tree.length + 1) c9).ownBlock = some k := blockOf_own.2 hk
       rcases hd9 with hd9 | hd9
       ·rw [hd9] at hk2; exact .inl (blockOf_own.1 hk2)
       ·rw [hd9] at hk2; injection hk2 with hk2; subst hk2; refine .inr ?_; simp
      have o9 : OwnI w9 base A9 c9 (nI (s.tree ++ [e])) := by
       unfold OwnI; rw [nI_length, List.length_append]
       have : ints (nI (s.tree ++ [e])) = ints (nI s.tree) ++ [.int .i64 (e : Int)] := by simp [nI, ints]
       rw [this]; exact hown9
      have F10 := Lib.hid (F8.out.edge (x := s.tree.length) hg9 o9 hA9)
      have B10 : Hid (Below base W8 (w9.setCell ⟨b, 6, none⟩ (.slice A9 (s.tree.length + 1) c9))) := ((((Below.refl base W8).alloc hz8 (.cells #[.int .i64 (e : Int)] 3)).trans hb9).setCell (p := ⟨b, 6, none⟩) F8.out.hb _)
      obtain ⟨W10, hW10⟩ : ∃ W, w9.setCell ⟨b, 6, none⟩ (.slice A9 (s.tree.length + 1) c9) = W := ⟨_, rfl⟩
      rw [hW10] at F10 B10
      try rw [hW10]
      clear hW10
      have hso : s.order.length < n := by
       have hfi := BI.out.fi HEB.out hq
       have h1 := nodup_sub_le (l := x1 :: s.order) (List.nodup_cons.2 ⟨MV.out, hfi.ond⟩) (m := List.range n) (fun x hx => List.mem_range.2 (by
        rcases List.mem_cons.1 hx with rfl | hx
        ·exact i1
        ·exact hfi.olt x hx))
       rw [List.length_cons, List.length_range] at h1; omega
      have TK := Lib.hid (take_any base b n x1 E _ _ _ H6 hn i1 HEB.out (by omega) (by rw [L6.out]; omega) (by show s.order.length ≤ 1000; omega) H6H.out W10 F10.out (Nat.le_trans hz8 B10.out.size))
      clear hown9 hg9 hb9 hd9 b9 fz9 kc9 o9 hA9 own8 hrb8 kb6
      refine (TK.out).mono ?_
      rintro e11 w11 ⟨rfl, a11, H11, f11, p11, h11, B11⟩
      have F11 := Lib.hid f11
      have P11 := Lib.hid p11
      have H11H := Lib.hid h11
      clear f11 p11 h11
      have BD := Lib.hid (BI.out.light HEB.out hq HPL.out HWL.out HEL.out P6.out M6.out HC.out LV.out HLT.out P11.out H11H.out)
      go_wp2_with fail
      refine ⟨⟨Nat.le_trans hz8 (B10.out.trans B11).size, (B8.out.trans B10.out).trans B11, a11, _, H11, F11.out, BD.out⟩, ?_⟩
      rw [F11.out.lenH, F11.out.lenO, FW.out.lenH, FW.out.lenO, HM.out, P11.out.length_eq, List.length_append, L6.out, nI_length]
      have hnew : (newL E (s.order ++ [x1]) x1 E.length).length ≤ E.length := by
       unfold newL
       exact Nat.le_trans (List.length_filter_le _ _) (by rw [List.length_range]; exact Nat.le_refl _)
      show m + (newL E (s.order ++ [x1]) x1 E.length).length + (n - (s.order ++ [x1]).length) * (E.length + 1) < _
      rw [List.length_append, List.length_singleton]
      obtain ⟨k, hk⟩ : ∃ k, n - s.order.length = k + 1 := ⟨n - s.order.length - 1, by omega⟩
      rw [show n - (s.order.length + 1) = k from by omega, hk, Nat.succ_mul]
      omega
   ·rw [decide_eq_false m0] at c0
    have m1 : x1 ∈ s.order := by
     have := HWL.out.ends e HEL.out
     rw [HPE.out] at this
     exact this.resolve_left m0
    have MV := Lib.hid m0
    have hc : candB E s e = true := by unfold candB; rw [HPE.out, decide_eq_true m1, decide_eq_false m0]; simp [HWL.out.new e HEL.out]
    have LV : Hid (leadV E s e = x0) := by unfold Hid leadV; rw [HPE.out, if_neg m0]
    have HC := Lib.hid hc
    clear m0 m1 hc
    have own0 := own_lenH F6.out.steps (nI_length s.steps)
    have hsl : s.steps.length ≤ 60 := Nat.le_trans (steps_len HWL.out.ok) hEl
    have kb4 : w6.cell? ⟨b, 4, none⟩ = some (.slice a2.AS s.steps.length a2.cS) := F6.out.blk.cell 4
    have hz6 : base ≤ w6.heap.size := Nat.le_trans HZ.out HW6.out.size
    have hrb := Reads.box w6 (.int .i64 (e : Int)) 3
    go_wp2_with (first | (at_builtin; refine append_go rfl (.tmp 55) (.tmp 57) _ rfl base 3 Tryz.underlying25 info_int rfl (by omega) a2.AS a2.cS s.steps.length (ints (nI s.steps)) rfl (World.ownsRow.alloc own0 _) (w6.heap.size + 1) [.int .i64 (e : Int)] rfl hrb (by simp [Value.oneCell']) (by omega) (by simp; omega) ?_; intro A7 c7 w7 hown7 hg7 hb7 hd7; have b7 : Blk w7 b 242 (fireC E n (.func (.func F) #[y] #[]) a2 s H6) := (hg7.block b (by have h1 := F6.out.blk.lt; simp; omega) (fun e => own_neB F6.out.steps F6.out.blk (by decide) b (blockOf_own.1 e.symm) rfl)).trans (F6.out.blk.alloc _); have fz7 := b7.frozen 4; have kc7 : w7.cell? ⟨b, 4, none⟩ = some (.slice a2.AS s.steps.length a2.cS) := b7.cell 4) | fail)
    have hA7 : ∀ k, blockOf A7 k → blockOf a2.AS k ∨ w6.heap.size ≤ k := by
     intro k hk
     have hk2 : (Value.slice A7 (s.steps.length + 1) c7).ownBlock = some k := blockOf_own.2 hk
     rcases hd7 with hd7 | hd7
     ·rw [hd7] at hk2; exact .inl (blockOf_own.1 hk2)
     ·rw [hd7] at hk2; injection hk2 with hk2; subst hk2; refine .inr ?_; simp
    have o7 : OwnI w7 base A7 c7 (nI (s.steps ++ [e])) := by
     unfold OwnI; rw [nI_length, List.length_append]
     have : ints (nI (s.steps ++ [e])) = ints (nI s.steps) ++ [.int .i64 (e : Int)] := by simp [nI, ints]
     rw [this]; exact hown7
    have F7 := Lib.hid (F6.out.step (x := s.steps.length) hg7 o7 hA7)
    obtain ⟨W7, hW7⟩ : ∃ W, (w7.setCell ⟨b, 4, none⟩ (.slice A7 (s.steps.length + 1) c7)) = W := ⟨_, rfl⟩
    rw [hW7] at F7
    have B7 : Hid (Below base w6 W7) := by rw [← hW7]; exact ((((Below.refl base w6).alloc hz6 (.cells #[.int .i64 (e : Int)] 3)).trans hb7).setCell (p := ⟨b, 4, none⟩) F6.out.hb _)
    have k71 : W7.cell? ⟨b, 1, none⟩ = some (.func (.func F) #[y] #[]) := F7.out.blk.cell 1
    have k73 : W7.cell? ⟨b, 3, none⟩ = some (.slice (some ⟨a2.gT, 0, none⟩) n n) := F7.out.blk.cell 3
    obtain ⟨tv, htv⟩ := get_of_lt (xs := s.times) (k := x0) (by have := F6.out.tlen; omega)
    have kt : W7.cell? ⟨a2.gT, x0, none⟩ = some (.int .i64 tv) := (F7.out.times.at_ (by show 0 < s.times.length; have := F6.out.tlen; omega)).2.2.2 x0 tv htv
    have ht0 : s.times.getD x0 0 = tv := by rw [List.getD_eq_getElem?_getD, htv]; rfl
    have htb : 0 ≤ tv ∧ tv ≤ 60 := by
     have hfi := BI.out.fi HEB.out hq
     have h1 := hfi.nn x0
     have h2 := hfi.cnt x0 i0 MV.out
     have h3 := List.length_filter_le (incB E x0) s.steps
     rw [ht0] at h1 h2
     omega
    obtain ⟨htb0, htb1⟩ := htb
    have LC0 : ∀ m, Calls Tryz.prog F #[y, .int .i64 (x0 : Int), .int .i64 (e : Int), .int .i64 tv] (W7.drewN m) fun r w' => r = .returned (.bool (lit x0 e tv)) ∧ W7.drewN m = w' := fun m => HL.out (W7.drewN m) x0 e tv (below_drewN ((HW.out.trans HW6.out).trans B7.out) m) i0 hel
    have HT0 := Lib.hid ht0
    clear hown7 hg7 hb7 hd7 b7 fz7 kc7 o7 hA7 own0 kb4 hrb htv ht0 c0 c1 hb0 hb2 q0 q1 hta
    try rw [hW7]
    clear hW7
    rcases hlt : lit x0 e tv with _ | _
    ·rw [hlt] at LC0
     have LC := Lib.hid LC0
     have BD := Lib.hid (BI.out.dark HEB.out hq HPL.out HWL.out HEL.out P6.out M6.out H6H.out HC.out LV.out (by rw [HT0.out]; exact hlt))
     clear LC0 hlt
     go_quiet ((exact Calls.quiet_of_same ((LC.out _).mono fun _ _ h => ⟨h.1, h.2.symm⟩)))
     have F8 := Lib.hid (F7.out.keep (w' := W7.drewN nq) (Nat.le_trans hz6 B7.out.size) (below_drewN (Below.refl _ _) nq))
     have k83 : (W7.drewN nq).cell? ⟨b, 3, none⟩ = some (.slice (some ⟨a2.gT, 0, none⟩) n n) := k73
     have kt8 : (W7.drewN nq).cell? ⟨a2.gT, x0, none⟩ = some (.int .i64 tv) := kt
     have fz8 : (W7.drewN nq).frozen? ⟨a2.gT, x0, none⟩ = false := (F8.out.times.at_ (by show 0 < s.times.length; have := F6.out.tlen; omega)).2.2.1 x0
     go_wp2_with fail
     have F9 := Lib.hid (F8.out.time x0 (tv + 1))
     have ZT : base ≤ a2.gT := own_geI F8.out.times _ ⟨_, rfl, rfl⟩
     refine ⟨⟨?_, ?_, _, _, _, F9.out, ?_⟩, ?_⟩
     ·show base ≤ ((W7.drewN nq).setCell _ _).heap.size
      simp only [World.setCell, Array.size_modify]
      exact Nat.le_trans hz6 B7.out.size
     ·exact (below_drewN ((HW.out.trans HW6.out).trans B7.out) nq).setCell (p := ⟨a2.gT, x0, none⟩) ZT _
     ·have := BD.out
      rw [HT0.out] at this
      exact this
     ·rw [F9.out.lenH, F9.out.lenO, FW.out.lenH, FW.out.lenO, HM.out, L6.out]
      show m + (n - s.order.length) * (E.length + 1) < _
      omega
    ·rw [hlt] at LC0
     have LC := Lib.hid LC0
     have HLT : Hid (lit x0 e (s.times.getD x0 0) = true) := by rw [HT0.out]; exact hlt
     clear LC0 hlt
     go_quiet ((exact Calls.quiet_of_same ((LC.out _).mono fun _ _ h => ⟨h.1, h.2.symm⟩)))
     have F8 := Lib.hid (F7.out.keep (w' := W7.drewN nq) (Nat.le_trans hz6 B7.out.size) (below_drewN (Below.refl _ _) nq))
     have B8 : Hid (Below base w (W7.drewN nq)) := below_drewN ((HW.out.trans HW6.out).trans B7.out) nq
     obtain ⟨W8, hW8⟩ : ∃ W, W7.drewN nq = W := ⟨_, rfl⟩
     rw [hW8] at F8 B8
     try rw [hW8]
     have HW8 := Lib.hid hW8
     clear hW8 k71 k73 kt
     have own8 := own_lenH F8.out.tree (nI_length s.tree)
     have htl : s.tree.length ≤ 60 := by
      have hfi := BI.out.fi HEB.out hq
      have h1 := nodup_sub_le hfi.tnd (m := List.range E.length) (fun x hx => List.mem_range.2 (hfi.lt x (hfi.tsub x hx)))
      rw [List.length_range] at h1; omega
     have kb6 : W8.cell? ⟨b, 6, none⟩ = some (.slice a2.AD s.tree.length a2.cD) := F8.out.blk.cell 6
     have hz8 : base ≤ W8.heap.size := Nat.le_trans hs B8.out.size
     have hrb8 := Reads.box W8 (.int .i64 (e : Int)) 3
     go_wp2_with (first | (at_builtin; refine append_go rfl (.tmp 89) (.tmp 91) _ rfl base 3 Tryz.underlying25 info_int rfl (by omega) a2.AD a2.cD s.tree.length (ints (nI s.tree)) rfl (World.ownsRow.alloc own8 _) (W8.heap.size + 1) [.int .i64 (e : Int)] rfl hrb8 (by simp [Value.oneCell']) (by omega) (by simp; omega) ?_; intro A9 c9 w9 hown9 hg9 hb9 hd9; have b9 : Blk w9 b 242 (fireC E n (.func (.func F) #[y] #[]) { a2 with AS := A7, cS := c7 } { s with steps := s.steps ++ [e] } H6) := (hg9.block b (by have h1 := F8.out.blk.lt; simp; omega) (fun e => own_neB F8.out.tree F8.out.blk (by decide) b (blockOf_own.1 e.symm) rfl)).trans (F8.out.blk.alloc _); have fz9 := b9.frozen 6; have kc9 : w9.cell? ⟨b, 6, none⟩ = some (.slice a2.AD s.tree.length a2.cD) := b9.cell 6) | fail)
     have hA9 : ∀ k, blockOf A9 k → blockOf a2.AD k ∨ W8.heap.size ≤ k := by
      intro k hk
      have hk2 : (Value.slice A9 (s.tree.length + 1) c9).ownBlock = some k := blockOf_own.2 hk
      rcases hd9 with hd9 | hd9
      ·rw [hd9] at hk2; exact .inl (blockOf_own.1 hk2)
      ·rw [hd9] at hk2; injection hk2 with hk2; subst hk2; refine .inr ?_; simp
     have o9 : OwnI w9 base A9 c9 (nI (s.tree ++ [e])) := by
      unfold OwnI; rw [nI_length, List.length_append]
      have : ints (nI (s.tree ++ [e])) = ints (nI s.tree) ++ [.int .i64 (e : Int)] := by simp [nI, ints]
      rw [this]; exact hown9
     have F10 := Lib.hid (F8.out.edge (x := s.tree.length) hg9 o9 hA9)
     have B10 : Hid (Below base W8 (w9.setCell ⟨b, 6, none⟩ (.slice A9 (s.tree.length + 1) c9))) := ((((Below.refl base W8).alloc hz8 (.cells #[.int .i64 (e : Int)] 3)).trans hb9).setCell (p := ⟨b, 6, none⟩) F8.out.hb _)
     obtain ⟨W10, hW10⟩ : ∃ W, w9.setCell ⟨b, 6, none⟩ (.slice A9 (s.tree.length + 1) c9) = W := ⟨_, rfl⟩
     rw [hW10] at F10 B10
     try rw [hW10]
     clear hW10
     have hso : s.order.length < n := by
      have hfi := BI.out.fi HEB.out hq
      have h1 := nodup_sub_le (l := x0 :: s.order) (List.nodup_cons.2 ⟨MV.out, hfi.ond⟩) (m := List.range n) (fun x hx => List.mem_range.2 (by
       rcases List.mem_cons.1 hx with rfl | hx
       ·exact i0
       ·exact hfi.olt x hx))
      rw [List.length_cons, List.length_range] at h1; omega
     have TK := Lib.hid (take_any base b n x0 E _ _ _ H6 hn i0 HEB.out (by omega) (by rw [L6.out]; omega) (by show s.order.length ≤ 1000; omega) H6H.out W10 F10.out (Nat.le_trans hz8 B10.out.size))
     clear hown9 hg9 hb9 hd9 b9 fz9 kc9 o9 hA9 own8 hrb8 kb6
     refine (TK.out).mono ?_
     rintro e11 w11 ⟨rfl, a11, H11, f11, p11, h11, B11⟩
     have F11 := Lib.hid f11
     have P11 := Lib.hid p11
     have H11H := Lib.hid h11
     clear f11 p11 h11
     have BD := Lib.hid (BI.out.light HEB.out hq HPL.out HWL.out HEL.out P6.out M6.out HC.out LV.out HLT.out P11.out H11H.out)
     go_wp2_with fail
     refine ⟨⟨Nat.le_trans hz8 (B10.out.trans B11).size, (B8.out.trans B10.out).trans B11, a11, _, H11, F11.out, BD.out⟩, ?_⟩
     rw [F11.out.lenH, F11.out.lenO, FW.out.lenH, FW.out.lenO, HM.out, P11.out.length_eq, List.length_append, L6.out, nI_length]
     have hnew : (newL E (s.order ++ [x0]) x0 E.length).length ≤ E.length := by
      unfold newL
      exact Nat.le_trans (List.length_filter_le _ _) (by rw [List.length_range]; exact Nat.le_refl _)
     show m + (newL E (s.order ++ [x0]) x0 E.length).length + (n - (s.order ++ [x0]).length) * (E.length + 1) < _
     rw [List.length_append, List.length_singleton]
     obtain ⟨k, hk⟩ : ∃ k, n - s.order.length = k + 1 := ⟨n - s.order.length - 1, by omega⟩
     rw [show n - (s.order.length + 1) = k from by omega, hk, Nat.succ_mul]
     omega
end Go.Proofs.YtnbikkcalcpedaaGreatDoor
namespace Go.Proofs.YtnbikkcalcpedaaGreatDoor
open Go.RowKit Go.Shelf
attribute [local go_sem] Oper.semAt_some
theorem burn_ok (n : Nat) (A : Option Addr) (c : Nat) (es : List E3) (hn : es.length ≤ 1048576) (q : Nat) (B : Option Addr) (d : Nat) (cs : List Int) (hm : cs.length ≤ 1048000) (hck : burnErr n es q cs = 0) (w : World) (h : Reads w w.heap.size 3 A es.length (edgeCells es)) (h' : Reads w w.heap.size 1 B cs.length (ints cs)) :
  Calls Tryz.prog 258 #[.agg #[.int .i64 n, .slice A es.length c], .int .i64 q, .slice B cs.length d] w fun e w' => ∃ A1 c1 A2 c2, e = .returned (.tuple #[.slice A1 (burntL es cs n q).length c1, .slice A2 (restL n (burntL es cs n q)).length c2, .int .i64 0]) ∧
   OwnI w' w.heap.size A1 c1 (natI (burntL es cs n q)) ∧ OwnI w' w.heap.size A2 c2 (natI (restL n (burntL es cs n q))) ∧ Below w.heap.size w w' := by
 obtain ⟨bl, hbl⟩ : ∃ bl, burntL es cs n q = bl := ⟨_, rfl⟩
 rw [hbl]
 have HBL := Lib.hid hbl
 clear hbl
 have hbc := bcheck_any n A c es hn q B d cs (by omega)
 rw [hck] at hbc
 have BC := Lib.hid hbc
 obtain ⟨hG, _, _, hqn, hlen, _, _⟩ := conf_zero (burn_zero hck).1
 have hhi := hG.hi
 have hq : q < n := by omega
 have hcl : cs.length = n := by omega
 have KC := Lib.hid (kindled_any n A c es hn hG q hq B d cs hm)
 have HG := Lib.hid hG
 have HCL := Lib.hid hcl
 have g0 := Blk.new w 24 #[.int .i64 n, .slice A es.length c]
 clear hbc hck hG hlen hcl
 refine (callsIn_wide (n := 3)).1 ?_
 refine callsIn_of_wp_marks Tryz.func258 rfl trivial ?_
 simp only [Tryz.ntmps258, List.size_toArray, List.length_cons, List.length_nil, Nat.reduceAdd, Nat.reduceSub, Array.replicate_succ, Array.replicate_zero, List.push_toArray, List.append_toArray, List.nil_append, List.cons_append]
 gi_wp2_with fail
 refine ⟨trivial, ?_⟩
 refine (inW (BC.out _ ((h.alloc (Nat.le_refl _) _).more (by simp)) ((h'.alloc (Nat.le_refl _) _).more (by simp)))).mono ?_
 rintro e w1 ⟨rfl, hb1⟩
 have g1 := g0.next hb1
 have c0 := g1.cell 0
 have c1 := g1.cell 1
 have hbel1 : Below w.heap.size w w1 := ((Below.refl _ _).alloc (Nat.le_refl _) _).trans (hb1.mono (by simp))
 have hs1 := g1.lt
 gi_wp2_with fail
 refine ⟨trivial, ?_⟩
 refine (inW (KC.out _ ((h.below hbel1).more hbel1.size) ((h'.below hbel1).more hbel1.size))).mono ?_
 rintro e w2 ⟨g, A', c', rfl, gw, ow, hgb, hb2⟩
 have hbel2 := hbel1.trans (hb2.mono hbel1.size)
 have hs2 := hbel2.size
 have hgw := Blk.lt gw
 clear g0 g1 c0 c1 hb1 hb2 h h'
 gi_wp2_with fail
 refine ⟨trivial, ?_⟩
 refine (inW (fire_any g _)).mono ?_
 rintro e w3 ⟨rfl, hw3⟩
 have r0 : Blk w3 w2.heap.size 3 (intCells (natI ([q] ++ []))) := by rw [← hw3]; exact ((Blk.new w2 3 #[.int .i64 q]).alloc _).alloc _
 have r1 : Blk w3 (w2.heap.size + 1) 25 #[.slice (some ⟨w2.heap.size, 0, none⟩) 1 1] := by
  rw [← hw3]
  have := (Blk.new (w2.alloc (.cells #[.int .i64 q] 3)) 25 #[.slice (some ⟨w2.heap.size, 0, none⟩) 1 1]).alloc (.cells #[.pointer (some ⟨g, 0, none⟩)] 336)
  rwa [show (w2.alloc (.cells #[.int .i64 q] 3)).heap.size = w2.heap.size + 1 from by simp] at this
 have r2 : Blk w3 (w2.heap.size + 1 + 1) 336 #[.pointer (some ⟨g, 0, none⟩)] := by
  rw [← hw3]
  have := Blk.new ((w2.alloc (.cells #[.int .i64 q] 3)).alloc (.cells #[.slice (some ⟨w2.heap.size, 0, none⟩) 1 1] 25)) 336 #[.pointer (some ⟨g, 0, none⟩)]
  rwa [show ((w2.alloc (.cells #[.int .i64 q] 3)).alloc (.cells #[.slice (some ⟨w2.heap.size, 0, none⟩) 1 1] 25)).heap.size = w2.heap.size + 1 + 1 from by simp] at this
 have hb3 : Below w2.heap.size w2 w3 := by rw [← hw3]; exact (((Below.refl _ _).alloc (Nat.le_refl _) _).alloc (by simp) _).alloc (by simp; omega) _
 have hs3 : w3.heap.size = w2.heap.size + 3 := by rw [← hw3]; simp
 have gw3 : Wood w3 g n es (.slice A' cs.length c') [q] := Blk.next gw hb3
 have ow3 := ow.next hb3
 have ox3 : OwnI w3 w2.heap.size (some ⟨w2.heap.size, 0, none⟩) 1 (natI ([q] ++ [])) := OwnI.of_blk r0 (Nat.le_refl _) (by simp [natI, maxLen])
 have hbel3 := hbel2.trans (hb3.mono hs2)
 have hAg : ∀ k, blockOf A' k → ¬ k = g := fun k hk => own_blk ow3 gw3 (by decide) hk
 have hAb : ∀ k, blockOf A' k → w1.heap.size ≤ k ∧ k < w2.heap.size := fun k hk => own_lt ow hk
 have hr3 : Reads w3 w3.heap.size 1 A' cs.length (ints cs) := ow3.reads
 clear hw3 hb3 gw ow hbel1 hbel2
 gi_wp2_with fail
 refine rangeF_outer (n := 3) (gf := 329) (lb := #[.pointer (some ⟨w2.heap.size + 1 + 1, 0, none⟩)]) (by rfl) (enters_of Tryz.func329 (by kernel_rfl) rfl)
  (fire_iter g n (by omega) (by omega) es n HG.out.ok A' c' cs HCL.out [q] ⟨by simp, by simpa using hq⟩ (w2.heap.size + 1 + 1) w3 r2 gw3 hr3 hAg) ?hF0 ?hK (fun k => k = w2.heap.size ∨ k = w2.heap.size + 1) ?hC
  (fun pre C W => ∃ Ar cr, Blk W (w2.heap.size + 1) 25 #[.slice Ar (natI ([q] ++ pre)).length cr] ∧ OwnI W w2.heap.size Ar cr (natI ([q] ++ pre)) ∧ C (w2.heap.size + 1) ∧ (∀ k, blockOf Ar k → C k) ∧ Below w.heap.size w W ∧ w3.heap.size ≤ W.heap.size ∧ (∀ k, C k → k = w2.heap.size + 1 ∨ k = w2.heap.size ∨ w3.heap.size ≤ k))
  (fun _ _ _ _ => False) ?hI (fun _ _ _ _ _ h _ => h) ?h0 ?hps ?round ?done (fun _ _ _ _ _ h => h.elim)
 case hF0 => intro a b hf ho; exact Blk.only hf ho (by omega)
 case hK =>
  rintro k (rfl | rfl | hk)
  ·omega
  ·omega
  ·have := (hAb k hk).2; omega
 case hC =>
  rintro k (rfl | rfl)
  ·refine ⟨by omega, ?_⟩
   rintro (e | e | e)
   ·omega
   ·omega
   ·have := (hAb _ e).2; omega
  ·refine ⟨by omega, ?_⟩
   rintro (e | e | e)
   ·omega
   ·omega
   ·have := (hAb _ e).2; omega
 case hI =>
  rintro pre C a b ⟨Ar, cr, i1, i2, i3, i4, i5, i6, i7⟩ hst
  exact ⟨Ar, cr, i1.stays hst (.inl i3), own_kept i2 fun k hk => hst.block k (own_lt i2 hk).2 (.inl (i4 k hk)), i3, i4, i5.trans (hst.below (fun k hk => .inr ⟨by omega, by omega⟩) i5.size), Nat.le_trans i6 hst.size, i7⟩
 case h0 =>
  refine ⟨some ⟨w2.heap.size, 0, none⟩, 1, r1, ox3, .inr rfl, ?_, hbel3, Nat.le_refl _, ?_⟩
  ·rintro k ⟨a, ha, hk⟩; injection ha with ha; subst ha; exact .inl hk.symm
  ·rintro k (hk | hk)
   ·exact .inr (.inl hk)
   ·exact .inl hk
 case hps => intro x' args O W' (ha : args = _); subst ha; rfl
 case round =>
  intro l pre x args C O W hpre hI hl hC hO harg hlW hnC hnO T hT
  obtain ⟨Ar, cr, i1, i2, i3, i4, i5, i6, i7⟩ := hI
  obtain rfl : args = #[.int .i64 x] := harg
  have hpl : (natI ([q] ++ pre)).length ≤ 12 := by
   obtain ⟨z, hz⟩ := hpre
   have e := fireS_eq (es := es) (c := cs) (n := n) (l := [q])
   have := nodup_len (burnL_len (es := es) (c := cs) (n := n) (l := [q]) ⟨by simp, by simpa using hq⟩)
   rw [e, ← hz] at this
   rw [natI_length]
   simp at this ⊢
   omega
  obtain ⟨rr, hrr⟩ : ∃ r, natI ([q] ++ pre) = r := ⟨_, rfl⟩
  rw [hrr] at hpl i1 i2
  have HRR := Lib.hid hrr
  clear hrr hpre r0 r1 r2 ox3 hbel3 gw3 ow3 hr3
  gi_wp2
  refine hT _ _ (Only.refl _ _) ?_
  intro w5 h5 _
  have hl5 : ∀ k, C k → k ≠ l := fun k hk e => hnC (e ▸ hk)
  have j1 : Blk w5 (w2.heap.size + 1) 25 #[.slice Ar (rr).length cr] := i1.only h5 (hl5 _ i3)
  have j2 : OwnI w5 w2.heap.size Ar cr (rr) := own_kept i2 fun k hk => h5.block k (own_lt i2 hk).2 (hl5 k (i4 k hk))
  have j5 : Below w.heap.size w w5 := i5.trans (h5.below (fun k hk e => by omega) i5.size)
  have e1 := j1.cell 0
  have hC5 : ∀ k, C k → k < w5.heap.size := fun k hk => Nat.lt_of_lt_of_le (hC k hk) h5.size
  have hs5 := h5.size
  clear i1 i2 i5 hC
  gi_wp2_with (gi_at_builtin; refine append_gi rfl (.tmp 29) (.tmp 31) _ rfl w2.heap.size 3 Tryz.underlying25 info_int rfl (by omega) Ar cr (rr).length (ints (rr)) rfl (World.ownsRow.alloc j2 _) _ [.int .i64 x] rfl (Reads.box _ _ _) (by simp [Value.oneCell']) (by omega) (by simp; omega) ?_; intro A6 c6 w6 hown6 hg6 hb6 hw6; have k1 := (j1.alloc (.cells #[.int .i64 x] 3)).grown hg6 (own_blk_ne j2 j1 (by decide)); have e2 := k1.cell 0; have f2 := k1.frozen 0)
  have k2 : OwnI w6 w2.heap.size A6 c6 (natI ([q] ++ (pre ++ [x]))) := by
   rw [← List.append_assoc, natI_snoc, HRR.out]
   unfold OwnI
   rw [List.length_append, ints_snoc]
   exact hown6
  have k3 : Only (fun k => C k ∨ O k) w5 w6 := ((Only.refl _ w5).alloc _).grown hg6 fun k hk => .inl (.inl (i4 k (blockOf_own.1 hk)))
  refine ⟨fun k => C k ∨ (w5.heap.size ≤ k ∧ k < w6.heap.size), k3.setCell (.inl (.inl i3)) _, fun k hk => ?_, A6, c6, ?_, ?_, .inl i3, ?_, ?_, ?_, ?_⟩
  ·rcases hk with hk | hk
   ·exact .inl hk
   ·exact .inr (.inr (by simpa [World.setCell] using hk))
  ·have := k1.set_ 0 (.slice A6 ((rr).length + 1) c6)
   rw [← List.append_assoc, natI_snoc, HRR.out, List.length_append]
   simpa using this
  ·exact k2.set_blk k1 (by decide) _ _
  ·intro k hk
   rcases hw6 with e | e
   ·rw [blockOf_own.2 hk] at e
    exact .inl (i4 k (blockOf_own.1 e.symm))
   ·rw [blockOf_own.2 hk] at e
    injection e with e
    have hlt := (own_lt hown6 hk).2
    exact .inr ⟨by rw [e]; simp, hlt⟩
  ·exact (j5.trans (k3.below (fun k hk e => by
    rcases e with e | e
    ·have := i7 k e; omega
    ·have := (hO k e).2.2; omega) j5.size)).setCell (by simp; omega) _
  ·have := k3.size; simp [World.setCell]; omega
  ·rintro k (hk | hk)
   ·exact i7 k hk
   ·exact .inr (.inr (by omega))
 case done =>
  rintro C W ⟨Ar, cr, i1, i2, i3, i4, i5, i6, i7⟩ hfin hnD hD
  have e1 := i1.cell 0
  have efn : burnL es cs n n [q] = bl := HBL.out
  have efs : [q] ++ fireS es cs n [q] = bl := (fireS_eq).symm.trans efn
  rw [efs] at i1 i2 e1
  rw [efn] at hfin
  clear efs efn r0 r1 r2 ox3 hbel3 gw3 ow3 hr3
  have UC := Lib.hid (unburnt_any g n (by omega) es (.slice A' cs.length c') bl W.drew (by exact hfin))
  gi_wp2
  refine wpIn_nopanic ?_
  gi_region_with (refine ⟨trivial, ?_⟩; gi_at_call 304; refine (inW (UC.out)).mono ?_; rintro e w7 ⟨A7, c7, rfl, o7, b7⟩; have e7 := (i1.drew.next b7).cell 0)
  all_goals (
   refine nopanic_normal ?_
   have i1' : Blk W.drew (w2.heap.size + 1) 25 #[.slice Ar (natI bl).length cr] := i1
   have b7' : Below W.heap.size W w7 := (Below.refl _ _).drew.trans b7
   have hszW : W.heap.size ≤ w7.heap.size := b7'.size
   rw [hs3] at hD hnD i6
   have hDl : w2.heap.size + 3 < W.heap.size := by
    rcases Nat.lt_or_ge (w2.heap.size + 3) W.heap.size with hlt | hge
    ·exact hlt
    ·rw [Array.getElem?_eq_none hge] at hD; cases hD
   have p1 := Only.put_one w7 (w2.heap.size + 3) (.deferred none)
   have o8 : OwnI w7 w2.heap.size Ar cr (natI bl) := i2.next b7'
   have hD7 : w7.heap[w2.heap.size + 3]? = some (.deferred (some [])) := (b7'.block (w2.heap.size + 3) (by omega)).trans hD
   have hb9 : Below w.heap.size w w7 := i5.trans (b7'.mono i5.size)
   have hi4 := Lib.hid i4
   have hn7 := Lib.hid hnD
   clear i1 i1' i2 e1 hfin UC e7 i4 hnD hD b7
   gi_wp2
   refine end_mark (v := .tuple #[.slice Ar (natI bl).length cr, .slice A7 (restL n bl).length c7, .int .i64 0]) hD7 (by simp [results, Tryz.results258, go_sem]) ⟨Ar, cr, A7, c7, by rw [natI_length], ?_, ?_, hb9.trans (p1.below (fun k hk e => by omega) hb9.size)⟩
   ·have o9 : OwnI (w7.putObj (w2.heap.size + 3) (.deferred none)) w2.heap.size Ar cr (natI bl) := own_kept o8 fun k hk => p1.block k (own_lt o8 hk).2 fun e => hn7.out (by rw [← e]; exact hi4.out k hk)
    exact o9.mono (by omega)
   ·have h2 : W.drew.heap.size = W.heap.size := rfl
    have o9 : OwnI (w7.putObj (w2.heap.size + 3) (.deferred none)) W.drew.heap.size A7 c7 (natI (restL n bl)) := own_kept o7 fun k hk => p1.block k (own_lt o7 hk).2 fun e => by have h1 := (own_lt o7 hk).1; omega
    have o10 := o9.mono (base' := w.heap.size) (by omega)
    exact o10)
end Go.Proofs.YtnbikkcalcpedaaGreatDoor
