/-
 Texts of this claim, put together: HeapW, GridW, Joined.
-/
import Derived.Test.YtnbikkcalcpedaaGreatDoorK08
import Derived.Test.YtnbikkcalcpedaaGreatDoorK04
import Derived.Test.YtnbikkcalcpedaaGreatDoorK03
import Derived.Deep.QuietTactic
import Derived.BigQuiet
import Derived.Deep.RegionLaw
import Derived.Deep.RegionHeld3
set_option maxRecDepth 100000
set_option maxHeartbeats 16000000
namespace Go.Proofs.YtnbikkcalcpedaaGreatDoor
open Go.RowKit
theorem qless_any (A : Option Addr) (c : Nat) (H : List Int) (n : Nat) (hn : H.length = n) (i j : Nat) (hi : i < n) (hj : j < n) (w : World) (h : Reads w w.heap.size 1 A n (ints H)) :
  Calls Tryz.prog 376 #[.slice A n c, .int .i64 i, .int .i64 j] w fun e w' => e = .returned (.bool (decide (hp H i < hp H j))) ∧ ∃ n, w' = w.drewN n := by
 subst hn
 obtain ⟨b, off, rfl, hb, hc⟩ := h.at_ (ints_at (hp_at hi))
 obtain ⟨b', off', e, _, hc'⟩ := h.at_ (ints_at (hp_at hj))
 injection e with e
 injection e with e1 e2
 subst e1 e2
 have h1 : (i : Int) < (H.length : Int) := by omega
 have h2 : (j : Int) < (H.length : Int) := by omega
 go_enter Tryz.func376, Tryz.ntmps376
 go_wp2_with fail
 go_quiet (fail)
 go_wp2
 go_ret
 exact ⟨rfl, _, rfl⟩
def ofA (A : Option Addr) (k : Nat) : Prop := blockOf A k
theorem qswap_any (base : Nat) (A : Option Addr) (c : Nat) (H : List Int) (n : Nat) (hn : H.length = n) (i j : Nat) (hi : i < n) (hj : j < n) (w : World) (h : OwnI w base A c H) :
  Calls Tryz.prog 377 #[.slice A n c, .int .i64 i, .int .i64 j] w fun e w' => e = .returned (.tuple #[]) ∧ OwnI w' base A c (swp H i j) ∧ Only (ofA A) w w' := by
 subst hn
 obtain ⟨g, hA, hg, hfr, hce⟩ := h.block (by omega)
 subst hA
 have HO := Lib.hid h
 by_cases hij : i = j
 ·subst hij
  have ca := hce i _ (hp_at hi)
  have fa := hfr i
  have h1 : (i : Int) < (H.length : Int) := by omega
  unfold swp
  obtain ⟨x, hx⟩ : ∃ x, hp H i = x := ⟨_, rfl⟩
  rw [hx] at ca ⊢
  clear hfr hce hx h
  go_enter Tryz.func377, Tryz.ntmps377
  go_wp2_with fail
  go_region_law (fail)
  all_goals (
   go_wp2
   exact bodyPost_end (results_none rfl _ _ _) rfl ⟨rfl, ((HO.out.drew).put i x).put i x, ((Only.refl _ w).drew.setCell (p := ⟨g, i, none⟩) (.inl ⟨_, rfl, rfl⟩) _).setCell (p := ⟨g, i, none⟩) (.inl ⟨_, rfl, rfl⟩) _⟩)
 ·have ca := hce i _ (hp_at hi)
  have cb := hce j _ (hp_at hj)
  have fa := hfr i
  have fb := hfr j
  have h1 : (i : Int) < (H.length : Int) := by omega
  have h2 : (j : Int) < (H.length : Int) := by omega
  have hji : ¬ j = i := fun e => hij e.symm
  unfold swp
  obtain ⟨x, hx⟩ : ∃ x, hp H i = x := ⟨_, rfl⟩
  obtain ⟨y, hy⟩ : ∃ y, hp H j = y := ⟨_, rfl⟩
  rw [hx] at ca ⊢
  rw [hy] at cb ⊢
  clear hfr hce hx hy h
  go_enter Tryz.func377, Tryz.ntmps377
  go_wp2_with fail
  go_region_law (fail)
  all_goals (
   go_wp2
   exact bodyPost_end (results_none rfl _ _ _) rfl ⟨rfl, ((HO.out.drew).put i y).put j x, ((Only.refl _ w).drew.setCell (p := ⟨g, i, none⟩) (.inl ⟨_, rfl, rfl⟩) _).setCell (p := ⟨g, j, none⟩) (.inl ⟨_, rfl, rfl⟩) _⟩)
def methOf (P : Program) (T : TypeId) (name : String) : Option (Option (FuncId × Bool) × Array FieldStep) := (P.info? T).bind fun i => (i.methods.find? (·.name == name)).map fun m => (m.func, m.path)
theorem meth_parts {P : Program} {T : TypeId} {name : String} {r : Option (FuncId × Bool)} (h : methOf P T name = some (r, #[])) : ∃ i m, P.info? T = some i ∧ i.methods.find? (·.name == name) = some m ∧ m.func = r ∧ m.path = #[] := by
 unfold methOf at h
 rcases hi : P.info? T with _ | i
 ·rw [hi] at h; cases h
 ·rw [hi] at h
  rcases hm : i.methods.find? (·.name == name) with _ | m
  ·simp [hm] at h
  ·simp [hm] at h
   exact ⟨i, m, rfl, hm, h.1, h.2⟩
theorem run_method_ptr {P : Program} {T E : TypeId} {name : String} {f : FuncId} (h : methOf P T name = some (some (f, false), #[])) (hu : P.underlying T = some (.pointer E)) (hag : ∀ w, (isAgg E).run P w = .ok false w) (n : Nat) (a : Addr) (v : Value) (w : World) (hc : w.cell? a = some v) :
  (method (n + 1) T (.pointer (some a)) name).run P w = .ok (f, v) w := by
 obtain ⟨i, m, hi, hm, hf, hp⟩ := meth_parts h
 have hk : ∀ (q : String) (w : World), (Builtin.ssaWrapNilChk_ #[T] T #[.pointer (some a), strVal "", strVal q]).run P w = .ok (.pointer (some a)) w := fun q w => rfl
 unfold method
 simp [typeInfo, hi, hm, hf, hp, follow, receiverAt, run_underlying hu, Place.get, hk, asAddr, loadVar, hag, run_load, hc]
theorem run_method_own {P : Program} {T E : TypeId} {name : String} {f : FuncId} (h : methOf P T name = some (some (f, true), #[])) (hu : P.underlying T = some (.pointer E)) (n : Nat) (a : Addr) (w : World) :
  (method (n + 1) T (.pointer (some a)) name).run P w = .ok (f, .pointer (some a)) w := by
 obtain ⟨i, m, hi, hm, hf, hp⟩ := meth_parts h
 unfold method
 simp [typeInfo, hi, hm, hf, hp, follow, receiverAt, run_underlying hu, Place.get]
theorem ml_less : methOf Tryz.prog 355 "Less" = some (some (376, false), #[]) := by kernel_rfl
theorem ml_len : methOf Tryz.prog 355 "Len" = some (some (326, false), #[]) := by kernel_rfl
theorem ml_swap : methOf Tryz.prog 355 "Swap" = some (some (377, false), #[]) := by kernel_rfl
theorem ml_pop : methOf Tryz.prog 355 "Pop" = some (some (379, true), #[]) := by kernel_rfl
theorem ml_push : methOf Tryz.prog 355 "Push" = some (some (380, true), #[]) := by kernel_rfl
theorem ml_agg (w : World) : (isAgg 240).run Tryz.prog w = .ok false w := by kernel_rfl
theorem UpI.hpl {H : List Int} {n j : Nat} (h : UpI H n j) : j < n := h.lt
theorem up_any (b o base : Nat) (T : TypeId) (cs : Array Value) (A : Option Addr) (c : Nat) (H : List Int) (n : Nat) (hn : H.length = n) (hn1 : n ≤ 1000) (j : Nat) (hI : UpI H n j) (w : World) (hO : OwnI w base A c H) (hblk : Blk w b T cs) (hcs : cs[o]? = some (.slice A n c)) (hba : ¬ ofA A b) :
  Calls Tryz.prog 357 #[.iface 355 (.pointer (some ⟨b, o, none⟩)), .int .i64 j] w fun e w' => e = .returned (.tuple #[]) ∧ ∃ H' : List Int, H'.length = n ∧ H'.Perm H ∧ HeapN H' n ∧ OwnI w' base A c H' ∧ Only (ofA A) w w' := by
 have HI := Lib.hid hI
 have HO := Lib.hid hO
 have HCS := Lib.hid hcs
 have HN := Lib.hid hn
 clear hI hO hcs hn
 go_enter Tryz.func357, Tryz.ntmps357
 go_wp2_with fail
 go_loopw [1, 4] (fun x _ wl => ∃ q : Nat, x = .int .i64 q ∧ q ≤ n ∧ Hid (∃ HH : List Int, HH.length = n ∧ UpI HH n q ∧ HH.Perm H ∧ OwnI wl base A c HH ∧ Only (ofA A) w wl)) (fun x _ _ => (intOf x).toNat)
 case atStart => exact ⟨j, rfl, by have := HI.out.lt; omega, H, HN.out, HI.out, List.Perm.refl _, HO.out, Only.refl _ _⟩
 case round =>
  obtain ⟨q, rfl, hq, HIN⟩ := hrel
  obtain ⟨HH, hl, hu, hp, ho, hW⟩ := HIN.out
  have hqn := hu.lt
  have HL := Lib.hid hl
  have HU := Lib.hid hu
  have HP := Lib.hid hp
  have HOW := Lib.hid ho
  have HW := Lib.hid hW
  have kc := ((hblk.only hW hba).cell o).trans HCS.out
  clear hl hu hp ho hW HIN
  by_cases hq0 : q = 0
  ·subst hq0
   go_wp2
   exact bodyPost_end (results_none rfl _ _ _) rfl ⟨rfl, HH, HL.out, HP.out, HU.out.done (.inl rfl), HOW.out, HW.out⟩
  ·obtain ⟨i, hi⟩ : ∃ i, (q - 1) / 2 = i := ⟨_, rfl⟩
   have h1 : IntKind.i64.wrap ((q : Int) - 1) = (q : Int) - 1 := IntWalk.i64_in _ (by omega)
   have h3 : ((q : Int) - 1) / 2 = (i : Int) := by omega
   have h4 : ((i : Int) == (q : Int)) = false := by simp; omega
   have hiq : i < q := by omega
   have HIQ := Lib.hid hi
   have rq := HOW.out.reads
   rw [HL.out] at rq
   have mL : ∀ k, (method (k + 1) 355 (.pointer (some ⟨b, o, none⟩)) "Less").run Tryz.prog wr = .ok (376, .slice A n c) wr := fun k => run_method_ptr ml_less Tryz.underlying355 ml_agg k _ _ _ kc
   have LC := Lib.hid (qless_any A c HH n HL.out q i (by omega) (by omega) wr rq)
   obtain ⟨r, hr⟩ : ∃ r, decide (hp HH q < hp HH i) = r := ⟨_, rfl⟩
   rw [hr] at LC
   have HR := Lib.hid hr
   clear hr hi rq
   go_wp2_with fail
   refine (LC.out).mono ?_
   rintro e w1 ⟨rfl, nd, rfl⟩
   have kc2 : (wr.drewN nd).cell? ⟨b, o, none⟩ = some (.slice A n c) := kc
   have mS : ∀ k, (method (k + 1) 355 (.pointer (some ⟨b, o, none⟩)) "Swap").run Tryz.prog (wr.drewN nd) = .ok (377, .slice A n c) (wr.drewN nd) := fun k => run_method_ptr ml_swap Tryz.underlying355 ml_agg k _ _ _ kc2
   clear mL
   rcases r with _ | _
   ·go_wp2
    exact bodyPost_end (results_none rfl _ _ _) rfl ⟨rfl, HH, HL.out, HP.out, HU.out.done (.inr (by rw [HIQ.out]; have := of_decide_eq_false HR.out; omega)), HOW.out.drewN nd, HW.out.drewN nd⟩
   ·have SC := Lib.hid (qswap_any base A c HH n HL.out i q (by omega) (by omega) (wr.drewN nd) (HOW.out.drewN nd))
    go_wp2_with fail
    refine (SC.out).mono ?_
    rintro e w2 ⟨rfl, o2, hW2⟩
    have HIN2 : Hid (∃ HH : List Int, HH.length = n ∧ UpI HH n i ∧ HH.Perm H ∧ OwnI w2 base A c HH ∧ Only (ofA A) w w2) := by
     have hst := HU.out.step (by omega) (by rw [HIQ.out]; exact of_decide_eq_true HR.out)
     rw [HIQ.out] at hst
     exact ⟨swp HH i q, by rw [swp_length, HL.out], hst, (swp_perm (by have := HL.out; omega) (by have := HL.out; omega)).trans HP.out, o2, (HW.out.drewN nd).trans hW2⟩
    go_wp2
    go_roundw
    case rel => exact ⟨i, rfl, by omega, HIN2⟩
    case measure => simp [intOf]; omega
theorem down_any (b o base : Nat) (T : TypeId) (cs : Array Value) (A : Option Addr) (c : Nat) (H : List Int) (N n : Nat) (hN : H.length = N) (hN1 : N ≤ 1000) (hnN : n ≤ N) (hI : DnI H n 0) (w : World) (hO : OwnI w base A c H) (hblk : Blk w b T cs) (hcs : cs[o]? = some (.slice A N c)) (hba : ¬ ofA A b) :
  Calls Tryz.prog 349 #[.iface 355 (.pointer (some ⟨b, o, none⟩)), .int .i64 0, .int .i64 n] w fun e w' => ∃ bb, e = .returned (.bool bb) ∧ ∃ H' : List Int, H'.length = N ∧ H'.Perm H ∧ HeapN H' n ∧ OwnI w' base A c H' ∧ Only (ofA A) w w' ∧ ∀ k, n ≤ k → hp H' k = hp H k := by
 have HI := Lib.hid hI
 have HO := Lib.hid hO
 have HCS := Lib.hid hcs
 have HNN := Lib.hid hN
 clear hI hO hcs hN
 go_enter Tryz.func349, Tryz.ntmps349
 go_wp2_with fail
 go_loopw [7] (fun x wl => ∃ q : Nat, x = .int .i64 q ∧ q ≤ n ∧ Hid (∃ HH : List Int, HH.length = N ∧ DnI HH n q ∧ HH.Perm H ∧ OwnI wl base A c HH ∧ Only (ofA A) w wl ∧ ∀ k, n ≤ k → hp HH k = hp H k)) (fun x _ => n - (intOf x).toNat)
 case atStart => exact ⟨0, rfl, by omega, H, HNN.out, HI.out, List.Perm.refl _, HO.out, Only.refl _ _, fun _ _ => rfl⟩
 case round =>
  obtain ⟨q, rfl, hq, HIN⟩ := hrel
  obtain ⟨HH, hl, hu, hp_, ho, hW, hT⟩ := HIN.out
  have HT := Lib.hid hT
  have HL := Lib.hid hl
  have HU := Lib.hid hu
  have HP := Lib.hid hp_
  have HOW := Lib.hid ho
  have HW := Lib.hid hW
  have kc := ((hblk.only hW hba).cell o).trans HCS.out
  clear hl hu hp_ ho hW hT HIN
  have hw1 : IntKind.i64.wrap (2 * (q : Int)) = 2 * (q : Int) := IntWalk.i64_in _ (by omega)
  obtain ⟨p1, hp1⟩ : ∃ p1, 2 * q + 1 = p1 := ⟨_, rfl⟩
  have hw2 : IntKind.i64.wrap (2 * (q : Int) + 1) = (p1 : Int) := by rw [IntWalk.i64_in _ (by omega)]; omega
  have hw3 : 2 * (q : Int) + 1 = (p1 : Int) := by omega
  have HP1 := Lib.hid hp1
  by_cases hge : n ≤ p1
  ·have hd1 : decide ((n : Int) ≤ (p1 : Int)) = true := decide_eq_true (by omega)
   have hd2 : decide (n ≤ p1) = true := decide_eq_true hge
   clear hp1
   go_wp2
   go_ret
   exact ⟨_, rfl, HH, HL.out, HP.out, HU.out.done (fun k k1 k2 => by have := HP1.out; omega), HOW.out, HW.out, HT.out⟩
  ·have hd1 : decide ((n : Int) ≤ (p1 : Int)) = false := decide_eq_false (by omega)
   have hd2 : decide (n ≤ p1) = false := decide_eq_false hge
   have hd3 : decide ((p1 : Int) < 0) = false := decide_eq_false (by omega)
   obtain ⟨p2, hp2⟩ : ∃ p2, p1 + 1 = p2 := ⟨_, rfl⟩
   have hw4 : IntKind.i64.wrap ((p1 : Int) + 1) = (p2 : Int) := by rw [IntWalk.i64_in _ (by omega)]; omega
   have hw5 : (p1 : Int) + 1 = (p2 : Int) := by omega
   have HP2 := Lib.hid hp2
   by_cases hp2n : p2 < n
   ·have he1 : decide ((p2 : Int) < (n : Int)) = true := decide_eq_true (by omega)
    have he2 : decide (p2 < n) = true := decide_eq_true hp2n
    have rq1 := HOW.out.reads
    rw [HL.out] at rq1
    obtain ⟨r1, hr1⟩ : ∃ r, decide (hp HH p2 < hp HH p1) = r := ⟨_, rfl⟩
    have LC := Lib.hid (qless_any A c HH N HL.out p2 p1 (by omega) (by omega) wr rq1)
    rw [hr1] at LC
    have HR1 := Lib.hid hr1
    have mL : ∀ k, (method (k + 1) 355 (.pointer (some ⟨b, o, none⟩)) "Less").run Tryz.prog (wr) = .ok (376, .slice A N c) (wr) := fun k => run_method_ptr ml_less Tryz.underlying355 ml_agg k _ _ _ kc
    clear hr1 rq1 hp1 hp2
    go_wp2_with fail
    refine (LC.out).mono ?_
    rintro e w4 ⟨rfl, nd, hw4x⟩
    have kc2 : w4.cell? ⟨b, o, none⟩ = some (.slice A N c) := by rw [hw4x]; exact kc
    have O4 : Hid (OwnI w4 base A c HH) := by rw [Hid, hw4x]; exact HOW.out.drewN nd
    have W4 : Hid (Only (ofA A) w w4) := by rw [Hid, hw4x]; exact HW.out.drewN nd
    clear mL hw4x
    rcases r1 with _ | _
    ·obtain ⟨p, hpp⟩ : ∃ p, p = p1 := ⟨_, rfl⟩
     subst hpp
     have hqp : q < p ∧ p < n := ⟨by have := HP1.out; omega, by omega⟩
     have HM : Hid (∀ k, k < n → (k = 2 * q + 1 ∨ k = 2 * q + 2) → hp HH p ≤ hp HH k) := by
      rintro k k1 (k2 | k2)
      ·rw [show k = p from by have := HP1.out; omega]; exact Int.le_refl _
      ·rw [show k = p2 from by have := HP1.out; have := HP2.out; omega]; have := of_decide_eq_false HR1.out; omega
     have hp12 : p = 2 * q + 1 := HP1.out.symm
     clear hp12
     obtain ⟨r2, hr2⟩ : ∃ r, decide (hp HH p < hp HH q) = r := ⟨_, rfl⟩
     have rq := (O4.out).reads
     rw [HL.out] at rq
     have LC2 := Lib.hid (qless_any A c HH N HL.out p q (by omega) (by omega) (w4) rq)
     rw [hr2] at LC2
     have HR2 := Lib.hid hr2
     have mL2 : ∀ k, (method (k + 1) 355 (.pointer (some ⟨b, o, none⟩)) "Less").run Tryz.prog (w4) = .ok (376, .slice A N c) (w4) := fun k => run_method_ptr ml_less Tryz.underlying355 ml_agg k _ _ _ kc2
     clear hr2 rq
     go_wp2_with fail
     refine (LC2.out).mono ?_
     rintro e w5 ⟨rfl, nd2, hw5⟩
     have kc5 : w5.cell? ⟨b, o, none⟩ = some (.slice A N c) := by rw [hw5]; exact kc2
     have O5 : Hid (OwnI w5 base A c HH) := by rw [Hid, hw5]; exact (O4.out).drewN nd2
     have W5 : Hid (Only (ofA A) w w5) := by rw [Hid, hw5]; exact (W4.out).drewN nd2
     have mS : ∀ k, (method (k + 1) 355 (.pointer (some ⟨b, o, none⟩)) "Swap").run Tryz.prog (w5) = .ok (377, .slice A N c) (w5) := fun k => run_method_ptr ml_swap Tryz.underlying355 ml_agg k _ _ _ kc5
     clear mL2 hw5
     rcases r2 with _ | _
     ·go_wp2
      go_ret
      exact ⟨_, rfl, HH, HL.out, HP.out, HU.out.done (fun k k1 k2 => by have := of_decide_eq_false HR2.out; have := HM.out k k1 k2; omega), O5.out, W5.out, HT.out⟩
     ·have SC := Lib.hid (qswap_any base A c HH N HL.out q p (by omega) (by omega) w5 O5.out)
      go_wp2_with fail
      refine (SC.out).mono ?_
      rintro e w6 ⟨rfl, o6, hW6⟩
      have HIN2 : Hid (∃ HH : List Int, HH.length = N ∧ DnI HH n p ∧ HH.Perm H ∧ OwnI w6 base A c HH ∧ Only (ofA A) w w6 ∧ ∀ k, n ≤ k → hp HH k = hp H k) :=
       ⟨swp HH q p, by rw [swp_length, HL.out], HU.out.step (by omega) (by have := HP1.out; omega) HM.out (of_decide_eq_true HR2.out), (swp_perm (by have := HL.out; omega) (by have := HL.out; omega)).trans HP.out, o6, W5.out.trans hW6, fun k hk => by rw [hp_swp (by have := HL.out; omega) (by have := HL.out; omega), if_neg (by omega), if_neg (by omega)]; exact HT.out k hk⟩
      go_wp2
      go_roundw
      case rel => exact ⟨p, by go_num, by omega, HIN2⟩
      case measure => simp [intOf]; omega
    ·obtain ⟨p, hpp⟩ : ∃ p, p = p2 := ⟨_, rfl⟩
     subst hpp
     have hqp : q < p ∧ p < n := ⟨by have := HP1.out; have := HP2.out; omega, hp2n⟩
     have HM : Hid (∀ k, k < n → (k = 2 * q + 1 ∨ k = 2 * q + 2) → hp HH p ≤ hp HH k) := by
      rintro k k1 (k2 | k2)
      ·rw [show k = p1 from by have := HP1.out; omega]; have := of_decide_eq_true HR1.out; omega
      ·rw [show k = p from by have := HP1.out; have := HP2.out; omega]; exact Int.le_refl _
     have hp12 : p = 2 * q + 2 := by have := HP1.out; have := HP2.out; omega
     clear hp12
     obtain ⟨r2, hr2⟩ : ∃ r, decide (hp HH p < hp HH q) = r := ⟨_, rfl⟩
     have rq := (O4.out).reads
     rw [HL.out] at rq
     have LC2 := Lib.hid (qless_any A c HH N HL.out p q (by omega) (by omega) (w4) rq)
     rw [hr2] at LC2
     have HR2 := Lib.hid hr2
     have mL2 : ∀ k, (method (k + 1) 355 (.pointer (some ⟨b, o, none⟩)) "Less").run Tryz.prog (w4) = .ok (376, .slice A N c) (w4) := fun k => run_method_ptr ml_less Tryz.underlying355 ml_agg k _ _ _ kc2
     clear hr2 rq
     go_wp2_with fail
     refine (LC2.out).mono ?_
     rintro e w5 ⟨rfl, nd2, hw5⟩
     have kc5 : w5.cell? ⟨b, o, none⟩ = some (.slice A N c) := by rw [hw5]; exact kc2
     have O5 : Hid (OwnI w5 base A c HH) := by rw [Hid, hw5]; exact (O4.out).drewN nd2
     have W5 : Hid (Only (ofA A) w w5) := by rw [Hid, hw5]; exact (W4.out).drewN nd2
     have mS : ∀ k, (method (k + 1) 355 (.pointer (some ⟨b, o, none⟩)) "Swap").run Tryz.prog (w5) = .ok (377, .slice A N c) (w5) := fun k => run_method_ptr ml_swap Tryz.underlying355 ml_agg k _ _ _ kc5
     clear mL2 hw5
     rcases r2 with _ | _
     ·go_wp2
      go_ret
      exact ⟨_, rfl, HH, HL.out, HP.out, HU.out.done (fun k k1 k2 => by have := of_decide_eq_false HR2.out; have := HM.out k k1 k2; omega), O5.out, W5.out, HT.out⟩
     ·have SC := Lib.hid (qswap_any base A c HH N HL.out q p (by omega) (by omega) w5 O5.out)
      go_wp2_with fail
      refine (SC.out).mono ?_
      rintro e w6 ⟨rfl, o6, hW6⟩
      have HIN2 : Hid (∃ HH : List Int, HH.length = N ∧ DnI HH n p ∧ HH.Perm H ∧ OwnI w6 base A c HH ∧ Only (ofA A) w w6 ∧ ∀ k, n ≤ k → hp HH k = hp H k) :=
       ⟨swp HH q p, by rw [swp_length, HL.out], HU.out.step (by omega) (by have := HP1.out; have := HP2.out; omega) HM.out (of_decide_eq_true HR2.out), (swp_perm (by have := HL.out; omega) (by have := HL.out; omega)).trans HP.out, o6, W5.out.trans hW6, fun k hk => by rw [hp_swp (by have := HL.out; omega) (by have := HL.out; omega), if_neg (by omega), if_neg (by omega)]; exact HT.out k hk⟩
      go_wp2
      go_roundw
      case rel => exact ⟨p, by go_num, by omega, HIN2⟩
      case measure => simp [intOf]; omega
   ·have he1 : decide ((p2 : Int) < (n : Int)) = false := decide_eq_false (by omega)
    have he2 : decide (p2 < n) = false := decide_eq_false hp2n
    obtain ⟨p, hpp⟩ : ∃ p, p = p1 := ⟨_, rfl⟩
    subst hpp
    have hqp : q < p ∧ p < n := ⟨by have := HP1.out; omega, by omega⟩
    have HM : Hid (∀ k, k < n → (k = 2 * q + 1 ∨ k = 2 * q + 2) → hp HH p ≤ hp HH k) := by
     rintro k k1 (k2 | k2)
     ·rw [show k = p from by have := HP1.out; omega]; exact Int.le_refl _
     ·have := HP1.out; have := HP2.out; omega
    have hp12 : p = 2 * q + 1 := HP1.out.symm
    clear hp12
    obtain ⟨r2, hr2⟩ : ∃ r, decide (hp HH p < hp HH q) = r := ⟨_, rfl⟩
    have rq := (HOW.out).reads
    rw [HL.out] at rq
    have LC2 := Lib.hid (qless_any A c HH N HL.out p q (by omega) (by omega) (wr) rq)
    rw [hr2] at LC2
    have HR2 := Lib.hid hr2
    have mL2 : ∀ k, (method (k + 1) 355 (.pointer (some ⟨b, o, none⟩)) "Less").run Tryz.prog (wr) = .ok (376, .slice A N c) (wr) := fun k => run_method_ptr ml_less Tryz.underlying355 ml_agg k _ _ _ kc
    clear hr2 rq
    go_wp2_with fail
    refine (LC2.out).mono ?_
    rintro e w5 ⟨rfl, nd2, hw5⟩
    have kc5 : w5.cell? ⟨b, o, none⟩ = some (.slice A N c) := by rw [hw5]; exact kc
    have O5 : Hid (OwnI w5 base A c HH) := by rw [Hid, hw5]; exact (HOW.out).drewN nd2
    have W5 : Hid (Only (ofA A) w w5) := by rw [Hid, hw5]; exact (HW.out).drewN nd2
    have mS : ∀ k, (method (k + 1) 355 (.pointer (some ⟨b, o, none⟩)) "Swap").run Tryz.prog (w5) = .ok (377, .slice A N c) (w5) := fun k => run_method_ptr ml_swap Tryz.underlying355 ml_agg k _ _ _ kc5
    clear mL2 hw5
    rcases r2 with _ | _
    ·go_wp2
     go_ret
     exact ⟨_, rfl, HH, HL.out, HP.out, HU.out.done (fun k k1 k2 => by have := of_decide_eq_false HR2.out; have := HM.out k k1 k2; omega), O5.out, W5.out, HT.out⟩
    ·have SC := Lib.hid (qswap_any base A c HH N HL.out q p (by omega) (by omega) w5 O5.out)
     go_wp2_with fail
     refine (SC.out).mono ?_
     rintro e w6 ⟨rfl, o6, hW6⟩
     have HIN2 : Hid (∃ HH : List Int, HH.length = N ∧ DnI HH n p ∧ HH.Perm H ∧ OwnI w6 base A c HH ∧ Only (ofA A) w w6 ∧ ∀ k, n ≤ k → hp HH k = hp H k) :=
      ⟨swp HH q p, by rw [swp_length, HL.out], HU.out.step (by omega) (by have := HP1.out; omega) HM.out (of_decide_eq_true HR2.out), (swp_perm (by have := HL.out; omega) (by have := HL.out; omega)).trans HP.out, o6, W5.out.trans hW6, fun k hk => by rw [hp_swp (by have := HL.out; omega) (by have := HL.out; omega), if_neg (by omega), if_neg (by omega)]; exact HT.out k hk⟩
     go_wp2
     go_roundw
     case rel => exact ⟨p, by go_num, by omega, HIN2⟩
     case measure => simp [intOf]; omega
structure Grid (w : World) (base : Nat) (A : Option Addr) (c n : Nat) (gs : List Nat) (rows : List (List Int)) : Prop where
 outer : w.ownsRow base 25 1 (.slice A gs.length c) gs.length (gs.map fun g => .slice (some ⟨g, 0, none⟩) n n)
 len : rows.length = gs.length
 row : ∀ (i g : Nat) (r : List Int), gs[i]? = some g → rows[i]? = some r → Blk w g 3 (intCells r) ∧ r.length = n ∧ base ≤ g
 nodup : gs.Nodup
section
variable {w w' : World} {base : Nat} {A : Option Addr} {c n : Nat} {gs : List Nat} {rows : List (List Int)}
theorem Grid.nil_ (w : World) (base n : Nat) : Grid w base none 0 n [] [] := ⟨World.ownsRow_nil _ _ _ _, rfl, by simp, by simp⟩
theorem Grid.at_ (h : Grid w base A c n gs rows) {i : Nat} (hi : i < rows.length) : ∃ g r, gs[i]? = some g ∧ rows[i]? = some r ∧ Blk w g 3 (intCells r) ∧ r.length = n ∧ base ≤ g := by
 obtain ⟨r, hr⟩ := get_of_lt hi
 obtain ⟨g, hg⟩ := get_of_lt (xs := gs) (k := i) (by have := h.len; omega)
 obtain ⟨h1, h2, h3⟩ := h.row i g r hg hr
 exact ⟨g, r, hg, hr, h1, h2, h3⟩
theorem Grid.cell (h : Grid w base A c n gs rows) {i g : Nat} (hg : gs[i]? = some g) : ∃ b off, A = some ⟨b, off, none⟩ ∧ w.cell? ⟨b, off + i, none⟩ = some (.slice (some ⟨g, 0, none⟩) n n) := by
 obtain ⟨b, off, hA, _, hc⟩ := (Reads.of_own h.outer).at_ (k := i) (u := .slice (some ⟨g, 0, none⟩) n n) (by simp [hg])
 exact ⟨b, off, hA, hc⟩
theorem Grid.blk (h : Grid w base A c n gs rows) {g : Nat} (hg : g ∈ gs) : ∃ cs, Blk w g 3 cs ∧ base ≤ g := by
 obtain ⟨i, hi⟩ := List.getElem?_of_mem hg
 obtain ⟨r, hr⟩ := get_of_lt (xs := rows) (k := i) (by have := (List.getElem?_eq_some_iff.1 hi).1; have := h.len; omega)
 obtain ⟨h1, _, h3⟩ := h.row i g r hi hr
 exact ⟨_, h1, h3⟩
theorem Grid.kept (h : Grid w base A c n gs rows) (hA : ∀ k, blockOf A k → w'.heap[k]? = w.heap[k]?) (hg : ∀ g, g ∈ gs → w'.heap[g]? = w.heap[g]?) : Grid w' base A c n gs rows :=
 ⟨own_kept h.outer hA, h.len, fun i g r hi hr => by
  obtain ⟨h1, h2, h3⟩ := h.row i g r hi hr
  exact ⟨(hg g (List.mem_of_getElem? hi)).trans h1, h2, h3⟩, h.nodup⟩
theorem Grid.next (h : Grid w base A c n gs rows) (hb : Below w.heap.size w w') : Grid w' base A c n gs rows :=
 h.kept (fun k hk => hb.block k (own_lt h.outer hk).2) fun g hg => by
  obtain ⟨cs, hc, _⟩ := h.blk hg
  exact hb.block g hc.lt
theorem Grid.mono {base' : Nat} (h : Grid w base A c n gs rows) (hb : base' ≤ base) : Grid w base' A c n gs rows :=
 ⟨own_rebase h.outer fun k hk => Nat.le_trans hb (own_lt h.outer hk).1, h.len, fun i g r hi hr => by
  obtain ⟨h1, h2, h3⟩ := h.row i g r hi hr
  exact ⟨h1, h2, by omega⟩, h.nodup⟩
theorem Grid.drewN (h : Grid w base A c n gs rows) (m : Nat) : Grid (w.drewN m) base A c n gs rows := h.kept (fun _ _ => rfl) fun _ _ => rfl
theorem Grid.far (h : Grid w base A c n gs rows) {g : Nat} {t : TypeId} {cs : Array Value} (hg : Blk w g t cs) (h1 : 25 ≠ t) (h2 : 3 ≠ t) (o : Nat) (u : Value) : Grid (w.setCell ⟨g, o, none⟩ u) base A c n gs rows :=
 h.kept (fun k hk => Below.heap_setCell w ⟨g, o, none⟩ u k (own_blk h.outer hg h1 hk)) fun g' hg' => by
  obtain ⟨cs', hc, _⟩ := h.blk hg'
  exact Below.heap_setCell w ⟨g, o, none⟩ u g' (hc.ne_ hg h2)
theorem Grid.set (h : Grid w base A c n gs rows) {i j g : Nat} {r : List Int} (hi : gs[i]? = some g) (hr : rows[i]? = some r) (x : Int) : Grid (w.setCell ⟨g, j, none⟩ (.int .i64 x)) base A c n gs (rows.set i (r.set j x)) := by
 obtain ⟨h1, h2, h3⟩ := h.row i g r hi hr
 refine ⟨own_kept h.outer fun k hk => Below.heap_setCell w ⟨g, j, none⟩ _ k (own_blk h.outer h1 (by decide) hk), by rw [List.length_set]; exact h.len, fun i' g' r' hi' hr' => ?_, h.nodup⟩
 by_cases he : i' = i
 ·subst he
  rw [hi] at hi'; cases hi'
  have hl : i' < rows.length := (List.getElem?_eq_some_iff.1 hr).1
  rw [List.getElem?_set_self hl] at hr'; cases hr'
  exact ⟨by rw [← intCells_set]; exact h1.set_ j _, by simpa using h2, h3⟩
 ·rw [List.getElem?_set_ne (fun e => he e.symm)] at hr'
  obtain ⟨k1, k2, k3⟩ := h.row i' g' r' hi' hr'
  have hne : g' ≠ g := by
   rintro rfl
   obtain ⟨l1, e1⟩ := List.getElem?_eq_some_iff.1 hi
   obtain ⟨l2, e2⟩ := List.getElem?_eq_some_iff.1 hi'
   rcases Nat.lt_trichotomy i i' with hl | hl | hl
   ·exact List.pairwise_iff_getElem.1 h.nodup i i' l1 l2 hl (e1.trans e2.symm)
   ·exact he hl.symm
   ·exact List.pairwise_iff_getElem.1 h.nodup i' i l2 l1 hl (e2.trans e1.symm)
  exact ⟨k1.far (by simpa using hne) _, k2, k3⟩
theorem Grid.push {A' : Option Addr} {c' g : Nat} {r : List Int} (h : Grid w base A c n gs rows) (hg : Blk w g 3 (intCells r)) (hr : r.length = n) (hb : base ≤ g) (hnew : ∀ g' ∈ gs, g' ≠ g)
  (hown : w'.ownsRow base 25 1 (.slice A' (gs.length + 1) c') (gs.length + 1) ((gs.map fun g => .slice (some ⟨g, 0, none⟩) n n) ++ [.slice (some ⟨g, 0, none⟩) n n]))
  (hgr : w.grownBy w' (Value.slice A gs.length c).ownBlock) : Grid w' base A' c' n (gs ++ [g]) (rows ++ [r]) := by
 have keep : ∀ {g' : Nat} {cs : Array Value}, Blk w g' 3 cs → Blk w' g' 3 cs := fun hc => hc.grown hgr (own_blk_ne h.outer hc (by decide))
 refine ⟨by rw [List.map_append, List.length_append]; exact hown, by simp [h.len], fun i g' r' hi hr' => ?_, ?_⟩
 ·rcases Nat.lt_trichotomy i gs.length with hlt | rfl | hgt
  ·rw [List.getElem?_append_left hlt] at hi
   rw [List.getElem?_append_left (by rw [h.len]; exact hlt)] at hr'
   obtain ⟨k1, k2, k3⟩ := h.row i g' r' hi hr'
   exact ⟨keep k1, k2, k3⟩
  ·have e1 : g = g' := by simpa using hi
   have e2 : r = r' := by rw [← h.len] at hr'; simpa using hr'
   subst e1 e2
   exact ⟨keep hg, hr, hb⟩
  ·rw [List.getElem?_eq_none (by simp; omega)] at hi; cases hi
 ·rw [List.nodup_append]
  exact ⟨h.nodup, by simp, fun a ha b hb' => by rw [List.mem_singleton.1 hb']; exact hnew a ha⟩
theorem Grid.reads (h : Grid w base A c n gs rows) : RowsR w w.heap.size A rows :=
 ⟨gs.map fun g => .slice (some ⟨g, 0, none⟩) n n, by rw [h.len]; exact Reads.of_own h.outer, fun i r hi => by
  obtain ⟨g, hg⟩ := get_of_lt (xs := gs) (k := i) (by have := (List.getElem?_eq_some_iff.1 hi).1; have := h.len; omega)
  obtain ⟨h1, h2, h3⟩ := h.row i g r hg hi
  subst h2
  exact ⟨some ⟨g, 0, none⟩, r.length, by simp [hg], by simp [ints], fun _ => ⟨g, 0, rfl, h1.lt, fun j v hv => by rw [Nat.zero_add, h1.cell j]; simpa [intCells] using hv⟩⟩⟩
end
end Go.Proofs.YtnbikkcalcpedaaGreatDoor
namespace Go.Proofs.YtnbikkcalcpedaaGreatDoor
open Go.RowKit
def entry (rows : List (List Int)) (a b : Nat) : Int := ((rows[a]?.getD [])[b]?).getD 0
theorem entry_of {rows : List (List Int)} {a b : Nat} {r : List Int} {x : Int} (h : rows[a]? = some r) (h' : r[b]? = some x) : entry rows a b = x := by simp [entry, h, h']
def joinRow (f : Nat → Nat → Int) (a b : Nat) : List E3 := (List.range' a (b - a)).filterMap fun j : Nat => if 0 < f a j then some ((a : Int), (j : Int), f a j) else none
def joinTo (f : Nat → Nat → Int) (n a : Nat) : List E3 := (List.range a).flatMap fun i => joinRow f i n
def joined (f : Nat → Nat → Int) (n : Nat) : List E3 := joinTo f n n
theorem joinRow_none {f : Nat → Nat → Int} {a b : Nat} (h : b ≤ a) : joinRow f a b = [] := by
 unfold joinRow
 rw [show b - a = 0 from by omega]
 rfl
theorem joinRow_succ {f : Nat → Nat → Int} {a b : Nat} (h : a ≤ b) : joinRow f a (b + 1) = joinRow f a b ++ (if 0 < f a b then [((a : Int), (b : Int), f a b)] else []) := by
 unfold joinRow
 rw [show b + 1 - a = (b - a) + 1 from by omega, List.range'_1_concat, List.filterMap_append]
 congr 1
 rw [show a + (b - a) = b from by omega]
 by_cases hf : 0 < f a b <;> simp [hf]
theorem joinTo_succ (f : Nat → Nat → Int) (n a : Nat) : joinTo f n (a + 1) = joinTo f n a ++ joinRow f a n := by simp [joinTo, List.range_succ, List.flatMap_append]
theorem joinRow_length (f : Nat → Nat → Int) (a b : Nat) : (joinRow f a b).length ≤ b - a := by
 unfold joinRow
 have := List.length_filterMap_le (fun j : Nat => if 0 < f a j then some ((a : Int), (j : Int), f a j) else none) (List.range' a (b - a))
 simpa using this
theorem joinTo_length (f : Nat → Nat → Int) (n a : Nat) : (joinTo f n a).length ≤ a * n := by
 induction a with
 | zero => simp [joinTo]
 | succ a ih =>
   have := joinRow_length f a n
   rw [joinTo_succ, List.length_append, Nat.succ_mul]; omega
theorem rjoined_any (n : Nat) (hn : n ≤ 1000) (A : Option Addr) (c : Nat) (rows : List (List Int)) (hl : rows.length = n) (hr : ∀ r ∈ rows, r.length = n) (w : World) (h : RowsR w w.heap.size A rows) :
  Calls Tryz.prog 191 #[.int .i64 n, .slice A rows.length c] w fun e w' =>
   ∃ A1 c1, e = .returned (.agg #[.int .i64 n, .slice A1 (joined (entry rows) n).length c1]) ∧ OwnE w' w.heap.size A1 c1 (joined (entry rows) n) ∧ Below w.heap.size w w' := by
 have HR := Lib.hid hr
 have HL := Lib.hid hl
 clear hr hl
 go_enter Tryz.func191, Tryz.ntmps191
 go_wp2
 go_loopw [6] (fun i wr => ∃ (a : Nat) (A' : Option Addr) (c' : Nat), a ≤ n ∧ i = .int .i64 a ∧ Blk wr w.heap.size 24 #[.int .i64 0, .slice none 0 0] ∧ Blk wr (w.heap.size + 1) 24 #[.int .i64 n, .slice A' (joinTo (entry rows) n a).length c'] ∧
  OwnE wr w.heap.size A' c' (joinTo (entry rows) n a) ∧ Below w.heap.size w wr) (fun i _ => n - (intOf i).toNat)
 case atStart =>
  have := Blk.new (w.alloc (.cells #[.int .i64 0, .slice none 0 0] 24)) 24 #[.int .i64 n, .slice none 0 0]
  refine ⟨0, none, 0, by omega, rfl, (Blk.new _ _ _).alloc _, by simpa [joinTo] using this, OwnE.nil_ _ _, ((Below.refl _ _).alloc (Nat.le_refl _) _).alloc (by simp) _⟩
 case round =>
  obtain ⟨a, A', c', ha, rfl, g0, g1, hown, hbel⟩ := hrel
  have q0 := g1.cell 0
  have q1 := g1.cell 1
  by_cases hlt : a < n
  ·have hi : (a : Int) < (n : Int) := by omega
   obtain ⟨wo, rfl⟩ : ∃ wo : World, wo = wr := ⟨_, rfl⟩
   go_wp2
   go_loopw [7] (fun i wr => ∃ (b : Nat) (A' : Option Addr) (c' : Nat), a ≤ b ∧ b ≤ n ∧ i = .int .i64 b ∧ Blk wr w.heap.size 24 #[.int .i64 0, .slice none 0 0] ∧ Blk wr (w.heap.size + 1) 24 #[.int .i64 n, .slice A' (joinTo (entry rows) n a ++ joinRow (entry rows) a b).length c'] ∧
    OwnE wr w.heap.size A' c' (joinTo (entry rows) n a ++ joinRow (entry rows) a b) ∧ Below w.heap.size w wr) (fun i _ => n - (intOf i).toNat)
   case atStart =>
    refine ⟨a, A', c', by omega, by omega, by go_num, g0, ?_, ?_, hbel⟩
    ·rw [joinRow_none (Nat.le_refl _), List.append_nil]; exact g1
    ·rw [joinRow_none (Nat.le_refl _), List.append_nil]; exact hown
   case round =>
    clear q0 q1 g0 g1 hown hbel
    obtain ⟨b, A', c', hab, hb, rfl, g0, g1, hown, hbel⟩ := hrel
    have q0 := g1.cell 0
    have q1 := g1.cell 1
    have hz := hbel.size
    have hl13 : (joinTo (entry rows) n a ++ joinRow (entry rows) a b).length ≤ 1048000 := by
     have h1 := joinTo_length (entry rows) n a
     have h2 := joinRow_length (entry rows) a b
     have : a * n ≤ 1000 * 1000 := Nat.mul_le_mul (by omega) (by omega)
     rw [List.length_append]; omega
    obtain ⟨es, hes⟩ : ∃ es, joinTo (entry rows) n a ++ joinRow (entry rows) a b = es := ⟨_, rfl⟩
    rw [hes] at g1 hown hl13 q1
    have HES := Lib.hid hes
    clear hes
    by_cases hlt2 : b < n
    ·have hi2 : (b : Int) < (n : Int) := by omega
     obtain ⟨r, hrow⟩ := get_of_lt (xs := rows) (k := a) (by have := HL.out; omega)
     have hrl := HR.out r (List.mem_of_getElem? hrow)
     obtain ⟨x, hx⟩ := get_of_lt (xs := r) (k := b) (by omega)
     obtain ⟨b1, off, A5, c5, rfl, hb1, hc1, hrd⟩ := (h.below hbel).at_ hrow
     obtain ⟨b2, off2, rfl, hb2, hc2⟩ := hrd.at_ (ints_at hx)
     have HE := Lib.hid (entry_of hrow hx)
     have hi3 : (a : Int) < (rows.length : Int) := by have := HL.out; omega
     have hi4 : (b : Int) < (r.length : Int) := by omega
     have HX := Lib.hid hx
     have HW := Lib.hid hrow
     have HRL := Lib.hid hrl
     clear hx hrow hrl hrd
     by_cases h0 : 0 < x
     ·have gN := g1.alloc (.cells #[.int .i64 a, .int .i64 b, .int .i64 x] 107)
      have n0 := gN.cell 0
      have n1 := gN.cell 1
      have g0N := g0.alloc (.cells #[.int .i64 a, .int .i64 b, .int .i64 x] 107)
      have hownN := OwnE.alloc hown (.cells #[.int .i64 a, .int .i64 b, .int .i64 x] 107)
      have hzN : w.heap.size ≤ (wr.alloc (.cells #[.int .i64 a, .int .i64 b, .int .i64 x] 107)).heap.size := by simp; omega
      have hlN : es.length + 1 ≤ 1048576 := by omega
      go_wp2
      go_region_law (refine append_step2 rfl (.tmp 30) (.tmp 41) _ _ rfl w.heap.size 107 107 Tryz.underlying22 Tryz.underlying22 info_edge rfl (by omega) A' c' es.length (edgeCells es) rfl hownN (wr.heap.size + 1) (edgeCells [((a : Int), (b : Int), x)]) rfl (Reads.boxN wr #[.int .i64 a, .int .i64 b, .int .i64 x] 107) edgeCells_one hlN hzN ?_; intro A3 c3 w3 hown3 hg3 hb3 _; have g3 := Blk.grown (h := by exact gN) hg3 (own_blk_ne hown g1 (by decide)); have p1 := g3.cell 1; have f3 := g3.frozen)
      all_goals (
       have gB : Below w.heap.size w w3 := hbel.trans (((Below.refl _ _).alloc (by exact hz) _).trans ⟨hb3.os, hb3.tape, hb3.output, hb3.size, hb3.block⟩)
       have g03 := Blk.grown (h := by exact g0N) hg3 (own_blk_ne hown g0 (by decide))
       have HR : joinTo (entry rows) n a ++ joinRow (entry rows) a (b + 1) = es ++ [((a : Int), (b : Int), x)] := by rw [joinRow_succ hab, HE.out, if_pos h0, ← List.append_assoc, HES.out]
       have HR := Lib.hid HR
       go_wp2
       go_roundw
       case rel =>
        refine ⟨b + 1, A3, c3, by omega, by omega, by go_num, g03.far (by simp) _, ?_, ?_, ?_⟩
        ·rw [HR.out, List.length_append]; exact g3.set_ 1 _
        ·rw [HR.out]; exact OwnE.set_blk (by unfold OwnE; rw [edgeCells_append, List.length_append]; exact hown3) g3 (by decide) 1 _
        ·exact gB.setCell (by simp) _
       case measure => simp [intOf]; omega)
     ·have h0' : (0 < x) = False := by simpa using h0
      go_wp2
      have HR : joinTo (entry rows) n a ++ joinRow (entry rows) a (b + 1) = es := by rw [joinRow_succ hab, HE.out, if_neg h0, List.append_nil, HES.out]
      have HR := Lib.hid HR
      go_roundw
      case rel =>
       refine ⟨b + 1, A', c', by omega, by omega, by go_num, g0, ?_, ?_, hbel⟩
       ·rw [HR.out]; exact g1
       ·rw [HR.out]; exact hown
      case measure => simp [intOf]; omega
    ·have hi2 : ¬ (b : Int) < (n : Int) := by omega
     go_wp2
     have HR : es = joinTo (entry rows) n (a + 1) := by rw [joinTo_succ, ← HES.out, show b = n from by omega]
     have HR := Lib.hid HR
     go_roundw
     case rel =>
      refine ⟨a + 1, A', c', by omega, by go_num, g0, ?_, ?_, hbel⟩
      ·rw [← HR.out]; exact g1
      ·rw [← HR.out]; exact hown
     case measure => simp [intOf]; omega
  ·have hi : ¬ (a : Int) < (n : Int) := by omega
   obtain rfl : a = n := by omega
   obtain ⟨es, hes⟩ : ∃ es, joinTo (entry rows) a a = es := ⟨_, rfl⟩
   have e : joined (entry rows) a = es := by rw [joined, hes]
   rw [hes] at g1 hown q1
   have HES := Lib.hid e
   clear hes e
   have f0 := g0.frozen
   have p0 := g0.cell 0
   have p1 := g0.cell 1
   go_wp2
   try simp only [Exit.inBlock, Exit.then]
   refine bodyPost_ret (results_g rfl rfl ((g0.set_ 0 _).set_ 1 _) rfl) rfl ?_
   refine ⟨A', c', by rw [HES.out]; rfl, ?_, (hbel.setCell (Nat.le_refl _) _).setCell (Nat.le_refl _) _⟩
   rw [HES.out]; exact (hown.set_blk g0 (by decide) _ _).set_blk (g0.set_ 0 _) (by decide) _ _
end Go.Proofs.YtnbikkcalcpedaaGreatDoor
