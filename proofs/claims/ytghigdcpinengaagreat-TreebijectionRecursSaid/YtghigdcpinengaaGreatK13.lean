/-
  Texts of this claim, put together: HeapW, DelF, ConnB.
-/
import Derived.Test.YtghigdcpinengaaGreatK11
import Derived.Test.YtghigdcpinengaaGreatK05
import Derived.Test.YtghigdcpinengaaGreatK04
import Derived.Deep.QuietTactic
import Derived.BigQuiet
import Derived.Deep.RegionLaw
import Derived.Deep.RegionHeld3
import Derived.Lib.SliceRun
import Derived.WalkKit
import Derived.Test.YtghigdcpinengaaGreatK02
/-! container/heap over treebijection.queue: the methods, sifting, Push and Pop. -/
namespace Go.Proofs.YtghigdcpinengaaGreat
open Go.RowKit

set_option maxHeartbeats 1000000 in
theorem qless_any (A : Option Addr) (c : Nat) (H : List Int) (n : Nat) (hn : H.length = n) (i j : Nat) (hi : i < n) (hj : j < n) (w : World) (h : Reads w w.heap.size 1 A n (ints H)) :
    Calls Tryz.prog 210 #[.slice A n c, .int .i64 i, .int .i64 j] w fun e w' => e = .returned (.bool (decide (hp H i < hp H j))) ∧ ∃ n, w' = w.drewN n := by
  subst hn
  obtain ⟨b, off, rfl, hb, hc⟩ := h.at_ (ints_at (hp_at hi))
  obtain ⟨b', off', e, _, hc'⟩ := h.at_ (ints_at (hp_at hj))
  injection e with e
  injection e with e1 e2
  subst e1 e2
  have h1 : (i : Int) < (H.length : Int) := by omega
  have h2 : (j : Int) < (H.length : Int) := by omega
  go_enter Tryz.func210, Tryz.ntmps210
  go_wp2_with fail
  go_quiet (fail)
  go_wp2
  go_ret
  exact ⟨rfl, _, rfl⟩

/-- The blocks of a slice. -/
def ofA (A : Option Addr) (k : Nat) : Prop := blockOf A k
set_option maxHeartbeats 2000000 in
theorem qswap_any (base : Nat) (A : Option Addr) (c : Nat) (H : List Int) (n : Nat) (hn : H.length = n) (i j : Nat) (hi : i < n) (hj : j < n) (w : World) (h : OwnI w base A c H) :
    Calls Tryz.prog 211 #[.slice A n c, .int .i64 i, .int .i64 j] w fun e w' => e = .returned (.tuple #[]) ∧ OwnI w' base A c (swp H i j) ∧ Only (ofA A) w w' := by
  subst hn
  obtain ⟨g, hA, hg, hfr, hce⟩ := h.block (by omega)
  subst hA
  have HO := Lib.hid h
  by_cases hij : i = j
  · subst hij
    have ca := hce i _ (hp_at hi)
    have fa := hfr i
    have h1 : (i : Int) < (H.length : Int) := by omega
    unfold swp
    obtain ⟨x, hx⟩ : ∃ x, hp H i = x := ⟨_, rfl⟩
    rw [hx] at ca ⊢
    clear hfr hce hx h
    go_enter Tryz.func211, Tryz.ntmps211
    go_wp2_with fail
    go_region_law (fail)
    all_goals (
      go_wp2
      exact bodyPost_end (results_none rfl _ _ _) rfl ⟨rfl, ((HO.out.drew).put i x).put i x, ((Only.refl _ w).drew.setCell (p := ⟨g, i, none⟩) (.inl ⟨_, rfl, rfl⟩) _).setCell (p := ⟨g, i, none⟩) (.inl ⟨_, rfl, rfl⟩) _⟩)
  · have ca := hce i _ (hp_at hi)
    have cb := hce j _ (hp_at hj)
    have fa := hfr i
    have fb := hfr j
    have h1 : (i : Int) < (H.length : Int) := by omega
    have h2 : (j : Int) < (H.length : Int) := by omega
    have hji : ¬ j = i := fun e => hij e.symm
    unfold swp
    obtain ⟨x, hx⟩ : ∃ x, hp H i = x := ⟨_, rfl⟩
    obtain ⟨y, hy⟩ : ∃ y, hp H j = y := ⟨_, rfl⟩
    rw [hx] at ca ⊢
    rw [hy] at cb ⊢
    clear hfr hce hx hy h
    go_enter Tryz.func211, Tryz.ntmps211
    go_wp2_with fail
    go_region_law (fail)
    all_goals (
      go_wp2
      exact bodyPost_end (results_none rfl _ _ _) rfl ⟨rfl, ((HO.out.drew).put i y).put j x, ((Only.refl _ w).drew.setCell (p := ⟨g, i, none⟩) (.inl ⟨_, rfl, rfl⟩) _).setCell (p := ⟨g, j, none⟩) (.inl ⟨_, rfl, rfl⟩) _⟩)

/-- What the table says of a method. -/
def methOf (P : Program) (T : TypeId) (name : String) : Option (Option (FuncId × Bool) × Array FieldStep) := (P.info? T).bind fun i => (i.methods.find? (·.name == name)).map fun m => (m.func, m.path)
theorem meth_parts {P : Program} {T : TypeId} {name : String} {r : Option (FuncId × Bool)} (h : methOf P T name = some (r, #[])) : ∃ i m, P.info? T = some i ∧ i.methods.find? (·.name == name) = some m ∧ m.func = r ∧ m.path = #[] := by
  unfold methOf at h
  rcases hi : P.info? T with _ | i
  · rw [hi] at h; cases h
  · rw [hi] at h
    rcases hm : i.methods.find? (·.name == name) with _ | m
    · simp [hm] at h
    · simp [hm] at h
      exact ⟨i, m, rfl, hm, h.1, h.2⟩
/-- A method of the value, called on a pointer to it. -/
theorem run_method_ptr {P : Program} {T E : TypeId} {name : String} {f : FuncId} (h : methOf P T name = some (some (f, false), #[])) (hu : P.underlying T = some (.pointer E)) (hag : ∀ w, (isAgg E).run P w = .ok false w) (n : Nat) (a : Addr) (v : Value) (w : World) (hc : w.cell? a = some v) :
    (method (n + 1) T (.pointer (some a)) name).run P w = .ok (f, v) w := by
  obtain ⟨i, m, hi, hm, hf, hp⟩ := meth_parts h
  have hk : ∀ (q : String) (w : World), (Builtin.ssaWrapNilChk_ #[T] T #[.pointer (some a), strVal "", strVal q]).run P w = .ok (.pointer (some a)) w := fun q w => rfl
  unfold method
  simp [typeInfo, hi, hm, hf, hp, follow, receiverAt, run_underlying hu, Place.get, hk, asAddr, loadVar, hag, run_load, hc]
theorem run_method_own {P : Program} {T E : TypeId} {name : String} {f : FuncId} (h : methOf P T name = some (some (f, true), #[])) (hu : P.underlying T = some (.pointer E)) (n : Nat) (a : Addr) (w : World) :
    (method (n + 1) T (.pointer (some a)) name).run P w = .ok (f, .pointer (some a)) w := by
  obtain ⟨i, m, hi, hm, hf, hp⟩ := meth_parts h
  unfold method
  simp [typeInfo, hi, hm, hf, hp, follow, receiverAt, run_underlying hu, Place.get]
theorem ml_less : methOf Tryz.prog 179 "Less" = some (some (210, false), #[]) := by kernel_rfl
theorem ml_len : methOf Tryz.prog 179 "Len" = some (some (140, false), #[]) := by kernel_rfl
theorem ml_swap : methOf Tryz.prog 179 "Swap" = some (some (211, false), #[]) := by kernel_rfl
theorem ml_pop : methOf Tryz.prog 179 "Pop" = some (some (212, true), #[]) := by kernel_rfl
theorem ml_push : methOf Tryz.prog 179 "Push" = some (some (213, true), #[]) := by kernel_rfl
theorem ml_agg (w : World) : (isAgg 87).run Tryz.prog w = .ok false w := by kernel_rfl

theorem UpI.hpl {H : List Int} {n j : Nat} (h : UpI H n j) : j < n := h.lt
set_option maxHeartbeats 4000000 in
set_option maxRecDepth 100000 in
theorem up_any (b o base : Nat) (T : TypeId) (cs : Array Value) (A : Option Addr) (c : Nat) (H : List Int) (n : Nat) (hn : H.length = n) (hn1 : n ≤ 1000) (j : Nat) (hI : UpI H n j) (w : World) (hO : OwnI w base A c H) (hblk : Blk w b T cs) (hcs : cs[o]? = some (.slice A n c)) (hba : ¬ ofA A b) :
    Calls Tryz.prog 169 #[.iface 179 (.pointer (some ⟨b, o, none⟩)), .int .i64 j] w fun e w' => e = .returned (.tuple #[]) ∧ ∃ H' : List Int, H'.length = n ∧ H'.Perm H ∧ HeapN H' n ∧ OwnI w' base A c H' ∧ Only (ofA A) w w' := by
  have HI := Lib.hid hI
  have HO := Lib.hid hO
  have HCS := Lib.hid hcs
  have HN := Lib.hid hn
  clear hI hO hcs hn
  go_enter Tryz.func169, Tryz.ntmps169
  go_wp2_with fail
  go_loopw [1, 4] (fun x _ wl => ∃ q : Nat, x = .int .i64 q ∧ q ≤ n ∧ Hid (∃ HH : List Int, HH.length = n ∧ UpI HH n q ∧ HH.Perm H ∧ OwnI wl base A c HH ∧ Only (ofA A) w wl)) (fun x _ _ => (intOf x).toNat)
  case atStart => exact ⟨j, rfl, by have := HI.out.lt; omega, H, HN.out, HI.out, List.Perm.refl _, HO.out, Only.refl _ _⟩
  case round =>
    obtain ⟨q, rfl, hq, HIN⟩ := hrel
    obtain ⟨HH, hl, hu, hp, ho, hW⟩ := HIN.out
    have hqn := hu.lt
    have HL := Lib.hid hl
    have HU := Lib.hid hu
    have HP := Lib.hid hp
    have HOW := Lib.hid ho
    have HW := Lib.hid hW
    have kc := ((hblk.only hW hba).cell o).trans HCS.out
    clear hl hu hp ho hW HIN
    by_cases hq0 : q = 0
    · subst hq0
      go_wp2
      exact bodyPost_end (results_none rfl _ _ _) rfl ⟨rfl, HH, HL.out, HP.out, HU.out.done (.inl rfl), HOW.out, HW.out⟩
    · obtain ⟨i, hi⟩ : ∃ i, (q - 1) / 2 = i := ⟨_, rfl⟩
      have h1 : IntKind.i64.wrap ((q : Int) - 1) = (q : Int) - 1 := IntWalk.i64_in _ (by omega)
      have h3 : ((q : Int) - 1) / 2 = (i : Int) := by omega
      have h4 : ((i : Int) == (q : Int)) = false := by simp; omega
      have hiq : i < q := by omega
      have HIQ := Lib.hid hi
      have rq := HOW.out.reads
      rw [HL.out] at rq
      have mL : ∀ k, (method (k + 1) 179 (.pointer (some ⟨b, o, none⟩)) "Less").run Tryz.prog wr = .ok (210, .slice A n c) wr := fun k => run_method_ptr ml_less Tryz.underlying179 ml_agg k _ _ _ kc
      have LC := Lib.hid (qless_any A c HH n HL.out q i (by omega) (by omega) wr rq)
      obtain ⟨r, hr⟩ : ∃ r, decide (hp HH q < hp HH i) = r := ⟨_, rfl⟩
      rw [hr] at LC
      have HR := Lib.hid hr
      clear hr hi rq
      go_wp2_with fail
      refine (LC.out).mono ?_
      rintro e w1 ⟨rfl, nd, rfl⟩
      have kc2 : (wr.drewN nd).cell? ⟨b, o, none⟩ = some (.slice A n c) := kc
      have mS : ∀ k, (method (k + 1) 179 (.pointer (some ⟨b, o, none⟩)) "Swap").run Tryz.prog (wr.drewN nd) = .ok (211, .slice A n c) (wr.drewN nd) := fun k => run_method_ptr ml_swap Tryz.underlying179 ml_agg k _ _ _ kc2
      clear mL
      rcases r with _ | _
      · go_wp2
        exact bodyPost_end (results_none rfl _ _ _) rfl ⟨rfl, HH, HL.out, HP.out, HU.out.done (.inr (by rw [HIQ.out]; have := of_decide_eq_false HR.out; omega)), HOW.out.drewN nd, HW.out.drewN nd⟩
      · have SC := Lib.hid (qswap_any base A c HH n HL.out i q (by omega) (by omega) (wr.drewN nd) (HOW.out.drewN nd))
        go_wp2_with fail
        refine (SC.out).mono ?_
        rintro e w2 ⟨rfl, o2, hW2⟩
        have HIN2 : Hid (∃ HH : List Int, HH.length = n ∧ UpI HH n i ∧ HH.Perm H ∧ OwnI w2 base A c HH ∧ Only (ofA A) w w2) := by
          have hst := HU.out.step (by omega) (by rw [HIQ.out]; exact of_decide_eq_true HR.out)
          rw [HIQ.out] at hst
          exact ⟨swp HH i q, by rw [swp_length, HL.out], hst, (swp_perm (by have := HL.out; omega) (by have := HL.out; omega)).trans HP.out, o2, (HW.out.drewN nd).trans hW2⟩
        go_wp2
        go_roundw
        case rel => exact ⟨i, rfl, by omega, HIN2⟩
        case measure => simp [intOf]; omega
set_option maxHeartbeats 16000000 in
set_option maxRecDepth 100000 in
theorem down_any (b o base : Nat) (T : TypeId) (cs : Array Value) (A : Option Addr) (c : Nat) (H : List Int) (N n : Nat) (hN : H.length = N) (hN1 : N ≤ 1000) (hnN : n ≤ N) (hI : DnI H n 0) (w : World) (hO : OwnI w base A c H) (hblk : Blk w b T cs) (hcs : cs[o]? = some (.slice A N c)) (hba : ¬ ofA A b) :
    Calls Tryz.prog 158 #[.iface 179 (.pointer (some ⟨b, o, none⟩)), .int .i64 0, .int .i64 n] w fun e w' => ∃ bb, e = .returned (.bool bb) ∧ ∃ H' : List Int, H'.length = N ∧ H'.Perm H ∧ HeapN H' n ∧ OwnI w' base A c H' ∧ Only (ofA A) w w' ∧ ∀ k, n ≤ k → hp H' k = hp H k := by
  have HI := Lib.hid hI
  have HO := Lib.hid hO
  have HCS := Lib.hid hcs
  have HNN := Lib.hid hN
  clear hI hO hcs hN
  go_enter Tryz.func158, Tryz.ntmps158
  go_wp2_with fail
  go_loopw [7] (fun x wl => ∃ q : Nat, x = .int .i64 q ∧ q ≤ n ∧ Hid (∃ HH : List Int, HH.length = N ∧ DnI HH n q ∧ HH.Perm H ∧ OwnI wl base A c HH ∧ Only (ofA A) w wl ∧ ∀ k, n ≤ k → hp HH k = hp H k)) (fun x _ => n - (intOf x).toNat)
  case atStart => exact ⟨0, rfl, by omega, H, HNN.out, HI.out, List.Perm.refl _, HO.out, Only.refl _ _, fun _ _ => rfl⟩
  case round =>
    obtain ⟨q, rfl, hq, HIN⟩ := hrel
    obtain ⟨HH, hl, hu, hp_, ho, hW, hT⟩ := HIN.out
    have HT := Lib.hid hT
    have HL := Lib.hid hl
    have HU := Lib.hid hu
    have HP := Lib.hid hp_
    have HOW := Lib.hid ho
    have HW := Lib.hid hW
    have kc := ((hblk.only hW hba).cell o).trans HCS.out
    clear hl hu hp_ ho hW hT HIN
    have hw1 : IntKind.i64.wrap (2 * (q : Int)) = 2 * (q : Int) := IntWalk.i64_in _ (by omega)
    obtain ⟨p1, hp1⟩ : ∃ p1, 2 * q + 1 = p1 := ⟨_, rfl⟩
    have hw2 : IntKind.i64.wrap (2 * (q : Int) + 1) = (p1 : Int) := by rw [IntWalk.i64_in _ (by omega)]; omega
    have hw3 : 2 * (q : Int) + 1 = (p1 : Int) := by omega
    have HP1 := Lib.hid hp1
    by_cases hge : n ≤ p1
    · have hd1 : decide ((n : Int) ≤ (p1 : Int)) = true := decide_eq_true (by omega)
      have hd2 : decide (n ≤ p1) = true := decide_eq_true hge
      clear hp1
      go_wp2
      go_ret
      exact ⟨_, rfl, HH, HL.out, HP.out, HU.out.done (fun k k1 k2 => by have := HP1.out; omega), HOW.out, HW.out, HT.out⟩
    · have hd1 : decide ((n : Int) ≤ (p1 : Int)) = false := decide_eq_false (by omega)
      have hd2 : decide (n ≤ p1) = false := decide_eq_false hge
      have hd3 : decide ((p1 : Int) < 0) = false := decide_eq_false (by omega)
      obtain ⟨p2, hp2⟩ : ∃ p2, p1 + 1 = p2 := ⟨_, rfl⟩
      have hw4 : IntKind.i64.wrap ((p1 : Int) + 1) = (p2 : Int) := by rw [IntWalk.i64_in _ (by omega)]; omega
      have hw5 : (p1 : Int) + 1 = (p2 : Int) := by omega
      have HP2 := Lib.hid hp2
      by_cases hp2n : p2 < n
      · have he1 : decide ((p2 : Int) < (n : Int)) = true := decide_eq_true (by omega)
        have he2 : decide (p2 < n) = true := decide_eq_true hp2n
        have rq1 := HOW.out.reads
        rw [HL.out] at rq1
        obtain ⟨r1, hr1⟩ : ∃ r, decide (hp HH p2 < hp HH p1) = r := ⟨_, rfl⟩
        have LC := Lib.hid (qless_any A c HH N HL.out p2 p1 (by omega) (by omega) wr rq1)
        rw [hr1] at LC
        have HR1 := Lib.hid hr1
        have mL : ∀ k, (method (k + 1) 179 (.pointer (some ⟨b, o, none⟩)) "Less").run Tryz.prog (wr) = .ok (210, .slice A N c) (wr) := fun k => run_method_ptr ml_less Tryz.underlying179 ml_agg k _ _ _ kc
        clear hr1 rq1 hp1 hp2
        go_wp2_with fail
        refine (LC.out).mono ?_
        rintro e w4 ⟨rfl, nd, hw4x⟩
        have kc2 : w4.cell? ⟨b, o, none⟩ = some (.slice A N c) := by rw [hw4x]; exact kc
        have O4 : Hid (OwnI w4 base A c HH) := by rw [Hid, hw4x]; exact HOW.out.drewN nd
        have W4 : Hid (Only (ofA A) w w4) := by rw [Hid, hw4x]; exact HW.out.drewN nd
        clear mL hw4x
        rcases r1 with _ | _
        · obtain ⟨p, hpp⟩ : ∃ p, p = p1 := ⟨_, rfl⟩
          subst hpp
          have hqp : q < p ∧ p < n := ⟨by have := HP1.out; omega, by omega⟩
          have HM : Hid (∀ k, k < n → (k = 2 * q + 1 ∨ k = 2 * q + 2) → hp HH p ≤ hp HH k) := by
            rintro k k1 (k2 | k2)
            · rw [show k = p from by have := HP1.out; omega]; exact Int.le_refl _
            · rw [show k = p2 from by have := HP1.out; have := HP2.out; omega]; have := of_decide_eq_false HR1.out; omega
          have hp12 : p = 2 * q + 1 := HP1.out.symm
          clear hp12
          obtain ⟨r2, hr2⟩ : ∃ r, decide (hp HH p < hp HH q) = r := ⟨_, rfl⟩
          have rq := (O4.out).reads
          rw [HL.out] at rq
          have LC2 := Lib.hid (qless_any A c HH N HL.out p q (by omega) (by omega) (w4) rq)
          rw [hr2] at LC2
          have HR2 := Lib.hid hr2
          have mL2 : ∀ k, (method (k + 1) 179 (.pointer (some ⟨b, o, none⟩)) "Less").run Tryz.prog (w4) = .ok (210, .slice A N c) (w4) := fun k => run_method_ptr ml_less Tryz.underlying179 ml_agg k _ _ _ kc2
          clear hr2 rq
          go_wp2_with fail
          refine (LC2.out).mono ?_
          rintro e w5 ⟨rfl, nd2, hw5⟩
          have kc5 : w5.cell? ⟨b, o, none⟩ = some (.slice A N c) := by rw [hw5]; exact kc2
          have O5 : Hid (OwnI w5 base A c HH) := by rw [Hid, hw5]; exact (O4.out).drewN nd2
          have W5 : Hid (Only (ofA A) w w5) := by rw [Hid, hw5]; exact (W4.out).drewN nd2
          have mS : ∀ k, (method (k + 1) 179 (.pointer (some ⟨b, o, none⟩)) "Swap").run Tryz.prog (w5) = .ok (211, .slice A N c) (w5) := fun k => run_method_ptr ml_swap Tryz.underlying179 ml_agg k _ _ _ kc5
          clear mL2 hw5
          rcases r2 with _ | _
          · go_wp2
            go_ret
            exact ⟨_, rfl, HH, HL.out, HP.out, HU.out.done (fun k k1 k2 => by have := of_decide_eq_false HR2.out; have := HM.out k k1 k2; omega), O5.out, W5.out, HT.out⟩
          · have SC := Lib.hid (qswap_any base A c HH N HL.out q p (by omega) (by omega) w5 O5.out)
            go_wp2_with fail
            refine (SC.out).mono ?_
            rintro e w6 ⟨rfl, o6, hW6⟩
            have HIN2 : Hid (∃ HH : List Int, HH.length = N ∧ DnI HH n p ∧ HH.Perm H ∧ OwnI w6 base A c HH ∧ Only (ofA A) w w6 ∧ ∀ k, n ≤ k → hp HH k = hp H k) :=
              ⟨swp HH q p, by rw [swp_length, HL.out], HU.out.step (by omega) (by have := HP1.out; omega) HM.out (of_decide_eq_true HR2.out), (swp_perm (by have := HL.out; omega) (by have := HL.out; omega)).trans HP.out, o6, W5.out.trans hW6, fun k hk => by rw [hp_swp (by have := HL.out; omega) (by have := HL.out; omega), if_neg (by omega), if_neg (by omega)]; exact HT.out k hk⟩
            go_wp2
            go_roundw
            case rel => exact ⟨p, by go_num, by omega, HIN2⟩
            case measure => simp [intOf]; omega
        · obtain ⟨p, hpp⟩ : ∃ p, p = p2 := ⟨_, rfl⟩
          subst hpp
          have hqp : q < p ∧ p < n := ⟨by have := HP1.out; have := HP2.out; omega, hp2n⟩
          have HM : Hid (∀ k, k < n → (k = 2 * q + 1 ∨ k = 2 * q + 2) → hp HH p ≤ hp HH k) := by
            rintro k k1 (k2 | k2)
            · rw [show k = p1 from by have := HP1.out; omega]; have := of_decide_eq_true HR1.out; omega
            · rw [show k = p from by have := HP1.out; have := HP2.out; omega]; exact Int.le_refl _
          have hp12 : p = 2 * q + 2 := by have := HP1.out; have := HP2.out; omega
          clear hp12
          obtain ⟨r2, hr2⟩ : ∃ r, decide (hp HH p < hp HH q) = r := ⟨_, rfl⟩
          have rq := (O4.out).reads
          rw [HL.out] at rq
          have LC2 := Lib.hid (qless_any A c HH N HL.out p q (by omega) (by omega) (w4) rq)
          rw [hr2] at LC2
          have HR2 := Lib.hid hr2
          have mL2 : ∀ k, (method (k + 1) 179 (.pointer (some ⟨b, o, none⟩)) "Less").run Tryz.prog (w4) = .ok (210, .slice A N c) (w4) := fun k => run_method_ptr ml_less Tryz.underlying179 ml_agg k _ _ _ kc2
          clear hr2 rq
          go_wp2_with fail
          refine (LC2.out).mono ?_
          rintro e w5 ⟨rfl, nd2, hw5⟩
          have kc5 : w5.cell? ⟨b, o, none⟩ = some (.slice A N c) := by rw [hw5]; exact kc2
          have O5 : Hid (OwnI w5 base A c HH) := by rw [Hid, hw5]; exact (O4.out).drewN nd2
          have W5 : Hid (Only (ofA A) w w5) := by rw [Hid, hw5]; exact (W4.out).drewN nd2
          have mS : ∀ k, (method (k + 1) 179 (.pointer (some ⟨b, o, none⟩)) "Swap").run Tryz.prog (w5) = .ok (211, .slice A N c) (w5) := fun k => run_method_ptr ml_swap Tryz.underlying179 ml_agg k _ _ _ kc5
          clear mL2 hw5
          rcases r2 with _ | _
          · go_wp2
            go_ret
            exact ⟨_, rfl, HH, HL.out, HP.out, HU.out.done (fun k k1 k2 => by have := of_decide_eq_false HR2.out; have := HM.out k k1 k2; omega), O5.out, W5.out, HT.out⟩
          · have SC := Lib.hid (qswap_any base A c HH N HL.out q p (by omega) (by omega) w5 O5.out)
            go_wp2_with fail
            refine (SC.out).mono ?_
            rintro e w6 ⟨rfl, o6, hW6⟩
            have HIN2 : Hid (∃ HH : List Int, HH.length = N ∧ DnI HH n p ∧ HH.Perm H ∧ OwnI w6 base A c HH ∧ Only (ofA A) w w6 ∧ ∀ k, n ≤ k → hp HH k = hp H k) :=
              ⟨swp HH q p, by rw [swp_length, HL.out], HU.out.step (by omega) (by have := HP1.out; have := HP2.out; omega) HM.out (of_decide_eq_true HR2.out), (swp_perm (by have := HL.out; omega) (by have := HL.out; omega)).trans HP.out, o6, W5.out.trans hW6, fun k hk => by rw [hp_swp (by have := HL.out; omega) (by have := HL.out; omega), if_neg (by omega), if_neg (by omega)]; exact HT.out k hk⟩
            go_wp2
            go_roundw
            case rel => exact ⟨p, by go_num, by omega, HIN2⟩
            case measure => simp [intOf]; omega
      · have he1 : decide ((p2 : Int) < (n : Int)) = false := decide_eq_false (by omega)
        have he2 : decide (p2 < n) = false := decide_eq_false hp2n
        obtain ⟨p, hpp⟩ : ∃ p, p = p1 := ⟨_, rfl⟩
        subst hpp
        have hqp : q < p ∧ p < n := ⟨by have := HP1.out; omega, by omega⟩
        have HM : Hid (∀ k, k < n → (k = 2 * q + 1 ∨ k = 2 * q + 2) → hp HH p ≤ hp HH k) := by
          rintro k k1 (k2 | k2)
          · rw [show k = p from by have := HP1.out; omega]; exact Int.le_refl _
          · have := HP1.out; have := HP2.out; omega
        have hp12 : p = 2 * q + 1 := HP1.out.symm
        clear hp12
        obtain ⟨r2, hr2⟩ : ∃ r, decide (hp HH p < hp HH q) = r := ⟨_, rfl⟩
        have rq := (HOW.out).reads
        rw [HL.out] at rq
        have LC2 := Lib.hid (qless_any A c HH N HL.out p q (by omega) (by omega) (wr) rq)
        rw [hr2] at LC2
        have HR2 := Lib.hid hr2
        have mL2 : ∀ k, (method (k + 1) 179 (.pointer (some ⟨b, o, none⟩)) "Less").run Tryz.prog (wr) = .ok (210, .slice A N c) (wr) := fun k => run_method_ptr ml_less Tryz.underlying179 ml_agg k _ _ _ kc
        clear hr2 rq
        go_wp2_with fail
        refine (LC2.out).mono ?_
        rintro e w5 ⟨rfl, nd2, hw5⟩
        have kc5 : w5.cell? ⟨b, o, none⟩ = some (.slice A N c) := by rw [hw5]; exact kc
        have O5 : Hid (OwnI w5 base A c HH) := by rw [Hid, hw5]; exact (HOW.out).drewN nd2
        have W5 : Hid (Only (ofA A) w w5) := by rw [Hid, hw5]; exact (HW.out).drewN nd2
        have mS : ∀ k, (method (k + 1) 179 (.pointer (some ⟨b, o, none⟩)) "Swap").run Tryz.prog (w5) = .ok (211, .slice A N c) (w5) := fun k => run_method_ptr ml_swap Tryz.underlying179 ml_agg k _ _ _ kc5
        clear mL2 hw5
        rcases r2 with _ | _
        · go_wp2
          go_ret
          exact ⟨_, rfl, HH, HL.out, HP.out, HU.out.done (fun k k1 k2 => by have := of_decide_eq_false HR2.out; have := HM.out k k1 k2; omega), O5.out, W5.out, HT.out⟩
        · have SC := Lib.hid (qswap_any base A c HH N HL.out q p (by omega) (by omega) w5 O5.out)
          go_wp2_with fail
          refine (SC.out).mono ?_
          rintro e w6 ⟨rfl, o6, hW6⟩
          have HIN2 : Hid (∃ HH : List Int, HH.length = N ∧ DnI HH n p ∧ HH.Perm H ∧ OwnI w6 base A c HH ∧ Only (ofA A) w w6 ∧ ∀ k, n ≤ k → hp HH k = hp H k) :=
            ⟨swp HH q p, by rw [swp_length, HL.out], HU.out.step (by omega) (by have := HP1.out; omega) HM.out (of_decide_eq_true HR2.out), (swp_perm (by have := HL.out; omega) (by have := HL.out; omega)).trans HP.out, o6, W5.out.trans hW6, fun k hk => by rw [hp_swp (by have := HL.out; omega) (by have := HL.out; omega), if_neg (by omega), if_neg (by omega)]; exact HT.out k hk⟩
          go_wp2
          go_roundw
          case rel => exact ⟨p, by go_num, by omega, HIN2⟩
          case measure => simp [intOf]; omega
end Go.Proofs.YtghigdcpinengaaGreat

/-! slices.DeleteFunc on ints, with a function that has captured one variable: the row of the call's own is cut to what is kept. -/
namespace Go.Proofs.YtghigdcpinengaaGreat
open Go.RowKit

theorem OwnI.cut {w : World} {base c g : Nat} {xs : List Int} (h : OwnI w base (some ⟨g, 0, none⟩) c xs) (k : Nat) (hk : k ≤ xs.length) : OwnI w base (some ⟨g, 0, none⟩) c (xs.take k) := by
  obtain ⟨h1, h2⟩ := h
  have e : (xs.take k).length = k := by simp; omega
  rcases h2 with ⟨h2, h3⟩ | ⟨g', cap, cur, hv, hg, hh, r1, r2, r3, r4⟩
  · simp at h2
  · injection hv with hv1 hv2 hv3
    refine ⟨by rw [ints_length]; simp, .inr ⟨g', cap, cur, by rw [hv1, hv3], hg, hh, by omega, r2, r3, ?_⟩⟩
    rw [e, Nat.mul_one]
    rw [Nat.mul_one] at r4
    have : (cur.toList.take xs.length).take k = (ints xs).take k := by rw [r4]
    rw [List.take_take, Nat.min_eq_left hk] at this
    rw [this]; simp [ints, List.map_take]
theorem OwnI.zero {base c g : Nat} {xs : List Int} : ∀ (n o : Nat) {w : World}, OwnI w base (some ⟨g, 0, none⟩) c xs → xs.length ≤ o → OwnI (w.setCells g o (List.replicate n (.int .i64 0))) base (some ⟨g, 0, none⟩) c xs
  | 0, _, _, h, _ => h
  | n + 1, o, w, h, ho => by
    rw [List.replicate_succ]
    refine OwnI.zero n (o + 1) (w := w.setCell ⟨g, o, none⟩ (.int .i64 0)) ?_ (by omega)
    have := h.put o 0
    rw [List.set_eq_of_length_le ho] at this
    exact this
theorem OwnI.cap {w : World} {base c g : Nat} {xs : List Int} (h : OwnI w base (some ⟨g, 0, none⟩) c xs) : xs.length ≤ c := by
  obtain ⟨h1, h2⟩ := h
  rcases h2 with ⟨h2, h3⟩ | ⟨g', cap, cur, hv, hg, hh, r1, r2, r3, r4⟩
  · simp at h2
  · injection hv with hv1 hv2 hv3
    omega

/-- The filter's own invariant: i elements are kept out of the first j. -/
def Kept (p : Int → Bool) (xs ks : List Int) (i j : Nat) : Prop := ks.length = xs.length ∧ i < j ∧ j ≤ xs.length ∧ ks.take i = (xs.take j).filter (fun x => !p x) ∧ ∀ q, j ≤ q → ks[q]? = xs[q]?
theorem Kept.start {p : Int → Bool} {xs : List Int} {k : Nat} {x : Int} (h1 : xs[k]? = some x) (h2 : p x = true) (h3 : ∀ x ∈ xs.take k, p x = false) : Kept p xs xs k (k + 1) := by
  obtain ⟨hk, e⟩ := List.getElem?_eq_some_iff.1 h1
  refine ⟨rfl, by omega, by omega, ?_, fun _ _ => rfl⟩
  rw [take_snoc h1, List.filter_append]
  have : (xs.take k).filter (fun x => !p x) = xs.take k := List.filter_eq_self.2 fun x hx => by simp [h3 x hx]
  rw [this]; simp [h2]
theorem Kept.skip {p : Int → Bool} {xs ks : List Int} {i j : Nat} {x : Int} (h : Kept p xs ks i j) (h1 : xs[j]? = some x) (h2 : p x = true) : Kept p xs ks i (j + 1) := by
  obtain ⟨hk, e⟩ := List.getElem?_eq_some_iff.1 h1
  obtain ⟨a, b, c, d, f⟩ := h
  refine ⟨a, by omega, by omega, ?_, fun q hq => f q (by omega)⟩
  rw [take_snoc h1, List.filter_append, d]; simp [h2]
theorem Kept.keep {p : Int → Bool} {xs ks : List Int} {i j : Nat} {x : Int} (h : Kept p xs ks i j) (h1 : xs[j]? = some x) (h2 : p x = false) : Kept p xs (ks.set i x) (i + 1) (j + 1) := by
  obtain ⟨hk, e⟩ := List.getElem?_eq_some_iff.1 h1
  obtain ⟨a, b, c, d, f⟩ := h
  refine ⟨by simpa using a, by omega, by omega, ?_, fun q hq => ?_⟩
  · have hs : (ks.set i x)[i]? = some x := by rw [List.getElem?_set_self (by omega)]
    rw [take_snoc hs, List.take_set_of_le (Nat.le_refl _), d, take_snoc h1, List.filter_append]; simp [h2]
  · rw [List.getElem?_set_ne (by omega)]; exact f q (by omega)
theorem Kept.done {p : Int → Bool} {xs ks : List Int} {i : Nat} (h : Kept p xs ks i xs.length) : ks.take i = xs.filter (fun x => !p x) := by
  obtain ⟨a, b, c, d, f⟩ := h
  rw [d, List.take_length]
end Go.Proofs.YtghigdcpinengaaGreat

/-! Connectedness, as a bool. -/
namespace Go.Proofs.YtghigdcpinengaaGreat
open Go.RowKit

/-- Is a right graph connected? -/
def connB (n : Nat) (es : List E3) : Bool := decide ((partsTo es n n).1 = 1)
theorem connB_iff {n : Nat} {es : List E3} (hG : RightG n es) : connB n es = true ↔ AllConn n es := by
  rw [← partsTo_connected hG]; simp [connB]
theorem connB_joins {n : Nat} {es : List E3} {f : List Nat} (hG : RightG n es) (h : Joins es f) : connB n es = decide (rootsTo f n = 1) := by
  rw [Bool.eq_iff_iff, connB_iff hG, ← joins_connected h hG]; simp

end Go.Proofs.YtghigdcpinengaaGreat

