/-
  firing.Apply at right arguments: what a script moves.
-/
import Derived.Test.YthbannpmfdflaaaKeepsP
import Derived.Test.YthbannpmfdflaaaLegal
import Derived.Test.YthbannpmfdflaaaKindle
import Derived.Test.YthbannpmfdflaaaOwnSet
import Derived.Test.YthbannpmfdflaaaIter
import Derived.Laws.EntriesVeiled
import Derived.Deep.QuietTactic
import Derived.BigQuiet
namespace Go.Proofs.Ythbannpmfdflaaa
open Go.RowKit

theorem addAt_set {xs : List Int} {k : Nat} {x : Int} (h : xs[k]? = some x) (d : Int) : addAt xs k d = xs.set k (x + d) := by unfold addAt; rw [getD_at h]

set_option maxRecDepth 100000 in
set_option maxHeartbeats 2000000 in
theorem along_any (gS gO : Nat) (S : Option Addr) (c : Nat) (ss : List Int) (g c' base : Nat) (xs : List Int) (a b : Nat) (m : Int) (ha : a < xs.length) (hb : b < xs.length) (hl : ss.length = xs.length) (hn : xs.length ≤ 12) (hm : 1 ≤ m ∧ m ≤ 50) (hbs : Bd 1048576 ss) (M : Int) (hM : 0 ≤ M ∧ M ≤ 1000000000000000) (hbx : Bd M xs) (w : World)
    (hS : Blk w gS 29 #[.slice S ss.length c]) (hO : Blk w gO 26 #[.slice (some ⟨g, 0, none⟩) xs.length c']) (hr : Reads w w.heap.size 1 S ss.length (ints ss)) (hd : ∀ k, blockOf S k → k ≠ g) (ho : OwnI w base (some ⟨g, 0, none⟩) c' xs) :
    Calls Try.prog 135 #[.agg #[.int .i64 a, .int .i64 b, .int .i64 m], .pointer (some ⟨gS, 0, none⟩), .pointer (some ⟨gO, 0, none⟩)] w fun e w' =>
      (∃ v, e = .returned v) ∧ OwnI w' base (some ⟨g, 0, none⟩) c' (overE ss xs ((a : Int), (b : Int), m)) ∧ Only (fun k => k = g) w w' := by
  obtain ⟨x, hx⟩ := get_of_lt (xs := ss) (k := a) (by omega)
  obtain ⟨y, hy⟩ := get_of_lt (xs := ss) (k := b) (by omega)
  have hbx1 := hbs.at_ hx
  have hby1 := hbs.at_ hy
  obtain ⟨fl, hfl⟩ : ∃ fl, m * (x - y) = fl := ⟨_, rfl⟩
  have hflb : -104857600 ≤ fl ∧ fl ≤ 104857600 := by
    have h1 : -2097152 ≤ x - y ∧ x - y ≤ 2097152 := by omega
    rw [← hfl]
    constructor
    · have h2 : m * (-2097152) ≤ m * (x - y) := Int.mul_le_mul_of_nonneg_left h1.1 (by omega)
      omega
    · have h2 : m * (x - y) ≤ m * 2097152 := Int.mul_le_mul_of_nonneg_left h1.2 (by omega)
      omega
  have hfe : flowE ss ((a : Int), (b : Int), m) = fl := by
    unfold flowE
    simp only [Int.toNat_natCast]
    rw [getD_at hx, getD_at hy, hfl]
  obtain ⟨u, hu⟩ := get_of_lt ha
  have hub := hbx.at_ hu
  have hx1l : (xs.set a (u - fl)).length = xs.length := by simp
  obtain ⟨v, hv⟩ := get_of_lt (xs := xs.set a (u - fl)) (k := b) (by omega)
  have hvb : -(M + 104857600) ≤ v ∧ v ≤ M + 104857600 := by
    rw [List.getElem?_set] at hv
    by_cases e : a = b
    · rw [if_pos e, if_pos ha] at hv
      injection hv with hv
      omega
    · rw [if_neg e] at hv
      have := hbx.at_ hv
      omega
  have hres : overE ss xs ((a : Int), (b : Int), m) = (xs.set a (u - fl)).set b (v + fl) := by
    unfold overE
    rw [hfe]
    simp only [Int.toNat_natCast]
    rw [addAt_set hu, show u + -fl = u - fl from by omega, addAt_set hv]
  have e0 := Blk.new w 130 #[.int .i64 a, .int .i64 b, .int .i64 m]
  have S1 := hS.alloc (.cells #[.int .i64 a, .int .i64 b, .int .i64 m] 130)
  have O1 := hO.alloc (.cells #[.int .i64 a, .int .i64 b, .int .i64 m] 130)
  have R1 := hr.alloc (Nat.le_refl _) (.cells #[.int .i64 a, .int .i64 b, .int .i64 m] 130)
  have W1 := OwnI.alloc ho (.cells #[.int .i64 a, .int .i64 b, .int .i64 m] 130)
  obtain ⟨w1, hw1⟩ : ∃ w1, w.alloc (.cells #[.int .i64 a, .int .i64 b, .int .i64 m] 130) = w1 := ⟨_, rfl⟩
  have X1 : Only (fun k => k = g) w w1 := by rw [← hw1]; exact (Only.refl _ w).alloc _
  have hgS := S1.cell 0
  obtain ⟨s, off, rfl, hsb, hcx⟩ := R1.at_ (ints_at hx)
  obtain ⟨s', off', hA, _, hcy⟩ := R1.at_ (ints_at hy)
  injection hA with hA; injection hA with q1 q2; subst q1 q2
  have hsg : s ≠ g := hd s ⟨_, rfl, rfl⟩
  rw [hw1] at e0 S1 O1 R1 W1 hcx hcy hgS
  have hgO : gO ≠ g := by
    intro e
    subst e
    exact own_blk W1 O1 (by decide) ⟨_, rfl, rfl⟩ rfl
  have hgw : w.heap.size ≠ g := by have := (own_lt ho (k := g) ⟨_, rfl, rfl⟩).2; omega
  have p0 := e0.cell 0
  have p1 := e0.cell 1
  have p2 := e0.cell 2
  have hws : IntKind.i64.wrap (x - y) = x - y := IntWalk.i64_in _ (by omega)
  have hwm : IntKind.i64.wrap (m * (x - y)) = fl := by rw [hfl]; exact IntWalk.i64_in _ (by omega)
  have hwu : IntKind.i64.wrap (u - fl) = u - fl := IntWalk.i64_in _ (by omega)
  have hwv : IntKind.i64.wrap (v + fl) = v + fl := IntWalk.i64_in _ (by omega)
  have hia : (a : Int) < (ss.length : Int) := by omega
  have hib : (b : Int) < (ss.length : Int) := by omega
  have hia' : (a : Int) < (xs.length : Int) := by omega
  have hib' : (b : Int) < (xs.length : Int) := by omega
  have HW1 := Lib.hid hw1
  have HE := Lib.hid e0
  have HO1 := Lib.hid O1
  have HWW := Lib.hid W1
  have HX1 := Lib.hid X1
  have HU := Lib.hid hu
  have HV := Lib.hid hv
  have HR := Lib.hid hres
  have hn0 : 0 < xs.length := by omega
  clear hw1 W1 X1 hres hfe hfl hx hy hu hv hbs hbx hl hx1l O1 e0 S1 hO hS hr hd ho R1
  go_enter Try.func135, Try.ntmps135
  go_wp2
  rw [HW1.out]
  go_quiet (fail)
  have E1 := HE.out.drewN nq
  have O1 := HO1.out.drewN nq
  have W1 := OwnI.drewN HWW.out nq
  have X1 := HX1.out.drewN nq
  obtain ⟨w2, hw2⟩ : ∃ w2, w1.drewN nq = w2 := ⟨_, rfl⟩
  rw [hw2] at E1 O1 W1 X1 ⊢
  obtain ⟨_, hgl, hfz, hce⟩ := W1.at_ hn0
  have hfa := hfz a
  have hca := hce a u HU.out
  have O2 := O1.far (p := ⟨g, a, none⟩) hgO (.int .i64 (u - fl))
  have E2 := E1.far (p := ⟨g, a, none⟩) hgw (.int .i64 (u - fl))
  have W2 := W1.put a (u - fl)
  obtain ⟨_, _, hfz2, hce2⟩ := W2.at_ (by simp; omega)
  have hcb := hce2 b v HV.out
  have hfb2 := hfz2 b
  have W3 := W2.put b (v + fl)
  rw [← HR.out] at W3
  have X3 := (X1.setCell (p := ⟨g, a, none⟩) (.inl rfl) (.int .i64 (u - fl))).setCell (p := ⟨g, b, none⟩) (.inl rfl) (.int .i64 (v + fl))
  have o0 := O1.cell 0
  have o2 := O2.cell 0
  have q0 := E1.cell 0
  have p02 := E2.cell 0
  have p12 := E2.cell 1
  have HW3 := Lib.hid W3
  have HX3 := Lib.hid X3
  clear hw2 W3 X3 W2 W1 X1 hce hce2 hfz hfz2 O1 O2 E1 E2 p0 p1 p2 hcx hcy hgS
  go_wp2
  exact bodyPost_end (results_none rfl _ _ _) rfl ⟨⟨_, rfl⟩, HW3.out, HX3.out⟩

theorem flowE_bd {ss : List Int} {n : Nat} {e : E3} (ho : okE n e) (hbs : Bd 1048576 ss) : -104857600 ≤ flowE ss e ∧ flowE ss e ≤ 104857600 := by
  obtain ⟨a, b, m⟩ := e
  unfold okE at ho
  dsimp only at ho
  unfold flowE
  dsimp only
  have hg : ∀ k, -1048576 ≤ ss.getD k 0 ∧ ss.getD k 0 ≤ 1048576 := fun k => by
    by_cases hk : k < ss.length
    · obtain ⟨x, hx⟩ := get_of_lt hk
      rw [getD_at hx]; exact hbs.at_ hx
    · rw [getD_out (by omega)]; omega
  have h1 := hg a.toNat
  have h2 := hg b.toNat
  obtain ⟨x, hx⟩ : ∃ x, ss.getD a.toNat 0 - ss.getD b.toNat 0 = x := ⟨_, rfl⟩
  rw [hx]
  constructor
  · have h3 : m * (-2097152) ≤ m * x := Int.mul_le_mul_of_nonneg_left (by omega) (by omega)
    omega
  · have h3 : m * x ≤ m * 2097152 := Int.mul_le_mul_of_nonneg_left (by omega) (by omega)
    omega
theorem overE_bd {ss xs : List Int} {n : Nat} {e : E3} (ho : okE n e) (hbs : Bd 1048576 ss) {M : Int} (hM : 0 ≤ M) (h : Bd M xs) : Bd (M + 209715200) (overE ss xs e) := by
  have hf := flowE_bd ho hbs
  unfold overE
  have key : ∀ {xs : List Int} {M d : Int} {i : Nat}, 0 ≤ M → Bd M xs → -104857600 ≤ d ∧ d ≤ 104857600 → Bd (M + 104857600) (addAt xs i d) := by
    intro xs M d i hM h hd x hx
    unfold addAt at hx
    rcases List.mem_or_eq_of_mem_set hx with hx | hx
    · have := h x hx; omega
    · by_cases hi : i < xs.length
      · obtain ⟨y, hy⟩ := get_of_lt hi
        have := h.at_ hy
        rw [hx, getD_at hy]; omega
      · rw [hx, getD_out (by omega)]; omega
  have h1 := key (i := e.1.toNat) hM h (d := -(flowE ss e)) (by omega)
  have h2 := key (i := e.2.1.toNat) (by omega) h1 (d := flowE ss e) hf
  rwa [show M + 209715200 = M + 104857600 + 104857600 from by omega]
theorem movedL_bd {ss xs : List Int} {n : Nat} (hbs : Bd 1048576 ss) {M : Int} (hM : 0 ≤ M) (h : Bd M xs) {es : List E3} : (∀ e ∈ es, okE n e) → Bd (M + 209715200 * es.length) (movedL es ss xs) := by
  induction es using snocRec with
  | h0 => intro _; simpa [movedL] using h
  | h1 es e ih =>
    intro hok
    have ih := ih fun e he => hok e (by simp [he])
    rw [movedL_snoc, List.length_append]
    have := overE_bd (hok e (by simp)) hbs (by omega) ih
    have e1 : M + 209715200 * ((es.length + [e].length : Nat) : Int) = M + 209715200 * (es.length : Int) + 209715200 := by simp; omega
    rw [e1]
    exact this

set_option maxRecDepth 100000 in
set_option maxHeartbeats 4000000 in
theorem fmoved_any (n : Nat) (hn12 : n ≤ 12) (A : Option Addr) (c : Nat) (es : List E3) (hn : es.length ≤ 1048576) (hok : ∀ e ∈ es, okE n e) (B : Option Addr) (d : Nat) (cs : List Int) (hcl : cs.length = n) (hn0 : 0 < n) (hbc : Bd 1048576 cs) (S : Option Addr) (f : Nat) (ss : List Int) (hsl : ss.length = n) (hbs : Bd 1048576 ss) (w : World)
    (h : Reads w w.heap.size 3 A es.length (edgeCells es)) (h' : Reads w w.heap.size 1 B cs.length (ints cs)) (h'' : Reads w w.heap.size 1 S ss.length (ints ss)) :
    Calls Try.prog 88 #[.agg #[.int .i64 n, .slice A es.length c], .slice B cs.length d, .slice S ss.length f] w fun e w' => ∃ g c', e = .returned (.slice (some ⟨g, 0, none⟩) cs.length c') ∧ OwnI w' w.heap.size (some ⟨g, 0, none⟩) c' (movedL es ss cs) ∧ Below w.heap.size w w' := by
  have g0 := (Blk.new w 24 #[.int .i64 n, .slice A es.length c]).alloc (.cells #[.slice S ss.length f] 29)
  have t0 := Blk.new (w.alloc (.cells #[.int .i64 n, .slice A es.length c] 24)) 29 #[.slice S ss.length f]
  rw [show (w.alloc (.cells #[.int .i64 n, .slice A es.length c] 24)).heap.size = w.heap.size + 1 from by simp] at t0
  have hb0 : Below w.heap.size w ((w.alloc (.cells #[.int .i64 n, .slice A es.length c] 24)).alloc (.cells #[.slice S ss.length f] 29)) := ((Below.refl _ _).alloc (Nat.le_refl _) _).alloc (by simp) _
  obtain ⟨W0, hW0⟩ : ∃ W0, ((w.alloc (.cells #[.int .i64 n, .slice A es.length c] 24)).alloc (.cells #[.slice S ss.length f] 29)) = W0 := ⟨_, rfl⟩
  rw [hW0] at g0 t0 hb0
  have HW0 := Lib.hid hW0
  have hmf : ∀ (fn : Fn) (first cap : Array Value) (w : World), (Instr.makeFunc fn first cap).run Try.prog w = .ok (.func fn first cap) w := fun _ _ _ _ => rfl
  have eg : ∀ args w, (callFunc 135 args).run Try.prog w = .ok (.enter 135 args) w := enters_of (P := Try.prog) Try.func135 (by kernel_rfl) rfl
  have HOK := Lib.hid hok
  have HCL := Lib.hid hcl
  have HSL := Lib.hid hsl
  have HBC := Lib.hid hbc
  have HBS := Lib.hid hbs
  clear hW0 hok hsl hbc hbs
  have hcl12 : cs.length ≤ 12 := by omega
  have hcl0 : 0 < cs.length := by omega
  clear hcl
  go_enter Try.func88, Try.ntmps88
  go_wp2_with fail
  rw [HW0.out]
  refine (dclone_any B d cs (by omega) _ ((h'.below hb0).more hb0.size)).mono ?_
  rintro e w1 ⟨A', c', rfl, o1, hb1⟩
  obtain ⟨g, rfl, hg, _, _⟩ := o1.block hcl0
  have hB1 := hb0.trans (hb1.mono hb0.size)
  have hs1 := hB1.size
  have g2 := (g0.next hb1).alloc (.cells #[.slice (some ⟨g, 0, none⟩) cs.length c'] 26)
  have t2 := (t0.next hb1).alloc (.cells #[.slice (some ⟨g, 0, none⟩) cs.length c'] 26)
  have O2 := Blk.new w1 26 #[.slice (some ⟨g, 0, none⟩) cs.length c']
  have o2 := (OwnI.alloc o1 (.cells #[.slice (some ⟨g, 0, none⟩) cs.length c'] 26)).mono (base' := w.heap.size) hb0.size
  have hB2 := hB1.alloc hs1 (.cells #[.slice (some ⟨g, 0, none⟩) cs.length c'] 26)
  have hw0s : W0.heap.size = w.heap.size + 1 + 1 := by rw [← HW0.out]; simp
  have hgb : w.heap.size + 2 ≤ g := by omega
  have c1 := g2.cell 1
  obtain ⟨gO, hgO⟩ : ∃ gO, w1.heap.size = gO := ⟨_, rfl⟩
  obtain ⟨w2, hw2⟩ : ∃ w2, w1.alloc (.cells #[.slice (some ⟨g, 0, none⟩) cs.length c'] 26) = w2 := ⟨_, rfl⟩
  rw [hw2] at g2 t2 O2 o2 hB2
  rw [hgO] at O2
  have HW2 := Lib.hid hw2
  have HGO := Lib.hid hgO
  clear g0 t0 hb0 o1 hb1 hB1 hw2 hgO hs1
  go_wp2
  rw [HW2.out, HGO.out]
  clear c1
  go_loopw [10, 17] (fun _ i wr => ∃ k : Nat, k ≤ es.length ∧ i = .int .i64 k ∧ Below w.heap.size w wr ∧ Blk wr (w.heap.size + 1) 29 #[.slice S ss.length f] ∧ Blk wr gO 26 #[.slice (some ⟨g, 0, none⟩) cs.length c'] ∧ OwnI wr w.heap.size (some ⟨g, 0, none⟩) c' (movedL (es.take k) ss cs)) (fun _ i _ => es.length - (intOf i).toNat)
  case atStart => exact ⟨0, by omega, rfl, hB2, t2, O2, o2⟩
  case round =>
    obtain ⟨k, hk, rfl, hbel, t3, O3, o3⟩ := hrel
    clear hB2 t2 O2 o2 g2
    have hsz := hbel.size
    by_cases hlt : k < es.length
    · obtain ⟨⟨x, y, m⟩, hx⟩ := get_of_lt hlt
      have hok := HOK.out _ (List.mem_of_getElem? hx)
      have hok' := hok
      unfold okE at hok
      dsimp only at hok
      obtain ⟨a, rfl⟩ := Int.eq_ofNat_of_zero_le (show 0 ≤ x by omega)
      obtain ⟨b, rfl⟩ := Int.eq_ofNat_of_zero_le (show 0 ≤ y by omega)
      have hi : (k : Int) < (es.length : Int) := by omega
      obtain ⟨bb, off, rfl, hbb, q1, q2, q3⟩ := (h.below hbel).edge hx
      dsimp only at q1 q2 q3
      have htk := take_snoc hx
      have hml := movedL_length (es.take k) ss cs
      have hmb := movedL_bd (es := es.take k) HBS.out (by omega) HBC.out fun e he => HOK.out e (List.mem_of_mem_take he)
      rw [List.length_take] at hmb
      have hsn := movedL_snoc (es.take k) ss cs ((a : Int), (b : Int), m)
      rw [← htk] at hsn
      have e3 := Blk.new wr 130 #[.int .i64 a, .int .i64 b, .int .i64 m]
      have T3 := t3.alloc (.cells #[.int .i64 a, .int .i64 b, .int .i64 m] 130)
      have P3 := O3.alloc (.cells #[.int .i64 a, .int .i64 b, .int .i64 m] 130)
      have W3 := OwnI.alloc o3 (.cells #[.int .i64 a, .int .i64 b, .int .i64 m] 130)
      have B3 := hbel.alloc hsz (.cells #[.int .i64 a, .int .i64 b, .int .i64 m] 130)
      have P0 := e3.cell 0
      have P1 := e3.cell 1
      have P2 := e3.cell 2
      have hgO3 : gO ≠ g := by
        intro e
        subst e
        exact own_blk W3 P3 (by decide) ⟨_, rfl, rfl⟩ rfl
      have htS : w.heap.size + 1 ≠ g := by omega
      have hgOl := P3.lt
      have hd : ∀ k, blockOf S k → k ≠ g := fun j hj => by
        obtain ⟨a', ha', hj⟩ := hj
        subst ha'
        obtain ⟨b', off', hA, hb', _⟩ := h''.2 (by have := HSL.out; omega)
        injection hA with hA
        subst hA
        have e : b' = j := hj
        omega
      obtain ⟨xs, hxs⟩ : ∃ xs, movedL (es.take k) ss cs = xs := ⟨_, rfl⟩
      rw [hxs] at hml hmb hsn W3
      have P3' := P3
      rw [← hml] at P3'
      have AC := along_any (w.heap.size + 1) gO S f ss g c' w.heap.size xs a b m (by have := HCL.out; omega) (by have := HCL.out; omega) (by have := HCL.out; have := HSL.out; omega) (by omega) ⟨by omega, by omega⟩ HBS.out _ ⟨by omega, by omega⟩ hmb _ T3 P3' ((h''.below B3).more B3.size) hd W3
      have AC := Lib.hid AC
      have HSN := Lib.hid hsn
      clear hx htk hml hmb hsn hxs hok' P3' W3 o3 hd e3
      go_wp2_with fail
      refine (AC.out).mono ?_
      rintro e w5 ⟨⟨v, rfl⟩, o5, X5⟩
      have T5 := T3.only X5 htS
      have O5 := P3.only X5 hgO3
      have B5 := B3.trans (X5.below (fun j hj e => by omega) (by have := B3.size; omega))
      go_wp2
      go_roundw
      case rel => exact ⟨k + 1, by omega, by go_num, B5, T5, O5, by rw [HSN.out]; exact o5⟩
      case measure => simp [intOf]; omega
    · obtain rfl : k = es.length := by omega
      rw [List.take_length] at o3
      have k0 := O3.cell 0
      go_wp2
      go_ret
      exact ⟨g, c', rfl, o3, hbel⟩
end Go.Proofs.Ythbannpmfdflaaa
