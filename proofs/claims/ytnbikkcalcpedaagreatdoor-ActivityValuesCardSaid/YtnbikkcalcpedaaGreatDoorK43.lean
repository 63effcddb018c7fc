/-
  Texts of this claim, put together: PolCk, RWhole31, Evalu.
-/
import Derived.Test.YtnbikkcalcpedaaGreatDoorK42
import Derived.Test.YtnbikkcalcpedaaGreatDoorK35
import Derived.Test.YtnbikkcalcpedaaGreatDoorK30
import Derived.Test.YtnbikkcalcpedaaGreatDoorK25
import Derived.Test.YtnbikkcalcpedaaGreatDoorK24
/-! polynomial.of, compare; Check at sums of monomials. -/
namespace Go.Proofs.YtnbikkcalcpedaaGreatDoor
open Go.RowKit Go.Lib

theorem info_power : (Tryz.prog.info? 165).map (·.size) = some 2 := by kernel_rfl
theorem results_pw {fn : Func} {p : Tmp} {tmps : Array Value} {w : World} {g : Nat} {cs : Array Value} (h : fn.results = #[.cell p 165]) (hp : tmps.getD p undef = .pointer (some ⟨g, 0, none⟩)) (hg : Blk w g 165 cs) (hs : cs.size = 2) :
    (results fn tmps).run Tryz.prog w = .ok (.agg cs) w :=
  results_cell_row h tmps w g _ cs _ _ hp hg Tryz.underlying165 rfl (by rw [info_power, hs])
set_option maxHeartbeats 1000000 in
theorem polof_any (x y : Nat) (s : ByteArray) (w : World) :
    Calls Tryz.prog 122 #[.agg #[.int .i64 x, .int .i64 y, .string s]] w fun e w' => e = .returned (.agg #[.int .i64 x, .int .i64 y]) ∧ Below w.heap.size w w' := by
  have G := (Blk.new w 87 #[.int .i64 x, .int .i64 y, .string s]).alloc (.cells #[.int .i64 0, .int .i64 0] 165)
  have k0 := G.cell 0
  have k1 := G.cell 1
  go_enter Tryz.func122, Tryz.ntmps122
  go_wp2
  refine bodyPost_ret (results_pw rfl rfl (blk_at5 (g := w.heap.size + 1) (by simp)) rfl) rfl ?_
  exact ⟨rfl, ((Below.refl _ _).alloc (Nat.le_refl _) _).alloc (by simp) _⟩
set_option maxRecDepth 100000 in
set_option maxHeartbeats 1000000 in
theorem polcmp_any (x1 x2 y1 y2 : Nat) (w : World) :
    Calls Tryz.prog 121 #[.agg #[.int .i64 x1, .int .i64 x2], .agg #[.int .i64 y1, .int .i64 y2]] w fun e w' => e = .returned (.int .i64 (orI (cmpI y1 x1) (cmpI y2 x2))) ∧ Below w.heap.size w w' := by
  have G := Blk.new ((w.alloc (.cells #[.int .i64 x1, .int .i64 x2] 165)).alloc (.cells #[.int .i64 y1, .int .i64 y2] 165)) 3 #[.int .i64 (cmpI y1 x1), .int .i64 (cmpI y2 x2)]
  have hB : Below w.heap.size w (((w.alloc (.cells #[.int .i64 x1, .int .i64 x2] 165)).alloc (.cells #[.int .i64 y1, .int .i64 y2] 165)).alloc (.cells #[.int .i64 (cmpI y1 x1), .int .i64 (cmpI y2 x2)] 3)) := (((Below.refl _ _).alloc (Nat.le_refl _) _).alloc (by simp) _).alloc (by simp; omega) _
  rw [show ((w.alloc (.cells #[.int .i64 x1, .int .i64 x2] 165)).alloc (.cells #[.int .i64 y1, .int .i64 y2] 165)).heap.size = w.heap.size + 1 + 1 from by simp] at G
  have HC := Lib.hid (or_any (w.heap.size + 1 + 1) 2 (cmpI y1 x1) (cmpI y2 x2) _ (G.drew.cell 0) (G.drew.cell 1))
  clear G
  go_enter Tryz.func121, Tryz.ntmps121
  go_wp2
  refine region_tail 10 (by kernel_rfl) (by kernel_rfl) ?_
  simp only [List.take_succ_cons, List.take_zero, List.drop_succ_cons, List.drop_zero]
  repeat still_step
  still_call ((compare_any _ _ _).mono fun _ _ h => ⟨h.1, h.2.symm⟩)
  repeat still_step
  still_call ((compare_any _ _ _).mono fun _ _ h => ⟨h.1, h.2.symm⟩)
  refine wpStill_nil ?_
  go_wp2_with (go_at_call 61; refine (HC.out).mono ?_; rintro e w' ⟨rfl, rfl⟩)
  go_ret
  exact ⟨rfl, hB.drew⟩
/-- Terms as they stand in the sums of monomials. -/
structure TermsOk (p : List Tm) : Prop where
  canon : Canon p
  coef : ∀ a ∈ p, 0 < a.2 ∧ a.2 < 1000000000 ∧ a.1.1 ≤ 256 ∧ a.1.2 ≤ 256
theorem ord_neg {a b : Nat × Nat} (h : abv a b = true) : orI (cmpI b.1 a.1) (cmpI b.2 a.2) < 0 := by
  unfold abv at h
  unfold orI cmpI
  simp at h
  split <;> split <;> simp_all <;> omega
set_option maxRecDepth 100000 in
set_option maxHeartbeats 8000000 in
theorem polcheck_any (A : Option Addr) (c : Nat) (p : List Tm) (hp : TermsOk p) (hl : p.length ≤ 1000) (w : World) (h : Reads w w.heap.size 3 A p.length (tmCells p)) :
    Calls Tryz.prog 64 #[.slice A p.length c] w fun e w' => e = .returned (.int .i64 0) ∧ Below w.heap.size w w' := by
  have HP := Lib.hid hp
  have HR := Lib.hid h
  obtain ⟨n, hn⟩ : ∃ n, p.length = n := ⟨_, rfl⟩
  have HN := Lib.hid hn
  rw [hn] at HR hl ⊢
  have hl1 : ¬ (1024 : Int) < (n : Int) := by omega
  have EX := Lib.hid exponent_any
  have CI := Lib.hid check_int
  have hB0 := Lib.hid (Below.refl w.heap.size w)
  clear hp h hn
  go_enter Tryz.func64, Tryz.ntmps64
  go_wp2
  go_loopw [11] (fun i wr => ∃ k : Nat, k ≤ n ∧ i = .int .i64 k ∧ Hid (Below w.heap.size w wr)) (fun i _ => n - (RowKit.intOf i).toNat)
  case atStart => exact ⟨0, by omega, rfl, hB0.out⟩
  case round =>
    obtain ⟨k, hk, rfl, hB⟩ := hrel
    by_cases hlt : k < n
    · have hi : (k : Int) < (n : Int) := by omega
      obtain ⟨⟨⟨x, y⟩, z⟩, hz⟩ := get_of_lt (xs := p) (k := k) (by rw [HN.out]; exact hlt)
      obtain ⟨hz0, hz9, hx, hy⟩ := HP.out.coef _ (List.mem_of_getElem? hz)
      dsimp only at hz0 hz9 hx hy
      obtain ⟨z, rfl⟩ := Int.eq_ofNat_of_zero_le (show 0 ≤ z by omega)
      have EX1 := Lib.hid (fun W => EX.out x hx W)
      have EX2 := Lib.hid (fun W => EX.out y hy W)
      have CI1 := Lib.hid (fun W => CI.out z (by omega) W)
      have hs0 := intS_ne0 (n := z) (by omega)
      have hR := (HR.out.below hB.out)
      obtain ⟨b, off, hA, hb, q0, q1, q2⟩ := hR.tm hz
      dsimp only at q0 q1 q2
      have hzz := hB.out.size
      have Q0 := Lib.hid q0
      have Q1 := Lib.hid q1
      have Q2 := Lib.hid q2
      obtain ⟨s, hs⟩ : ∃ s, intS (z : Int) = s := ⟨_, rfl⟩
      rw [hs] at CI1 hs0 q2 Q2
      have HS := Lib.hid hs
      have g := Blk.new wr 87 #[.int .i64 x, .int .i64 y, .string s]
      have hB2 := hB.out.alloc hzz (.cells #[.int .i64 x, .int .i64 y, .string s] 87)
      have k0 := g.cell 0
      have k1 := g.cell 1
      have k2 := g.cell 2
      subst hA
      clear hs hx hy hz0 hz9 hR
      go_wp2_with fail
      refine (EX1.out _).mono ?_
      rintro e w1 ⟨rfl, rfl⟩
      go_wp2_with fail
      refine (EX2.out _).mono ?_
      rintro e w1 ⟨rfl, rfl⟩
      go_wp2_with fail
      refine (CI1.out _).mono ?_
      rintro e w2 ⟨rfl, hb2⟩
      have g := g.next hb2
      have hB2 := hB2.trans (hb2.mono hB2.size)
      have k0 := g.cell 0
      have k1 := g.cell 1
      have k2 := g.cell 2
      go_wp2_with fail
      by_cases h0 : k = 0
      · subst h0
        go_quiet (fail)
        go_wp2
        go_roundw
        case rel => exact ⟨1, by omega, by go_num, below_drewN hB2 _⟩
        case measure => simp [RowKit.intOf]; omega
      · obtain ⟨m, rfl⟩ : ∃ m, k = m + 1 := ⟨k - 1, by omega⟩
        obtain ⟨⟨⟨x', y'⟩, z'⟩, hz'⟩ := get_of_lt (xs := p) (k := m) (by rw [HN.out]; omega)
        obtain ⟨b', off', hA', hb', p0, p1, p2⟩ := HR.out.tm hz'
        injection hA' with hA'
        injection hA' with e1 e2
        subst e1 e2
        have hord : abv (x', y') (x, y) = true := by
          have := HP.out.canon.1
          rw [List.pairwise_iff_getElem] at this
          obtain ⟨h1, h2⟩ := List.getElem?_eq_some_iff.1 hz'
          obtain ⟨h3, h4⟩ := List.getElem?_eq_some_iff.1 hz
          have h5 := this m (m + 1) h1 h3 (by omega)
          rw [h2, h4] at h5
          exact h5
        have hneg := ord_neg hord
        obtain ⟨r, hr⟩ : ∃ r, orI (cmpI (x : Int) (x' : Int)) (cmpI (y : Int) (y' : Int)) = r := ⟨_, rfl⟩
        have PC : Hid (∀ W, Calls Tryz.prog 121 #[.agg #[.int .i64 x', .int .i64 y'], .agg #[.int .i64 x, .int .i64 y]] W fun e w' => e = .returned (.int .i64 r) ∧ Below W.heap.size W w') := fun W => by
          have := polcmp_any x' y' x y W
          rw [hr] at this
          exact this
        have hneg : r < 0 := by rw [← hr]; exact hneg
        have hneg1 : ¬ 0 ≤ r := by omega
        have hneg2 : decide (0 ≤ r) = false := decide_eq_false hneg1
        obtain ⟨s', hs'⟩ : ∃ s, intS z' = s := ⟨_, rfl⟩
        dsimp only at p0 p1 p2
        rw [hs'] at p2
        have OF := Lib.hid polof_any
        have P0 := p0
        have P1 := p1
        have P2 := p2
        have p0 := (hB2.cell (p := ⟨b, off + m * 3, none⟩) hb').trans p0
        have p1 := (hB2.cell (p := ⟨b, off + m * 3 + 1, none⟩) hb').trans p1
        have p2 := (hB2.cell (p := ⟨b, off + m * 3 + 1 + 1, none⟩) hb').trans p2
        have hj0 : (0 : Int) < ((m + 1 : Nat) : Int) := by omega
        have hj1 : decide ((0 : Int) < ((m + 1 : Nat) : Int)) = true := decide_eq_true hj0
        have hj2 : ((m + 1 : Nat) : Int) - 1 = (m : Int) := by omega
        have hmn : (m : Int) < (n : Int) := by omega
        have hm0 : ¬ (m : Int) < 0 := by omega
        have hmn2 : m < n := by omega
        have hm1 : (0 : Int) ≤ (m : Int) := by omega
        have hw1 : IntKind.i64.wrap ((m : Int) + 1 - 1) = (m : Int) := by rw [IntWalk.i64_in _ (by omega)]; omega
        have hw2 : IntKind.i64.wrap (m : Int) = (m : Int) := IntWalk.i64_in _ (by omega)
        have hw3 : IntKind.i64.wrap (((m + 1 : Nat) : Int) - 1) = (m : Int) := by rw [IntWalk.i64_in _ (by omega)]; omega
        clear hz hz' hord hneg hr hs' q0 q1 q2 hb2
        have g := g.drew
        have hB2 := hB2.drew
        go_region_held3 (fun W => W.cell? ⟨b, off + m * 3, none⟩ = some (.int .i64 x') ∧ W.cell? ⟨b, off + m * 3 + 1, none⟩ = some (.int .i64 y') ∧ W.cell? ⟨b, off + m * 3 + 1 + 1, none⟩ = some (.string s') ∧ W.cell? ⟨wr.heap.size, 0, none⟩ = some (.int .i64 x) ∧ W.cell? ⟨wr.heap.size, 1, none⟩ = some (.int .i64 y) ∧ W.cell? ⟨wr.heap.size, 2, none⟩ = some (.string s)) (go_keep) (first
          | (go_at_call 122; refine (OF.out _ _ _ _).mono ?_; rintro e w5 ⟨rfl, hb5⟩; have g := g.next hb5; have hB2 := hB2.trans (hb5.mono hB2.size); have k0 := g.cell 0; have k1 := g.cell 1; have k2 := g.cell 2; have p0 := (hB2.cell (p := ⟨b, off + m * 3, none⟩) hb').trans P0; have p1 := (hB2.cell (p := ⟨b, off + m * 3 + 1, none⟩) hb').trans P1; have p2 := (hB2.cell (p := ⟨b, off + m * 3 + 1 + 1, none⟩) hb').trans P2)
          | (go_at_call 121; refine (PC.out _).mono ?_; rintro e w6 ⟨rfl, hb5⟩; have g := g.next hb5; have hB2 := hB2.trans (hb5.mono hB2.size); have k0 := g.cell 0; have k1 := g.cell 1; have k2 := g.cell 2; have p0 := (hB2.cell (p := ⟨b, off + m * 3, none⟩) hb').trans P0; have p1 := (hB2.cell (p := ⟨b, off + m * 3 + 1, none⟩) hb').trans P1; have p2 := (hB2.cell (p := ⟨b, off + m * 3 + 1 + 1, none⟩) hb').trans P2))
        all_goals (
          have hB3 := Lib.hid hB2
          go_wp2
          go_roundw
          case rel => exact ⟨m + 2, by omega, by go_num, hB3.out⟩
          case measure => simp [RowKit.intOf]; omega)
    · obtain rfl : k = n := by omega
      go_wp2
      go_ret
      exact ⟨rfl, hB.out⟩
end Go.Proofs.YtnbikkcalcpedaaGreatDoor

/-! The reference's Whole and Polynomial of chapter 31. -/
namespace Go.Proofs.YtnbikkcalcpedaaGreatDoor
open Go.RowKit

theorem plusP_posB : ∀ (p q : List Tm), (∀ a ∈ p, 0 < a.2) → (∀ a ∈ q, 0 < a.2) → ∀ a ∈ plusP p q, 0 < a.2
  | [], q, _, hq => by rw [plusP]; exact hq
  | a :: p, [], hp, _ => by rw [plusP]; exact hp
  | a :: p, b :: q, hp, hq => by
    have hp' : ∀ x ∈ p, 0 < x.2 := fun x hx => hp x (List.mem_cons_of_mem _ hx)
    have hq' : ∀ x ∈ q, 0 < x.2 := fun x hx => hq x (List.mem_cons_of_mem _ hx)
    have ha := hp a List.mem_cons_self
    have hb := hq b List.mem_cons_self
    intro x hx
    rw [plusP] at hx
    split at hx
    · rcases List.mem_cons.1 hx with rfl | hx
      · exact ha
      · exact plusP_posB p (b :: q) hp' hq x hx
    · split at hx
      · rcases List.mem_cons.1 hx with rfl | hx
        · exact hb
        · exact plusP_posB (a :: p) q hp hq' x hx
      · split at hx
        · exact plusP_posB p q hp' hq' x hx
        · rcases List.mem_cons.1 hx with rfl | hx
          · show 0 < a.2 + b.2; omega
          · exact plusP_posB p q hp' hq' x hx
termination_by p q => p.length + q.length
theorem plusP_len : ∀ (p q : List Tm), (plusP p q).length ≤ p.length + q.length
  | [], q => by rw [plusP]; simp
  | a :: p, [] => by rw [plusP]; simp
  | a :: p, b :: q => by
    rw [plusP]
    split
    · have := plusP_len p (b :: q); simp at this ⊢; omega
    · split
      · have := plusP_len (a :: p) q; simp at this ⊢; omega
      · split
        · have := plusP_len p q; simp; omega
        · have := plusP_len p q; simp; omega
termination_by p q => p.length + q.length
theorem cfP_memB {p : List Tm} {a : Tm} (hp : ∀ a ∈ p, 0 < a.2) (ha : a ∈ p) : a.2 ≤ cfP p a.1 := by
  induction p with
  | nil => cases ha
  | cons b p ih =>
    have hp' : ∀ x ∈ p, 0 < x.2 := fun x hx => hp x (List.mem_cons_of_mem _ hx)
    have hn : ∀ (l : List Tm), (∀ x ∈ l, 0 < x.2) → 0 ≤ cfP l a.1 := by
      intro l
      induction l with
      | nil => intro _; rw [cfP_nil]; omega
      | cons c l ih =>
        intro h
        have h1 := ih fun x hx => h x (List.mem_cons_of_mem _ hx)
        have h2 := h c List.mem_cons_self
        rw [cfP_cons]
        split <;> omega
    rw [cfP_cons]
    rcases List.mem_cons.1 ha with rfl | ha
    · rw [if_pos rfl]; have := hn p hp'; omega
    · have h1 := ih hp' ha
      have h2 := hp b List.mem_cons_self
      split <;> omega
theorem sumP_posP (F : List (Nat × Nat)) (hF : F.length < 1000000) : PosP (sumP F) := by
  have hp : ∀ a ∈ sumP F, 0 < a.2 := by
    have key : ∀ (ks : List (Nat × Nat)) (p : List Tm), (∀ a ∈ p, 0 < a.2) → ∀ a ∈ ks.foldl (fun p k => plusP p [(k, 1)]) p, 0 < a.2 := by
      intro ks
      induction ks with
      | nil => intro p hp; exact hp
      | cons k ks ih => intro p hp; exact ih _ (plusP_posB p _ hp (by intro a ha; rw [List.mem_singleton] at ha; subst ha; show (0 : Int) < 1; decide))
    exact key F [] (by simp)
  intro a ha
  refine ⟨hp a ha, ?_⟩
  have h1 := cfP_memB hp ha
  rw [sumP_cf] at h1
  have h2 := List.count_le_length (a := a.1) (l := F)
  omega
theorem sumP_len (F : List (Nat × Nat)) : (sumP F).length ≤ F.length := by
  have key : ∀ (ks : List (Nat × Nat)) (p : List Tm), (ks.foldl (fun p k => plusP p [(k, 1)]) p).length ≤ p.length + ks.length := by
    intro ks
    induction ks with
    | nil => intro p; simp
    | cons k ks ih =>
      intro p
      have h1 := ih (plusP p [(k, 1)])
      have h2 := plusP_len p [(k, 1)]
      rw [List.foldl_cons]
      simp at h2 ⊢
      omega
  have := key F []
  simpa [sumP] using this
end Go.Proofs.YtnbikkcalcpedaaGreatDoor

/-! polynomial.Evaluate at sums of monomials: the value. -/
namespace Go.Proofs.YtnbikkcalcpedaaGreatDoor
open Go.RowKit Go.Lib

set_option maxRecDepth 100000 in
set_option maxHeartbeats 8000000 in
theorem evaluate_any (A : Option Addr) (c : Nat) (p : List Tm) (hp : TermsOk p) (hl : p.length ≤ 1000) (x y : Nat) (hx : 0 < x) (hy : 0 < y) (hx9 : x < 1000000000) (hy9 : y < 1000000000) (hv : valN p x y < 1000000000) (w : World) (h : Reads w w.heap.size 3 A p.length (tmCells p)) (ht : Tab10 w) :
    Calls Tryz.prog 18 #[.slice A p.length c, .string (intS x), .string (intS y)] w fun e w' => e = .returned (.tuple #[.string (intS (valN p x y : Nat)), .int .i64 0]) ∧ Below w.heap.size w w' := by
  have PC := Lib.hid (fun (W : World) (hB : Below w.heap.size w W) => polcheck_any A c p hp hl W ((h.below hB).more hB.size))
  have CX := Lib.hid (fun (W : World) => check_int x (by omega) W)
  have CY := Lib.hid (fun (W : World) => check_int y (by omega) W)
  have OF := Lib.hid (fun (W : World) (hB : Below w.heap.size w W) => intOfN_any 0 (by omega) W (ht.below hB))
  have VC : Hid (∀ (k : Nat) (i j z : Nat), p[k]? = some ((i, j), (z : Int)) → ∀ W, Below w.heap.size w W → Calls Tryz.prog 66 #[.string (intS (valN (p.take k) x y : Nat)), .agg #[.int .i64 i, .int .i64 j, .string (intS (z : Int))], .string (intS x), .string (intS y)] W fun e w' => e = .returned (.tuple #[.string (intS (valN (p.take (k + 1)) x y : Nat)), .int .i64 0]) ∧ Below W.heap.size W w') := by
    intro k i j z hk W hB
    obtain ⟨hz0, _, hi, hj⟩ := hp.coef _ (List.mem_of_getElem? hk)
    dsimp only at hz0 hi hj
    have hs := valN_step hk x y
    dsimp only at hs
    rw [Int.toNat_natCast] at hs
    have ht2 := valN_take p (k + 1) x y
    have := value_any (valN (p.take k) x y) i j z x y hx hy hi hj (by omega) hx9 hy9 (by omega) W (ht.below hB)
    rw [← hs] at this
    exact this
  have HP := Lib.hid hp
  have HR := Lib.hid h
  obtain ⟨n, hn⟩ : ∃ n, p.length = n := ⟨_, rfl⟩
  have HN := Lib.hid hn
  rw [hn] at HR hl PC ⊢
  have HFIN : Hid (valN (p.take n) x y = valN p x y) := by rw [Hid, ← hn, List.take_length]
  have H0 : Hid (valN (p.take 0) x y = 0) := rfl
  obtain ⟨s, hs⟩ : ∃ s, intS x = s := ⟨_, rfl⟩
  obtain ⟨t, htt⟩ : ∃ t, intS y = t := ⟨_, rfl⟩
  rw [hs] at CX VC ⊢
  rw [htt] at CY VC ⊢
  obtain ⟨V, hV⟩ : ∃ V : Nat → ByteArray, (fun k => intS (valN (p.take k) x y : Nat)) = V := ⟨_, rfl⟩
  have hVk : ∀ k, intS (valN (p.take k) x y : Nat) = V k := fun k => congrFun hV k
  rw [← HFIN.out, hVk]
  have VC : Hid (∀ (k : Nat) (i j z : Nat), p[k]? = some ((i, j), (z : Int)) → ∀ W, Below w.heap.size w W → Calls Tryz.prog 66 #[.string (V k), .agg #[.int .i64 i, .int .i64 j, .string (intS (z : Int))], .string s, .string t] W fun e w' => e = .returned (.tuple #[.string (V (k + 1)), .int .i64 0]) ∧ Below W.heap.size W w') := by
    intro k i j z hk W hB
    have := VC.out k i j z hk W hB
    rw [hVk, hVk] at this
    exact this
  have OF : Hid (∀ (W : World), Below w.heap.size w W → Calls Tryz.prog 19 #[.int .i64 0] W fun e w' => e = .returned (.string (V 0)) ∧ Below W.heap.size W w') := by
    intro W hB
    have := OF.out W hB
    rw [← H0.out, hVk] at this
    rw [H0.out] at this
    exact this
  have hB0 := Below.refl w.heap.size w
  clear hp h hn hs htt hV hVk hv hx hy hx9 hy9 ht
  go_enter Tryz.func18, Tryz.ntmps18
  go_wp2_with fail
  refine (PC.out _ hB0).mono ?_
  rintro e w1 ⟨rfl, hB1⟩
  have G1 := Lib.hid (Blk.new w1 40 #[.string s, .string t])
  have HB1 := Lib.hid (hB1.alloc hB1.size (.cells #[.string s, .string t] 40))
  have HZ1 := Lib.hid hB1.size
  clear hB1
  go_wp2
  go_loopw [25] (fun i wr => ∃ k : Nat, k ≤ 2 ∧ i = .int .i64 k ∧ Hid (Below w.heap.size w wr) ∧ Hid (Blk wr w1.heap.size 40 #[.string s, .string t])) (fun i _ => 2 - (RowKit.intOf i).toNat)
  case atStart => exact ⟨0, by omega, rfl, HB1.out, G1.out⟩
  case round =>
    obtain ⟨k, hk, rfl, hB, hG⟩ := hrel
    have k0 := hG.out.cell 0
    have k1 := hG.out.cell 1
    rcases (show k = 0 ∨ k = 1 ∨ k = 2 by omega) with rfl | rfl | rfl
    · go_wp2_with fail
      refine (CX.out _).mono ?_
      rintro e w' ⟨rfl, hb⟩
      have hB2 := hB.out.trans (hb.mono hB.out.size)
      have hG2 := hG.out.next hb
      go_wp2
      go_roundw
      case rel => exact ⟨1, by omega, by go_num, hB2, hG2⟩
      case measure => simp [RowKit.intOf]
    · go_wp2_with fail
      refine (CY.out _).mono ?_
      rintro e w' ⟨rfl, hb⟩
      have hB2 := hB.out.trans (hb.mono hB.out.size)
      have hG2 := hG.out.next hb
      go_wp2
      go_roundw
      case rel => exact ⟨2, by omega, by go_num, hB2, hG2⟩
      case measure => simp [RowKit.intOf]
    · clear k0 k1 hG
      go_wp2_with fail
      refine (OF.out _ hB.out).mono ?_
      rintro e w2 ⟨rfl, hb⟩
      have HB2 := Lib.hid (hB.out.trans (hb.mono hB.out.size))
      clear hb hB
      go_wp2
      go_loopw [12, 38] (fun v i wq => ∃ k : Nat, k ≤ n ∧ v = .string (V k) ∧ i = .int .i64 k ∧ Hid (Below w.heap.size w wq)) (fun _ i _ => n - (RowKit.intOf i).toNat)
      case atStart => exact ⟨0, by omega, rfl, rfl, HB2.out⟩
      case round =>
        obtain ⟨k, hk, rfl, rfl, hB⟩ := hrel
        by_cases hlt : k < n
        · have hi : (k : Int) < (n : Int) := by omega
          obtain ⟨⟨⟨i, j⟩, z⟩, hz⟩ := get_of_lt (xs := p) (k := k) (by rw [HN.out]; exact hlt)
          obtain ⟨hz0, hz9, hxi, hyj⟩ := HP.out.coef _ (List.mem_of_getElem? hz)
          dsimp only at hz0 hz9 hxi hyj
          obtain ⟨z, rfl⟩ := Int.eq_ofNat_of_zero_le (show 0 ≤ z by omega)
          have VK := Lib.hid (VC.out k i j z hz)
          obtain ⟨b, off, hA, hb, q0, q1, q2⟩ := (HR.out.below hB.out).tm hz
          dsimp only at q0 q1 q2
          have hzz := hB.out.size
          obtain ⟨u, hu⟩ : ∃ s, intS (z : Int) = s := ⟨_, rfl⟩
          rw [hu] at VK q2
          have g := Blk.new wr 87 #[.int .i64 i, .int .i64 j, .string u]
          have hB2 := hB.out.alloc hzz (.cells #[.int .i64 i, .int .i64 j, .string u] 87)
          have k0 := g.cell 0
          have k1 := g.cell 1
          have k2 := g.cell 2
          subst hA
          clear hu hz hz0 hz9 hxi hyj
          go_wp2_with fail
          refine (VK.out _ hB2).mono ?_
          rintro e w3 ⟨rfl, hb3⟩
          have hB3 := hB2.trans (hb3.mono hB2.size)
          go_wp2
          go_roundw
          case rel => exact ⟨k + 1, by omega, rfl, by go_num, hB3⟩
          case measure => simp [RowKit.intOf]; omega
        · obtain rfl : k = n := by omega
          have HB := Lib.hid hB.out
          go_wp2
          go_ret2
          exact ⟨rfl, HB.out⟩
end Go.Proofs.YtnbikkcalcpedaaGreatDoor

