/-
  Texts of this claim, put together: RSets, Blocks, BelowP, WavesP, AgreesP.
-/
import Derived.Test.YtdnoeaoelgehcaaGreatK30
import Derived.Test.YtdnoeaoelgehcaaGreatK04
import Derived.Test.YtdnoeaoelgehcaaGreatK32
import Derived.WalkKit
import Derived.Test.YtdnoeaoelgehcaaGreatK31
import Derived.Test.YtdnoeaoelgehcaaGreatK11
import Derived.Test.YtdnoeaoelgehcaaGreatK12
/-! ref23.members and Subsets: all sets of vertices. -/
namespace Go.Proofs.YtdnoeaoelgehcaaGreat
open Go.RowKit

/-- All sets. -/
def subsL (n K : Nat) : List (List Int) := (List.range K).map fun D => natsI (bitsL n D)
theorem subsL_succ (n K : Nat) : subsL n (K + 1) = subsL n K ++ [natsI (bitsL n K)] := by simp [subsL, List.range_succ]
theorem subsL_length (n K : Nat) : (subsL n K).length = K := by simp [subsL]

set_option maxHeartbeats 2000000 in
theorem members_any (n D : Nat) (hn : n ≤ 12) (hD : D ≤ 4096) (w : World) :
    Calls Tryz.prog 146 #[.int .i64 n, .int .i64 D] w fun e w' => ∃ A c, e = .returned (.slice A (bitsL n D).length c) ∧ OwnI w' w.heap.size A c (natsI (bitsL n D)) ∧ Below w.heap.size w w' := by
  go_enter Tryz.func146, Tryz.ntmps146
  go_wp2
  go_loopw [1, 5, 6] (fun dg s i wr => ∃ (k m : Nat) (A : Option Addr) (c : Nat) (r : List Nat), k ≤ n ∧ m ≤ 4096 ∧ dg = .int .i64 m ∧ i = .int .i64 k ∧ s = .slice A (natsI r).length c ∧ Hid (m = D / 2 ^ k) ∧ Hid (r = bitsL k D) ∧ (natsI r).length ≤ k ∧ OwnI wr w.heap.size A c (natsI r) ∧ Below w.heap.size w wr) (fun _ _ i _ => n - (intOf i).toNat)
  case atStart => exact ⟨0, D, none, 0, [], by omega, hD, rfl, rfl, rfl, by simp [Hid], by simp [Hid, bitsL], by simp [natsI], OwnI.nil_ _ _, Below.refl _ _⟩
  case round =>
    obtain ⟨k, m, A, c, r, hk, hm, rfl, rfl, rfl, HM, HR, hrl, hown, hbel⟩ := hrel
    have hsz := hbel.size
    by_cases hlt : k < n
    · have hi : (k : Int) < (n : Int) := by omega
      have hquo : (m : Int).tdiv 2 = ((m / 2 : Nat) : Int) := rfl
      have hnext : Hid (m / 2 = D / 2 ^ (k + 1)) := by rw [Hid, HM.out, Nat.pow_succ, Nat.div_div_eq_div_mul]
      have hm2 : m / 2 ≤ 4096 := by omega
      obtain ⟨m', hm'⟩ : ∃ m', m / 2 = m' := ⟨_, rfl⟩
      rw [hm'] at hquo hnext hm2
      by_cases hb : m % 2 = 1
      · have hrem : (m : Int).tmod 2 = 1 := by show ((m % 2 : Nat) : Int) = 1; omega
        have HS : Hid (r ++ [k] = bitsL (k + 1) D) := by rw [Hid, bitsL_yes (by rw [← HM.out]; exact hb), HR.out]
        clear hb hm'
        go_wp2_with (at_builtin; refine push_int rfl (.tmp 15) (.tmp 17) _ rfl Tryz.underlying25 w.heap.size A c (natsI r) (k : Int) rfl hown rfl rfl (by omega) (by omega) ?_; intro A2 c2 w2 hown2 hg2 hb2)
        have hb3 : Below w.heap.size w w2 := hbel.trans hb2
        go_roundw
        case rel => exact ⟨k + 1, m', A2, c2, r ++ [k], by omega, hm2, by go_num, by go_num, by rw [natsI_snoc]; simp, hnext, HS, by rw [natsI_snoc]; simp; omega, by rw [natsI_snoc]; exact hown2, hb3⟩
        case measure => simp [intOf]; omega
      · have hrem : (m : Int).tmod 2 = 0 := by show ((m % 2 : Nat) : Int) = 0; omega
        have HS : Hid (r = bitsL (k + 1) D) := by rw [Hid, bitsL_no (by rw [← HM.out]; exact hb), HR.out]
        clear hb hm'
        go_wp2
        go_roundw
        case rel => exact ⟨k + 1, m', A, c, r, by omega, hm2, by go_num, by go_num, rfl, hnext, HS, by omega, hown, hbel⟩
        case measure => simp [intOf]; omega
    · obtain rfl : k = n := by omega
      go_wp2
      go_ret
      refine ⟨A, c, ?_, ?_, hbel⟩
      · rw [← HR.out, natsI_length]; rfl
      · rw [← HR.out]; exact hown

set_option maxHeartbeats 2000000 in
theorem subsets_any (n : Nat) (hn : n ≤ 6) (A : Option Addr) (c l : Nat) (w : World) :
    Calls Tryz.prog 102 #[.agg #[.int .i64 n, .slice A l c]] w fun e w' => ∃ A' c' vs, e = .returned (.slice A' (2 ^ n) c') ∧ OwnRows w' w.heap.size A' c' vs (subsL n (2 ^ n)) ∧ Below w.heap.size w w' := by
  have g0 := Blk.new w 24 #[.int .i64 n, .slice A l c]
  have hb0 : Below w.heap.size w (w.alloc (.cells #[.int .i64 n, .slice A l c] 24)) := (Below.refl _ _).alloc (Nat.le_refl _) _
  have hpow : ∀ k, k ≤ n → 2 ^ k ≤ 64 := fun k hk => Nat.le_trans (Nat.pow_le_pow_right (by omega) (Nat.le_trans hk hn)) (by decide)
  have HP := Lib.hid hpow
  clear hpow
  have c0 := g0.cell 0
  go_enter Tryz.func102, Tryz.ntmps102
  go_wp2
  go_loopw [3, 4] (fun p i wr => ∃ (k m : Nat), k ≤ n ∧ m ≤ 64 ∧ p = .int .i64 m ∧ i = .int .i64 k ∧ Hid (m = 2 ^ k) ∧ wr = w.alloc (.cells #[.int .i64 n, .slice A l c] 24)) (fun _ i _ => n - (intOf i).toNat)
  case atStart => exact ⟨0, 1, by omega, by omega, rfl, rfl, rfl, rfl⟩
  case round =>
    obtain ⟨k, m, hk, hm, rfl, rfl, HM, rfl⟩ := hrel
    by_cases hlt : k < n
    · have hi : (k : Int) < (n : Int) := by omega
      have hm2 : Hid (2 * m = 2 ^ (k + 1)) := by rw [Hid, HM.out, Nat.pow_succ, Nat.mul_comm]
      have hm3 : 2 * m ≤ 64 := by rw [hm2.out]; exact HP.out _ (by omega)
      go_wp2
      go_roundw
      case rel => exact ⟨k + 1, 2 * m, by omega, hm3, by go_num, by go_num, hm2, trivial⟩
      case measure => simp [intOf]; omega
    · obtain rfl : k = n := by omega
      have HN := HM
      clear HM HP
      have MC := Lib.hid (fun D w hD => members_any k D (by omega) hD w)
      go_wp2
      go_loopw [5, 6] (fun s i wr => ∃ (j : Nat) (A' : Option Addr) (c' : Nat) (vs : List Value), j ≤ m ∧ i = .int .i64 j ∧ s = .slice A' (subsL k j).length c' ∧ OwnRows wr w.heap.size A' c' vs (subsL k j) ∧ Blk wr w.heap.size 24 #[.int .i64 k, .slice A l c] ∧ Below w.heap.size w wr) (fun _ i _ => m - (intOf i).toNat)
      case atStart => exact ⟨0, none, 0, [], by omega, rfl, rfl, OwnRows.nil_ _ _, g0, hb0⟩
      case round =>
        obtain ⟨j, A', c', vs, hj, rfl, rfl, hown, gw, hbel⟩ := hrel
        clear c0
        have c0 := gw.cell 0
        have hsz := hbel.size
        by_cases hlt : j < m
        · have hi : (j : Int) < (m : Int) := by omega
          go_wp2_with fail
          refine (MC.out j _ (by omega)).mono ?_
          rintro e w1 ⟨A1, c1, rfl, o1, hb1⟩
          have hown1 := hown.next hb1
          have g1 := gw.next hb1
          have hB1 := hbel.trans (hb1.mono hsz)
          have hs1 := hB1.size
          obtain ⟨d, hd⟩ : ∃ d, natsI (bitsL k j) = d := ⟨_, rfl⟩
          have hdl : (bitsL k j).length = d.length := by rw [← hd, natsI_length]
          have HS : Hid (subsL k (j + 1) = subsL k j ++ [d]) := by rw [Hid, subsL_succ, hd]
          have HSL := Lib.hid (subsL_length k j)
          rw [hd] at o1
          rw [hdl]
          have o1' := o1.mono (base' := w.heap.size) (by omega)
          clear hdl hd hown hb1
          go_wp2_with (at_builtin; refine append_go rfl (.tmp 20) (.tmp 25) _ rfl w.heap.size 25 Tryz.underlying117 info_row rfl (by omega) A' c' (subsL k j).length vs rfl (World.ownsRow.alloc hown1.1 _) _ [.slice A1 d.length c1] rfl (Reads.box _ _ _) (by simp [Value.oneCell']) (by have := HSL.out; omega) (by simp; omega) ?_; intro A6 c6 w6 hown6 hg6 hb6 hw6)
          go_roundw
          case rel =>
            have k2 : OwnRows w6 w.heap.size A6 c6 (vs ++ [.slice A1 d.length c1]) (subsL k j ++ [d]) := OwnRows.push (hown1.kept fun k hk => Below.heap_alloc _ _ _ (hown1.lt hk).2) (OwnI.alloc o1' _) hown6 hg6
            refine ⟨j + 1, A6, c6, vs ++ [.slice A1 d.length c1], by omega, by go_num, ?_, ?_, ?_, (hB1.alloc hB1.size _).trans hb6⟩
            · rw [HS.out]; simp
            · rw [HS.out]; exact k2
            · exact Blk.grown (g1.alloc _) hg6 (own_blk_ne hown1.1 g1 (by decide))
          case measure => simp [intOf]; omega
        · obtain rfl : j = m := by omega
          go_wp2
          go_ret
          refine ⟨A', c', vs, by rw [subsL_length, HN.out]; rfl, ?_, hbel⟩
          rw [← HN.out]; exact hown

end Go.Proofs.YtdnoeaoelgehcaaGreat

/-! Package burning: Blocks. -/
namespace Go.Proofs.YtdnoeaoelgehcaaGreat
open Go.RowKit

theorem setFrom_zero {n : Int} : ∀ {xs : List Int} {p : Option Int}, setFrom n p xs = 0 → ∀ v ∈ xs, 0 ≤ v ∧ v < n
  | [], _, _ => by simp
  | x :: xs, p, h => by
    rw [setFrom.eq_def] at h
    dsimp only at h
    split at h
    · omega
    · rename_i hv
      have hx := vertB_true.1 (by simpa using hv)
      have hr : setFrom n (some x) xs = 0 := by
        rcases p with _ | y
        · exact h
        · dsimp only at h
          split at h
          · omega
          · exact h
      intro v hm
      rcases List.mem_cons.1 hm with rfl | hm
      · exact hx
      · exact setFrom_zero hr v hm
theorem burn_parts {n : Int} {es : List E3} {q : Int} {cs : List Int} (h : burnErr n es q cs = 0) : checkG n es = 0 ∧ divErr cs n = 0 := by
  have h1 := (burn_zero h).1
  rcases conf_cases n es q cs with ⟨k1, hE⟩ | ⟨k1, k2, hE⟩ | ⟨k1, k2, hE⟩
  · exact absurd (hE ▸ h1) k1
  · exact absurd (hE ▸ h1) k2
  · refine ⟨?_, k2⟩
    rcases root_cases n es q with ⟨r1, rE⟩ | ⟨r1, _, rE⟩ | ⟨r1, _, _, rE⟩ | ⟨r1, _, _, rE⟩
    · exact absurd (rE ▸ k1) r1
    · exact r1
    · exact r1
    · exact r1

/-- What Blocks answers. -/
def blkErr (n : Int) (es : List E3) (q : Int) (cs S : List Int) : Int := if burnErr n es q cs ≠ 0 then burnErr n es q cs else subErr n es S
def blkB (n : Int) (es : List E3) (q : Int) (cs S : List Int) : Bool := if blkErr n es q cs S = 0 then legB es cs S && !decide (q ∈ S) else false
end Go.Proofs.YtdnoeaoelgehcaaGreat

/-! Plain laws for BurningBelow: each set that blocks is unburnt; with fewer chips no more vertices are unburnt. No program is in sight. -/
namespace Go.Proofs.YtdnoeaoelgehcaaGreat

theorem natI_mem {l : List Nat} {v : Nat} : ((v : Int) ∈ natI l) ↔ v ∈ l := by
  unfold natI
  rw [List.mem_map]
  constructor
  · rintro ⟨x, hx, e⟩
    obtain rfl : x = v := by omega
    exact hx
  · intro h; exact ⟨v, h, rfl⟩
theorem setFrom_asc {n : Int} : ∀ {l : List Nat} {p : Option Int}, l.Pairwise (· < ·) → (∀ v ∈ l, (v : Int) < n) → (∀ y, p = some y → ∀ v ∈ l, y < (v : Int)) → setFrom n p (natsI l) = 0
  | [], _, _, _, _ => by simp [natsI, setFrom]
  | v :: l, p, hp, hn, hy => by
    obtain ⟨h1, h2⟩ := List.pairwise_cons.1 hp
    have hv := hn v (by simp)
    have hvb : ¬ vertB n (v : Int) = false := by simp [vertB]; omega
    have ih := setFrom_asc (n := n) (l := l) (p := some (v : Int)) h2 (fun u hu => hn u (by simp [hu])) (fun y e u hu => by injection e with e; have := h1 u hu; omega)
    have e : natsI (v :: l) = (v : Int) :: natsI l := rfl
    rw [e]
    cases p with
    | none => rw [setFrom.eq_def]; simp only [if_neg hvb]; exact ih
    | some y =>
      have := hy y rfl v (by simp)
      rw [setFrom.eq_def]
      simp only [if_neg hvb]
      rw [if_neg (by omega)]
      exact ih
theorem bits_asc (k D : Nat) : (bitsL k D).Pairwise (· < ·) := List.Pairwise.sublist List.filter_sublist List.pairwise_lt_range
theorem bits_blk {n q : Nat} {es : List E3} {cs : List Int} (h : burnErr n es q cs = 0) (D : Nat) : blkErr n es q cs (natsI (bitsL n D)) = 0 := by
  obtain ⟨hG, _⟩ := conf_zero (burn_zero h).1
  have hs : setErr n (natsI (bitsL n D)) = 0 := setFrom_asc (bits_asc n D) (fun v hv => by have := bits_lt v hv; omega) (fun y e => by cases e)
  unfold blkErr
  rw [if_neg (by omega)]
  unfold subErr
  rw [if_neg (fun hc => hc (burn_parts h).1)]
  exact hs
/-- Each set that blocks is unburnt. -/
theorem below_sets {n q : Nat} {es : List E3} {cs : List Int} (h : burnErr n es q cs = 0) (D : Nat) (hb : blkB n es q cs (natsI (bitsL n D)) = true) : ((natsI (bitsL n D)).any fun x => !decide (x ∈ natI (restL n (burntL es cs n q)))) = false := by
  obtain ⟨hG, _, _, hqn, _⟩ := conf_zero (burn_zero h).1
  unfold blkB at hb
  rw [if_pos (bits_blk h D), Bool.and_eq_true] at hb
  have hq : (q : Int) ∉ natsI (bitsL n D) := by simpa using hb.2
  have hall := blocks_unburnt hG (by omega) hq hb.1
  rw [List.any_eq_false]
  intro x hx
  obtain ⟨v, hv, rfl⟩ := List.mem_map.1 hx
  have h1 := hall v hx
  have h2 := bits_lt v hv
  have : ((v : Int) ∈ natI (restL n (burntL es cs n q))) := natI_mem.2 (mem_rest.2 ⟨h2, h1⟩)
  simp [this]
/-- With a chip fewer. -/
theorem below_fewer {n q : Nat} {es : List E3} {cs : List Int} (h : burnErr n es q cs = 0) {v : Nat} {k : Int} (hv : cs[v]? = some k) (hk : k ≠ 0) : burnErr n es q (cs.set v (k - 1)) = 0 ∧ -1048576 ≤ k ∧ k ≤ 1048576 ∧
    ((natI (restL n (burntL es (cs.set v (k - 1)) n q))).any fun x => !decide (x ∈ natI (restL n (burntL es cs n q)))) = false := by
  obtain ⟨hc, hcq⟩ := burn_zero h
  obtain ⟨hG, _, _, hqn, hlen, hbd, hpos⟩ := conf_zero hc
  simp only [Int.toNat_natCast] at hcq
  have hvl : v < cs.length := (List.getElem?_eq_some_iff.1 hv).1
  have hvd : cs.getD v 0 = k := getD_at hv
  have hvq : v ≠ q := fun e => hk (by rw [← hvd, e]; exact hcq)
  have hk0 := hpos v (by omega) (by omega)
  have hkb := hbd k (List.mem_of_getElem? hv)
  have hset : ∀ x, (cs.set v (k - 1)).getD x 0 = if x = v then k - 1 else cs.getD x 0 := by
    intro x
    rw [List.getD_eq_getElem?_getD, List.getElem?_set]
    by_cases e : v = x
    · subst e; rw [if_pos rfl, if_pos hvl, if_pos rfl]; rfl
    · rw [if_neg e, if_neg (Ne.symm e), List.getD_eq_getElem?_getD]
  have h0 : ∀ x, 0 ≤ cs.getD x 0 := fun x => by
    by_cases hx : x < n
    · by_cases hxq : x = q
      · subst hxq; omega
      · exact hpos x (by omega) (by omega)
    · rw [getD_out (by omega)]; exact Int.le_refl _
  refine ⟨burn_zero_of h (by rw [List.length_set]; exact hlen) (fun x hx => ?_) (fun x => ?_) ?_, by omega, by omega, ?_⟩
  · rcases List.mem_or_eq_of_mem_set hx with hx | hx
    · exact hbd x hx
    · omega
  · rw [hset]; have := h0 x; split <;> omega
  · simp only [Int.toNat_natCast]
    rw [hset, if_neg (Ne.symm hvq)]; exact hcq
  · rw [List.any_eq_false]
    intro x hx
    obtain ⟨u, hu, rfl⟩ := List.mem_map.1 hx
    obtain ⟨hu1, hu2⟩ := mem_rest.1 hu
    have hb : u ∉ burntL es cs n q := fun hc => hu2 (fewer_burn (fun a b => (btw_bd hG.ok a b).1) (by omega) (fun x _ => by
      rw [hset]
      by_cases e : x = v
      · rw [if_pos e, e, hvd]; omega
      · rw [if_neg e]; exact Int.le_refl _) u hc)
    have : ((u : Int) ∈ natI (restL n (burntL es cs n q))) := natI_mem.2 (mem_rest.2 ⟨hu1, hb⟩)
    simp [this]
end Go.Proofs.YtdnoeaoelgehcaaGreat

/-! Plain laws: the waves of a fire; a configuration is superstable exactly if no set blocks. No program is in sight. -/
namespace Go.Proofs.YtdnoeaoelgehcaaGreat

section
variable {es : List E3} {cs : List Int} {n : Nat}
/-- The waves behind a list of burnt vertices. -/
def roundsL (es : List E3) (cs : List Int) (n : Nat) : Nat → List Nat → List (List Nat)
  | 0, _ => []
  | k + 1, l => if readyL es cs n l = [] then [] else readyL es cs n l :: roundsL es cs n k (l ++ readyL es cs n l)
theorem rounds_none {l : List Nat} (h : readyL es cs n l = []) : ∀ k, roundsL es cs n k l = []
  | 0 => rfl
  | k + 1 => by rw [roundsL, if_pos h]
theorem rounds_some {l : List Nat} (h : readyL es cs n l ≠ []) (k : Nat) : roundsL es cs n (k + 1) l = readyL es cs n l :: roundsL es cs n k (l ++ readyL es cs n l) := by rw [roundsL, if_neg h]
theorem ready_ok {l : List Nat} (h : LOk n l) : LOk n (l ++ readyL es cs n l) := by
  refine ⟨?_, fun u hu => ?_⟩
  · rw [List.nodup_append]
    refine ⟨h.1, ?_, fun a ha b hb e => ?_⟩
    · unfold readyL; exact List.Nodup.sublist List.filter_sublist List.nodup_range
    · subst e; exact (mem_ready.1 hb).2.1 ha
  · rcases List.mem_append.1 hu with hu | hu
    · exact h.2 u hu
    · exact (mem_ready.1 hu).1
theorem rounds_more : ∀ (k j : Nat) {l : List Nat}, LOk n l → n ≤ l.length + k → n ≤ l.length + j → roundsL es cs n k l = roundsL es cs n j l
  | k, j, l, h, hk, hj => by
    by_cases hr : readyL es cs n l = []
    · rw [rounds_none hr, rounds_none hr]
    · have h2 := ready_ok (es := es) (cs := cs) h
      have h3 := nodup_len h2
      have h4 := List.length_pos_iff.2 hr
      rw [List.length_append] at h3
      obtain ⟨k', rfl⟩ : ∃ k', k = k' + 1 := ⟨k - 1, by omega⟩
      obtain ⟨j', rfl⟩ : ∃ j', j = j' + 1 := ⟨j - 1, by omega⟩
      rw [rounds_some hr, rounds_some hr, rounds_more k' j' h2 (by rw [List.length_append]; omega) (by rw [List.length_append]; omega)]
theorem rounds_length : ∀ (k : Nat) (l : List Nat), (roundsL es cs n k l).length ≤ k
  | 0, _ => by simp [roundsL]
  | k + 1, l => by
    by_cases hr : readyL es cs n l = []
    · rw [rounds_none hr]; simp
    · rw [rounds_some hr]
      have := rounds_length k (l ++ readyL es cs n l)
      simp; omega
end

/-- Does a set block? -/
def bloB (es : List E3) (q : Int) (cs S : List Int) : Bool := legB es cs S && !decide (q ∈ S)
/-- A configuration is superstable exactly if no set blocks. -/
theorem super_sets {n q : Nat} {es : List E3} {cs : List Int} (hG : RightG n es) (hC : AllConn n es) (hq : q < n) :
    decide (restL n (burntL es cs n q) = []) = !((subsL n (2 ^ n)).any fun S => bloB es q cs S) := by
  by_cases hr : restL n (burntL es cs n q) = []
  · rw [decide_eq_true hr]
    symm
    rw [Bool.not_eq_true', List.any_eq_false]
    intro S hS hb
    unfold bloB at hb
    rw [Bool.and_eq_true] at hb
    obtain ⟨D, _, rfl⟩ := List.mem_map.1 hS
    have hqS : (q : Int) ∉ natsI (bitsL n D) := by simpa using hb.2
    have hall := blocks_unburnt hG hq hqS hb.1
    have hne := leg_nonempty hb.1
    cases hl : bitsL n D with
    | nil => rw [hl] at hne; exact hne rfl
    | cons v l =>
      have hv : v ∈ bitsL n D := by rw [hl]; simp
      have h1 := hall v (natsI_mem.2 hv)
      have : v ∈ restL n (burntL es cs n q) := mem_rest.2 ⟨bits_lt v hv, h1⟩
      rw [hr] at this
      simp at this
  · rw [decide_eq_false hr]
    symm
    rw [Bool.not_eq_false', List.any_eq_true]
    obtain ⟨D, hD, hb⟩ := bits_all (fun v => !decide (v ∈ burntL es cs n q)) n
    have he : natsI (bitsL n D) = (restL n (burntL es cs n q)).map fun u : Nat => (u : Int) := by rw [hb]; rfl
    have hblk := unburnt_blocks (cs := cs) hG hC hq hr
    refine ⟨natsI (bitsL n D), List.mem_map.2 ⟨D, by simpa using hD, rfl⟩, ?_⟩
    unfold bloB
    rw [he, hblk.1, decide_eq_false hblk.2]; rfl
end Go.Proofs.YtdnoeaoelgehcaaGreat

/-! Plain laws for BurningAgrees: the waves have the same vertices as the order of burning; both orders prove that all burns; otherwise the unburnt vertices block. No program is in sight. -/
namespace Go.Proofs.YtdnoeaoelgehcaaGreat

section
variable {es : List E3} {cs : List Int} {n : Nat}
theorem provFrom_append (s : List Nat) : ∀ (r1 r2 : List Nat), provFrom es cs s (r1 ++ r2) = (provFrom es cs s r1 && provFrom es cs (s ++ r1) r2)
  | [], r2 => by simp [provFrom]
  | x :: r1, r2 => by
    rw [List.cons_append, provFrom, provFrom, provFrom_append (s ++ [x]) r1 r2, Bool.and_assoc]
    simp
  termination_by r1 => r1.length
  decreasing_by simp
theorem burn_proves (he : LOk n []) : ∀ (k : Nat) (l : List Nat), ∃ r, burnL es cs n k l = l ++ r ∧ provFrom es cs l r = true
  | 0, l => ⟨[], by simp [burnL], rfl⟩
  | k + 1, l => by
    cases hv : (readyL es cs n l).head? with
    | none => exact ⟨[], by rw [burnL_stop hv]; simp, rfl⟩
    | some v =>
      obtain ⟨r, h1, h2⟩ := burn_proves he k (l ++ [v])
      refine ⟨v :: r, by rw [burnL_step hv, h1]; simp, ?_⟩
      rw [provFrom, h2, decide_eq_true (head_ready hv).2.2]; rfl
theorem joinsN_append (v : Nat) (l r : List Nat) : joinsN es v (l ++ r) = joinsN es v l + joinsN es v r := by simp [joinsN]
theorem prov_held (he : ∀ a b, 0 ≤ btw es a b) (l : List Nat) : ∀ (r2 r1 : List Nat), (∀ v ∈ r2, cs.getD v 0 < joinsN es v l) → provFrom es cs (l ++ r1) r2 = true
  | [], _, _ => rfl
  | v :: r2, r1, h => by
    have h1 := h v (by simp)
    have h2 := joinsN_nonneg (es := es) he v r1
    rw [provFrom, joinsN_append, decide_eq_true (by omega), List.append_assoc, prov_held he l r2 (r1 ++ [v]) fun u hu => h u (by simp [hu])]; rfl
theorem rounds_prove (he : ∀ a b, 0 ≤ btw es a b) : ∀ (k : Nat) (l : List Nat), provFrom es cs l (roundsL es cs n k l).flatten = true
  | 0, _ => rfl
  | k + 1, l => by
    by_cases hr : readyL es cs n l = []
    · rw [rounds_none hr]; rfl
    · rw [rounds_some hr, List.flatten_cons, provFrom_append, rounds_prove he k]
      have := prov_held (es := es) (cs := cs) he l (readyL es cs n l) [] fun v hv => (mem_ready.1 hv).2.2
      rw [List.append_nil] at this
      rw [this]; rfl
/-- The waves together. -/
theorem rounds_ok : ∀ (k : Nat) {l : List Nat}, LOk n l → n ≤ l.length + k → LOk n (l ++ (roundsL es cs n k l).flatten) ∧ ∀ u, u < n → catL es cs (l ++ (roundsL es cs n k l).flatten) u = false
  | 0, l, h, hk => by
    simp only [roundsL, List.flatten_nil, List.append_nil]
    refine ⟨h, fun u hu => ?_⟩
    have hr := rest_len l h
    have h0 : (restL n l).length = 0 := by omega
    have : u ∈ l := Classical.byContradiction fun hc => by
      have h1 := mem_rest.2 ⟨hu, hc⟩
      rw [List.length_eq_zero_iff.1 h0] at h1
      simp at h1
    rw [← Bool.not_eq_true, catL_true]
    exact fun hc => hc.1 this
  | k + 1, l, h, hk => by
    by_cases hr : readyL es cs n l = []
    · rw [rounds_none hr]
      simp only [List.flatten_nil, List.append_nil]
      refine ⟨h, fun u hu => ?_⟩
      rw [← Bool.not_eq_true]
      intro hc
      have : u ∈ readyL es cs n l := mem_ready.2 ⟨hu, (catL_true.1 hc).1, (catL_true.1 hc).2⟩
      rw [hr] at this
      simp at this
    · have h2 := ready_ok (es := es) (cs := cs) h
      have h4 := List.length_pos_iff.2 hr
      rw [rounds_some hr, List.flatten_cons, ← List.append_assoc]
      exact rounds_ok k h2 (by rw [List.length_append]; omega)
theorem rounds_perm {q : Nat} (he : ∀ a b, 0 ≤ btw es a b) (hq : q < n) : ([q] ++ (roundsL es cs n n [q]).flatten).Perm (burntL es cs n q) := by
  have hl : LOk n [q] := ⟨by simp, by simpa using hq⟩
  obtain ⟨h1, h2⟩ := rounds_ok (es := es) (cs := cs) n hl (by simp)
  have h3 : LOk n (burntL es cs n q) := burnL_ok n _ hl
  have h4 := burnL_done (es := es) (c := cs) (n := n) (k := n) (l := [q]) hl (by simp)
  change ∀ u, u < n → catL es cs (burntL es cs n q) u = false at h4
  rw [List.perm_ext_iff_of_nodup h1.1 h3.1]
  intro u
  constructor
  · -- the waves burn
    have key : ∀ (k : Nat) (l : List Nat), LOk n l → (∀ u ∈ l, u ∈ burntL es cs n q) → ∀ u ∈ l ++ (roundsL es cs n k l).flatten, u ∈ burntL es cs n q := by
      intro k
      induction k with
      | zero => intro l _ h u hu; simp [roundsL] at hu; exact h u hu
      | succ k ih =>
        intro l hlo h u hu
        by_cases hr : readyL es cs n l = []
        · rw [rounds_none hr] at hu; simp at hu; exact h u hu
        · rw [rounds_some hr, List.flatten_cons, ← List.append_assoc] at hu
          refine ih _ (ready_ok hlo) (fun x hx => ?_) u hu
          rcases List.mem_append.1 hx with hx | hx
          · exact h x hx
          · obtain ⟨g1, g2, g3⟩ := mem_ready.1 hx
            refine Classical.byContradiction fun hc => ?_
            have h5 := h4 x g1
            rw [← Bool.not_eq_true, catL_true] at h5
            have := joins_mono he hlo h3 h x
            exact h5 ⟨hc, by omega⟩
    exact key n [q] hl (fun u hu => (burnL_pre n [q]).subset hu) u
  · exact burns_same (es := es) (c := cs) (n := n) (l := [q]) (fun u hu => by simp at hu; subst hu; simp) h2 h1 he n hl u
end

theorem ren_zero {n : Nat} {l : List Nat} (h : LOk n l) (hl : l.length = n) : renErr n (natsI l) = 0 := by
  have key : ∀ (r s : List Nat), (s ++ r).Nodup → (∀ v ∈ r, v < n) → renFrom n (natsI s) (natsI r) = 0 := by
    intro r
    induction r with
    | nil => intro s _ _; simp [natsI, renFrom]
    | cons v r ih =>
      intro s hn hv
      have h1 := hv v (by simp)
      have h2 : v ∉ s := fun hc => by
        rw [List.nodup_append] at hn
        exact hn.2.2 v hc v (by simp) rfl
      have e : natsI (v :: r) = (v : Int) :: natsI r := rfl
      rw [e, renFrom, if_neg (by omega), if_neg (fun hc => h2 (natsI_mem.1 hc)), ← natsI_snoc]
      exact ih (s ++ [v]) (by simpa using hn) fun u hu => hv u (by simp [hu])
  unfold renErr
  rw [if_neg (by rw [natsI_length]; omega)]
  exact key l [] (by simpa using h.1) h.2
theorem ver_true {n q : Nat} {es : List E3} {cs : List Int} {r : List Nat} (hz : burnErr n es q cs = 0) (h : LOk n ([q] ++ r)) (hl : ([q] ++ r).length = n) (hp : provFrom es cs [q] r = true) : verErr n es q cs (natsI ([q] ++ r)) = 0 ∧ verB n es q cs (natsI ([q] ++ r)) = true := by
  have h1 : verErr n es q cs (natsI ([q] ++ r)) = 0 := by unfold verErr; rw [if_neg (by omega)]; exact ren_zero h hl
  refine ⟨h1, ?_⟩
  unfold verB
  rw [if_pos h1, nats_toNat, natsI_getD]
  unfold provL
  simp [hp]
/-- All that the law asks. -/
theorem agrees_plain {n q : Nat} {es : List E3} {cs : List Int} (hz : burnErr n es q cs = 0) :
    (burntL es cs n q).length + (restL n (burntL es cs n q)).length = n ∧ (burntL es cs n q)[0]? = some q ∧ (([q] :: roundsL es cs n n [q]).flatten).Perm (burntL es cs n q) ∧
    (restL n (burntL es cs n q) = [] → verErr n es q cs (natsI (burntL es cs n q)) = 0 ∧ verB n es q cs (natsI (burntL es cs n q)) = true ∧ verErr n es q cs (natsI ([q] :: roundsL es cs n n [q]).flatten) = 0 ∧ verB n es q cs (natsI ([q] :: roundsL es cs n n [q]).flatten) = true) ∧
    (restL n (burntL es cs n q) ≠ [] → blkErr n es q cs (natsI (restL n (burntL es cs n q))) = 0 ∧ blkB n es q cs (natsI (restL n (burntL es cs n q))) = true) := by
  obtain ⟨hG, hC, hq0, hqn, hlen, hbd, _⟩ := conf_zero (burn_zero hz).1
  simp only [Int.toNat_natCast] at hC
  have hq : q < n := by omega
  have he : ∀ a b, 0 ≤ btw es a b := fun a b => (btw_bd hG.ok a b).1
  have hl : LOk n [q] := ⟨by simp, by simpa using hq⟩
  have h3 : LOk n (burntL es cs n q) := burnL_ok n _ hl
  have hrl := rest_len _ h3
  obtain ⟨r, hr, hpr⟩ := burn_proves (es := es) (cs := cs) (n := n) ⟨by simp, by simp⟩ n [q]
  have hbr : burntL es cs n q = [q] ++ r := hr
  have hperm := rounds_perm (cs := cs) he hq
  have hfl : ([q] :: roundsL es cs n n [q]).flatten = [q] ++ (roundsL es cs n n [q]).flatten := rfl
  refine ⟨by omega, by rw [hbr]; rfl, hperm, fun hrest => ?_, fun hrest => ?_⟩
  · rw [hrest] at hrl
    have hfull : (burntL es cs n q).length = n := by simpa using hrl
    have h5 := hperm.length_eq
    have h6 := (rounds_ok (es := es) (cs := cs) n hl (by simp)).1
    obtain ⟨v1, v2⟩ := ver_true hz (r := r) (by rw [← hbr]; exact h3) (by rw [← hbr]; exact hfull) hpr
    obtain ⟨v3, v4⟩ := ver_true hz (r := (roundsL es cs n n [q]).flatten) h6 (by omega) (rounds_prove he n [q])
    rw [hbr, hfl]
    exact ⟨v1, v2, v3, v4⟩
  · have hs : setErr n (natsI (restL n (burntL es cs n q))) = 0 := setFrom_asc (List.Pairwise.sublist List.filter_sublist List.pairwise_lt_range) (fun v hv => by have := (mem_rest.1 hv).1; omega) (fun y e => by cases e)
    have hE : blkErr n es q cs (natsI (restL n (burntL es cs n q))) = 0 := by
      unfold blkErr subErr
      rw [if_neg (by omega), if_neg (fun hc => hc (burn_parts hz).1)]
      exact hs
    have hb := unburnt_blocks (cs := cs) hG hC hq hrest
    refine ⟨hE, ?_⟩
    unfold blkB
    rw [if_pos hE]
    have e : natsI (restL n (burntL es cs n q)) = (restL n (burntL es cs n q)).map fun u : Nat => (u : Int) := rfl
    rw [e, hb.1, decide_eq_false hb.2]; rfl
theorem natsI_flatten (ls : List (List Nat)) : (ls.map natsI).flatten = natsI ls.flatten := by
  unfold natsI
  rw [List.map_flatten]
theorem natsI_perm {l r : List Nat} (h : l.Perm r) : (natsI l).Perm (natsI r) := h.map _
theorem sorted_same {xs ys a b : List Int} (h : xs.Perm ys) (ha : a.Perm xs) (hb : b.Perm ys) (h1 : a.Pairwise (· ≤ ·)) (h2 : b.Pairwise (· ≤ ·)) : a = b :=
  List.Perm.eq_of_pairwise (fun _ _ _ _ h1 h2 => Int.le_antisymm h1 h2) h1 h2 (ha.trans (h.trans hb.symm))
theorem own_cap {w : World} {base : Nat} {A : Option Addr} {c : Nat} {xs : List Int} (h : OwnI w base A c xs) : xs.length ≤ c := by
  rcases h.2 with ⟨h1, h2⟩ | ⟨g, cap, cur, hv, _, _, h3, _⟩
  · injection h1 with _ h1 _; omega
  · injection hv with _ _ hv; omega
end Go.Proofs.YtdnoeaoelgehcaaGreat

