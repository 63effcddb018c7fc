/-
  The reference's fire: ref23.Burnt, ref23.Unburnt.
-/
import Derived.Test.YthbannpmfdflaaaRBurn
namespace Go.Proofs.Ythbannpmfdflaaa
open Go.RowKit

def stepL (es : List E3) (c : List Int) (n : Nat) (l : List Nat) : List Nat := match (readyL es c n l).head? with
  | none => l
  | some v => l ++ [v]
theorem burnL_back {es : List E3} {c : List Int} {n : Nat} : ∀ (k : Nat) (l : List Nat), burnL es c n (k + 1) l = stepL es c n (burnL es c n k l)
  | 0, l => by
    rcases h : (readyL es c n l).head? with _ | v
    · rw [burnL_stop h, burnL_stop h]
      unfold stepL
      rw [h]
    · rw [burnL_step h]
      show l ++ [v] = stepL es c n l
      unfold stepL
      rw [h]
  | k + 1, l => by
    rcases h : (readyL es c n l).head? with _ | v
    · rw [burnL_stop h, burnL_stop h]
      unfold stepL
      rw [h]
    · rw [burnL_step h, burnL_step h, burnL_back k]
theorem stepL_none {es : List E3} {c : List Int} {n : Nat} {l : List Nat} (h : (readyL es c n l).length = 0) : stepL es c n l = l := by
  have : readyL es c n l = [] := List.eq_nil_of_length_eq_zero h
  unfold stepL; rw [this]; rfl
theorem stepL_some {es : List E3} {c : List Int} {n : Nat} {l : List Nat} {v : Nat} (h : (readyL es c n l)[0]? = some v) : stepL es c n l = l ++ [v] := by
  unfold stepL; rw [List.head?_eq_getElem?, h]

set_option maxRecDepth 100000 in
set_option maxHeartbeats 4000000 in
theorem rburnt_any (n : Nat) (hn12 : n ≤ 12) (A : Option Addr) (c : Nat) (es : List E3) (hn : es.length ≤ 1048576) (N : Int) (hok : ∀ e ∈ es, okE N e) (q : Nat) (hq : q < n) (B : Option Addr) (d : Nat) (cs : List Int) (hcl : cs.length = n) (w : World)
    (h : Reads w w.heap.size 3 A es.length (edgeCells es)) (h' : Reads w w.heap.size 1 B cs.length (ints cs)) :
    Calls Try.prog 81 #[.agg #[.int .i64 n, .slice A es.length c], .int .i64 q, .slice B cs.length d] w fun e w' => ∃ A' c', e = .returned (.slice A' (burntL es cs n q).length c') ∧ OwnI w' w.heap.size A' c' (natsI (burntL es cs n q)) ∧ Below w.heap.size w w' := by
  have RC := Lib.hid (fun D f l hl w h h' h'' => rready_any n hn12 A c es hn N hok B d cs hcl D f l hl w h h' h'')
  have h1 : LOk n [q] := ⟨by simp, by simpa using hq⟩
  have hfin : burntL es cs n q = burnL es cs n (n - 1) [q] := by
    unfold burntL
    exact burnL_more h1 (by simp) (by simp; omega)
  have HFIN := Lib.hid hfin
  have HLO := Lib.hid h1
  have g0 := (Blk.new w 24 #[.int .i64 n, .slice A es.length c]).alloc (.cells #[.int .i64 q] 3)
  have hbel0 : Below w.heap.size w ((w.alloc (.cells #[.int .i64 n, .slice A es.length c] 24)).alloc (.cells #[.int .i64 q] 3)) := ((Below.refl _ _).alloc (Nat.le_refl _) _).alloc (by simp) _
  have o0 : OwnI ((w.alloc (.cells #[.int .i64 n, .slice A es.length c] 24)).alloc (.cells #[.int .i64 q] 3)) w.heap.size (some ⟨w.heap.size + 1, 0, none⟩) 1 (natsI [q]) := by
    have := Blk.new (w.alloc (.cells #[.int .i64 n, .slice A es.length c] 24)) 3 (intCells (natsI [q]))
    rw [show (w.alloc (.cells #[.int .i64 n, .slice A es.length c] 24)).heap.size = w.heap.size + 1 from by simp] at this
    exact OwnI.of_blk this (by omega) (by simp [natsI, maxLen])
  clear hok hcl h1 hfin
  go_enter Try.func81, Try.ntmps81
  go_wp2
  go_loopw [7, 8] (fun s i wr => ∃ (j : Nat) (A' : Option Addr) (c' : Nat) (l : List Nat), j + 1 ≤ n ∧ i = .int .i64 ((j : Int) + 1) ∧ s = .slice A' l.length c' ∧ Hid (burnL es cs n j [q] = l) ∧ Hid (LOk n l) ∧ l.length ≤ 12 ∧ OwnI wr w.heap.size A' c' (natsI l) ∧ Below w.heap.size w wr ∧ Blk wr w.heap.size 24 #[.int .i64 n, .slice A es.length c]) (fun _ i _ => n - (intOf i).toNat)
  case atStart => exact ⟨0, _, 1, [q], by omega, rfl, rfl, rfl, HLO.out, by simp, o0, hbel0, g0⟩
  case round =>
    obtain ⟨j, A', c', l, hj, rfl, rfl, HB, HL, hll, hown, hbel, g1⟩ := hrel
    clear g0 o0 hbel0
    have hsz := hbel.size
    have c0 := g1.cell 0
    have c1 := g1.cell 1
    by_cases hlt : j + 1 < n
    · have hi : (j : Int) + 1 < (n : Int) := by omega
      have hon := hown.reads
      rw [natsI_length] at hon
      have RC2 := RC.out A' c' l (by omega) wr ((h.below hbel).more hsz) ((h'.below hbel).more hsz) hon
      have hst := burnL_back (es := es) (c := cs) (n := n) j [q]
      rw [HB.out] at hst
      have hok2 := burnL_ok (es := es) (c := cs) (n := n) (j + 1) [q] HLO.out
      rcases hr : readyL es cs n l with _ | ⟨v, r⟩
      · rw [hr] at RC2
        rw [stepL_none (by rw [hr]; rfl)] at hst
        have HST := Lib.hid hst
        have RC2 := Lib.hid RC2
        clear hst hok2 hr hon
        go_wp2_with fail
        refine (RC2.out).mono ?_
        rintro e w2 ⟨A2, c2, rfl, o2, hb2⟩
        have g2 := g1.next hb2
        have hown2 := hown.next hb2
        have hbel2 := hbel.trans (hb2.mono hsz)
        go_wp2
        go_roundw
        case rel => exact ⟨j + 1, A', c', l, by omega, by go_num, rfl, HST.out, HL.out, hll, hown2, hbel2, g2⟩
        case measure => simp [intOf]; omega
      · rw [stepL_some (v := v) (by rw [hr]; rfl)] at hst
        rw [hst] at hok2
        rw [hr] at RC2
        have hlen := nodup_len hok2
        rw [List.length_append, List.length_singleton] at hlen
        have HST := Lib.hid hst
        have HL2 := Lib.hid hok2
        have RC2 := Lib.hid RC2
        obtain ⟨rl, hrl⟩ : ∃ rl, (v :: r).length = rl + 1 := ⟨r.length, by simp⟩
        rw [hrl] at RC2
        clear hst hok2 hr hon hrl
        go_wp2_with fail
        refine (RC2.out).mono ?_
        rintro e w2 ⟨A2, c2, rfl, o2, hb2⟩
        have g2 := g1.next hb2
        have hown2 := hown.next hb2
        have hbel2 := hbel.trans (hb2.mono hsz)
        have hsz2 := hbel2.size
        obtain ⟨b, off, rfl, hb, hcell⟩ := o2.reads.at_ (k := 0) (u := .int .i64 (v : Int)) (by simp [natsI, ints])
        rw [Nat.add_zero] at hcell
        have hi0 : (0 : Int) < (rl : Int) + 1 := by omega
        have hnl := natsI_length l
        have hown3 : w2.ownsRow w.heap.size 3 1 (.slice A' l.length c') l.length (ints (natsI l)) := by rw [← hnl]; exact hown2
        go_wp2_with (at_builtin; refine append_go rfl (.tmp 25) (.tmp 29) _ rfl w.heap.size 3 Try.underlying25 info_int rfl (by omega) A' c' l.length (ints (natsI l)) rfl (World.ownsRow.alloc hown3 _) _ [.int .i64 (v : Int)] rfl (Reads.box _ _ _) (by simp [Value.oneCell']) (by omega) (by simp; omega) ?_; intro A4 c4 w4 hown4 hg4 hb4 _)
        have g4 := (g2.alloc (.cells #[.int .i64 (v : Int)] 3)).grown hg4 (own_blk_ne hown3 g2 (by decide))
        have hown5 : OwnI w4 w.heap.size A4 c4 (natsI (l ++ [v])) := by
          unfold OwnI
          rw [natsI_snoc, List.length_append, natsI_length, ints_snoc]
          exact hown4
        go_roundw
        case rel => exact ⟨j + 1, A4, c4, l ++ [v], by omega, by go_num, by simp, HST.out, HL2.out, by simp; omega, hown5, hbel2.trans (((Below.refl _ _).alloc hsz2 _).trans hb4), g4⟩
        case measure => simp [intOf]; omega
    · have hjn : j = n - 1 := by omega
      have HE : Hid (burntL es cs n q = l) := by rw [Hid, HFIN.out, ← hjn]; exact HB.out
      clear hjn
      go_wp2
      go_ret
      exact ⟨A', c', by rw [HE.out]; rfl, by rw [HE.out]; exact hown, hbel⟩
end Go.Proofs.Ythbannpmfdflaaa

/-! The reference's fire: ref23.Unburnt. -/
namespace Go.Proofs.Ythbannpmfdflaaa
open Go.RowKit

theorem restTo_succ (n : Nat) (l : List Nat) : restL (n + 1) l = if n ∈ l then restL n l else restL n l ++ [n] := by
  unfold restL
  rw [List.range_succ, List.filter_append]
  by_cases h : n ∈ l <;> simp [h]

set_option maxRecDepth 100000 in
set_option maxHeartbeats 4000000 in
theorem runburnt_any (n : Nat) (hn12 : n ≤ 12) (A : Option Addr) (c : Nat) (es : List E3) (hn : es.length ≤ 1048576) (N : Int) (hok : ∀ e ∈ es, okE N e) (q : Nat) (hq : q < n) (B : Option Addr) (d : Nat) (cs : List Int) (hcl : cs.length = n) (w : World)
    (h : Reads w w.heap.size 3 A es.length (edgeCells es)) (h' : Reads w w.heap.size 1 B cs.length (ints cs)) :
    Calls Try.prog 82 #[.agg #[.int .i64 n, .slice A es.length c], .int .i64 q, .slice B cs.length d] w fun e w' => ∃ A' c', e = .returned (.slice A' (restL n (burntL es cs n q)).length c') ∧ OwnI w' w.heap.size A' c' (natsI (restL n (burntL es cs n q))) ∧ Below w.heap.size w w' := by
  have RC := rburnt_any n hn12 A c es hn N hok q hq B d cs hcl
  have hlen : (burntL es cs n q).length ≤ n := nodup_len (burnL_ok n [q] ⟨by simp, by simpa using hq⟩)
  obtain ⟨l, hl⟩ : ∃ l, burntL es cs n q = l := ⟨_, rfl⟩
  rw [hl] at RC hlen ⊢
  have RC := Lib.hid RC
  have g0 := Blk.new w 24 #[.int .i64 n, .slice A es.length c]
  clear hl hok hcl
  go_enter Try.func82, Try.ntmps82
  go_wp2_with fail
  refine (RC.out _ ((h.alloc (Nat.le_refl _) _).more (by simp)) ((h'.alloc (Nat.le_refl _) _).more (by simp))).mono ?_
  rintro e w1 ⟨A1, c1, rfl, o1, hb1⟩
  have g1 := g0.next hb1
  have hbel1 : Below w.heap.size w w1 := ((Below.refl _ _).alloc (Nat.le_refl _) _).trans (hb1.mono (by simp))
  have r1 := o1.reads
  rw [natsI_length] at r1
  have HC : Hid (∀ (v : Nat) (W : World), Reads W W.heap.size 1 A1 l.length (ints (natsI l)) → Calls Try.prog 127 #[.slice A1 l.length c1, .int .i64 v] W fun e w' => e = .returned (.bool (decide (v ∈ l))) ∧ W = w') := by
    intro v W hW
    have := holds_any A1 c1 (natsI l) (by rw [natsI_length]; omega) (v : Int) W (by rw [natsI_length]; exact hW)
    rwa [natsI_length, show decide ((v : Int) ∈ natsI l) = decide (v ∈ l) from by rw [Bool.eq_iff_iff]; simp [natsI_mem]] at this
  clear h h' g0 hb1 o1
  go_wp2
  go_loopw [8, 9] (fun s i wr => ∃ (k : Nat) (A' : Option Addr) (c' : Nat) (r : List Nat), k ≤ n ∧ i = .int .i64 k ∧ s = .slice A' (natsI r).length c' ∧ Hid (restL k l = r) ∧ (natsI r).length ≤ k ∧ OwnI wr w1.heap.size A' c' (natsI r) ∧ Below w1.heap.size w1 wr) (fun _ i _ => n - (intOf i).toNat)
  case atStart => exact ⟨0, none, 0, [], by omega, rfl, rfl, rfl, by simp [natsI], OwnI.nil_ _ _, Below.refl _ _⟩
  case round =>
    obtain ⟨k, A', c', r, hk, rfl, rfl, HR, hrl, hown, hbel⟩ := hrel
    have hsz := hbel.size
    have hsz1 := hbel1.size
    have c0 := (g1.next hbel).cell 0
    have hrs := restTo_succ k l
    rw [HR.out] at hrs
    by_cases hlt : k < n
    · have hi : (k : Int) < (n : Int) := by omega
      have CC := HC.out k wr ((r1.below hbel).more hsz)
      by_cases hm : k ∈ l
      · rw [if_pos hm] at hrs
        rw [decide_eq_true hm] at CC
        have CC := Lib.hid CC
        have HS := Lib.hid hrs
        clear hrs hm
        go_wp2_with (go_at_call 127; (with_reducible refine (CC.out).mono ?_); rintro e w' ⟨rfl, rfl⟩)
        go_roundw
        case rel => exact ⟨k + 1, A', c', r, by omega, by go_num, rfl, HS.out, by omega, hown, hbel⟩
        case measure => simp [intOf]; omega
      · rw [if_neg hm] at hrs
        rw [decide_eq_false hm] at CC
        have CC := Lib.hid CC
        have HS := Lib.hid hrs
        clear hrs hm
        go_wp2_with first
          | (go_at_call 127; (with_reducible refine (CC.out).mono ?_); rintro e w' ⟨rfl, rfl⟩)
          | (at_builtin; refine push_int rfl (.tmp 24) (.tmp 26) _ rfl Try.underlying25 w1.heap.size A' c' (natsI r) (k : Int) rfl hown rfl rfl (by omega) (by omega) ?_; intro A2 c2 w2 hown2 hg2 hb2)
        have hb3 : Below w1.heap.size w1 w2 := hbel.trans hb2
        go_roundw
        case rel => exact ⟨k + 1, A2, c2, r ++ [k], by omega, by go_num, by rw [natsI_snoc]; simp, HS.out, by rw [natsI_snoc]; simp; omega, by rw [natsI_snoc]; exact hown2, hb3⟩
        case measure => simp [intOf]; omega
    · obtain rfl : k = n := by omega
      go_wp2
      go_ret
      refine ⟨A', c', ?_, ?_, hbel1.trans (hbel.mono hsz1)⟩
      · rw [HR.out, natsI_length]; rfl
      · rw [HR.out]; exact hown.mono hsz1
end Go.Proofs.Ythbannpmfdflaaa
