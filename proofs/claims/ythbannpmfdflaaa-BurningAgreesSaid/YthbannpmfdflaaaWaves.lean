/-
  burning.Waves.
-/
import Derived.Test.YthbannpmfdflaaaWavesP
import Derived.Test.YthbannpmfdflaaaKindle
import Derived.Test.YthbannpmfdflaaaConf
import Derived.Test.YthbannpmfdflaaaLit
namespace Go.Proofs.Ythbannpmfdflaaa
open Go.RowKit

theorem own_blk_of {w : World} {base g : Nat} {e : TypeId} {cs : Array Value} (h : Blk w g e cs) (hb : base ≤ g) (hl : cs.size ≤ maxLen) : w.ownsRow base e 1 (.slice (some ⟨g, 0, none⟩) cs.size cs.size) cs.size cs.toList :=
  ⟨by simp, .inr ⟨g, cs.size, cs, rfl, hb, h, Nat.le_refl _, hl, by simp, by rw [Nat.mul_one, ← Array.length_toList, List.take_length]⟩⟩
/-- A row of one number, alone. -/
theorem rows_one {w : World} {base : Nat} (hb : base ≤ w.heap.size) (x : Int) : OwnRows ((w.alloc (.cells #[.int .i64 x] 3)).alloc (.cells #[.slice (some ⟨w.heap.size, 0, none⟩) 1 1] 25)) base (some ⟨w.heap.size + 1, 0, none⟩) 1 [.slice (some ⟨w.heap.size, 0, none⟩) 1 1] [[x]] := by
  have h1 := Blk.new (w.alloc (.cells #[.int .i64 x] 3)) 25 #[.slice (some ⟨w.heap.size, 0, none⟩) 1 1]
  rw [show (w.alloc (.cells #[.int .i64 x] 3)).heap.size = w.heap.size + 1 from by simp] at h1
  have h2 := (Blk.new w 3 #[.int .i64 x]).alloc (.cells #[.slice (some ⟨w.heap.size, 0, none⟩) 1 1] 25)
  refine ⟨own_blk_of h1 (by omega) (by simp [maxLen]), by simp [Value.oneCell'], fun i xs hi => ?_⟩
  match i, hi with
  | 0, hi =>
    injection hi with hi
    subst hi
    exact ⟨_, 1, rfl, OwnI.of_blk (l := [x]) h2 hb (by simp [maxLen])⟩
  | n + 1, hi => simp at hi

theorem wave_yes {es : List E3} {cs : List Int} {l : List Nat} {k : Nat} (h : catL es cs l k = true) : readyL es cs (k + 1) l = readyL es cs k l ++ [k] := by simp [readyL, List.range_succ, List.filter_append, h]
theorem wave_no {es : List E3} {cs : List Int} {l : List Nat} {k : Nat} (h : catL es cs l k = false) : readyL es cs (k + 1) l = readyL es cs k l := by simp [readyL, List.range_succ, List.filter_append, h]

def lenOf : Value → Nat
  | .slice _ n _ => n
  | _ => 0
theorem rounds_next {es : List E3} {cs : List Int} {n : Nat} {l : List Nat} (hn : 0 < n) (h : LOk n l) (hr : readyL es cs n l ≠ []) : roundsL es cs n n l = readyL es cs n l :: roundsL es cs n n (l ++ readyL es cs n l) := by
  obtain ⟨k, rfl⟩ : ∃ k, n = k + 1 := ⟨n - 1, by omega⟩
  rw [rounds_some hr]
  congr 1
  refine rounds_more _ _ (ready_ok h) ?_ (by omega)
  have := List.length_pos_iff.2 hr
  rw [List.length_append]; omega
theorem ready_len (es : List E3) (cs : List Int) (k : Nat) (l : List Nat) : (readyL es cs k l).length ≤ k := Nat.le_trans (List.length_filter_le _ _) (by simp)
theorem ready_lt {es : List E3} {cs : List Int} {k : Nat} {l : List Nat} : ∀ v ∈ readyL es cs k l, v < k := fun _ hv => (mem_ready.1 hv).1

set_option maxRecDepth 100000 in
set_option maxHeartbeats 4000000 in
theorem waves_ok (n : Nat) (A : Option Addr) (c : Nat) (es : List E3) (hn : es.length ≤ 1048576) (q : Nat) (B : Option Addr) (d : Nat) (cs : List Int) (hm : cs.length ≤ 1048000) (hck : burnErr n es q cs = 0) (w : World) (h : Reads w w.heap.size 3 A es.length (edgeCells es)) (h' : Reads w w.heap.size 1 B cs.length (ints cs)) :
    Calls Try.prog 33 #[.agg #[.int .i64 n, .slice A es.length c], .int .i64 q, .slice B cs.length d] w fun e w' => ∃ C c' vs xss, xss = ([q] :: roundsL es cs n n [q]).map natsI ∧ e = .returned (.tuple #[.slice C xss.length c', .int .i64 0]) ∧ OwnRows w' w.heap.size C c' vs xss ∧ Below w.heap.size w w' := by
  have g0 := Blk.new w 24 #[.int .i64 n, .slice A es.length c]
  have hb0 : Below w.heap.size w (w.alloc (.cells #[.int .i64 n, .slice A es.length c] 24)) := (Below.refl _ _).alloc (Nat.le_refl _) _
  have hbc := bcheck_any n A c es hn q B d cs (by omega)
  rw [hck] at hbc
  have BC := Lib.hid hbc
  obtain ⟨hG, _, hq0, hqn, hlen, hbd, _⟩ := conf_zero (burn_zero hck).1
  have hhi := hG.hi
  have KC := Lib.hid (kindled_any n A c es hn hG q (by omega) B d cs hm)
  have HG := Lib.hid hG
  have HCL := Lib.hid (show cs.length = n by omega)
  have hn12 : n ≤ 12 := by omega
  have HOK0 : Hid (LOk n [q]) := ⟨by simp, by simp; omega⟩
  have HF : Hid (∃ xss, xss = ([q] :: roundsL es cs n n [q]).map natsI) := ⟨_, rfl⟩
  clear hbc hck hG hbd hlen hhi hq0 hqn
  go_enter Try.func33, Try.ntmps33
  go_wp2_with fail
  refine (BC.out _ ((h.alloc (Nat.le_refl _) _).more (by simp)) ((h'.alloc (Nat.le_refl _) _).more (by simp))).mono ?_
  rintro e w1 ⟨rfl, hb1⟩
  have g1 := g0.next hb1
  have c0 := g1.cell 0
  have c1 := g1.cell 1
  have hB1 := hb0.trans (hb1.mono hb0.size)
  go_wp2_with fail
  refine (KC.out _ ((h.below hB1).more hB1.size) ((h'.below hB1).more hB1.size)).mono ?_
  rintro e w2 ⟨g, A', c', rfl, gw, ow, hg, hb2⟩
  have hB2 := hB1.trans (hb2.mono hB1.size)
  have g2 := g1.next hb2
  have hs2 := hB2.size
  have hgl : g < w2.heap.size := Blk.lt gw
  have hR0 := rows_one (base := w.heap.size) hs2 (q : Int)
  have G2 := (g2.alloc (.cells #[.int .i64 q] 3)).alloc (.cells #[.slice (some ⟨w2.heap.size, 0, none⟩) 1 1] 25)
  have W2 := (Blk.alloc gw (.cells #[.int .i64 q] 3)).alloc (.cells #[.slice (some ⟨w2.heap.size, 0, none⟩) 1 1] 25)
  have O2 := (OwnI.alloc (OwnI.alloc ow (.cells #[.int .i64 q] 3)) (.cells #[.slice (some ⟨w2.heap.size, 0, none⟩) 1 1] 25)).mono (base' := w.heap.size) hB1.size
  have B2 := (hB2.alloc hs2 (.cells #[.int .i64 q] 3)).alloc (by simp; omega) (.cells #[.slice (some ⟨w2.heap.size, 0, none⟩) 1 1] 25)
  have hgb : w.heap.size ≤ g := by have := hB1.size; omega
  clear gw ow g1 g2 hb2 hB1 hb1 c0 c1 hB2 hg hgl
  obtain ⟨F, hF⟩ := HF.out
  have hF0 : Hid (F = [[(q : Int)]] ++ (roundsL es cs n n [q]).map natsI) := by rw [Hid, hF]; rfl
  have HFF := Lib.hid hF
  clear hF HF
  go_wp2
  go_loopw [10, 11, 12, 14] (fun t10 t11 t12 t14 wr => ∃ (l : List Nat) (ws : List (List Int)) (A1 : Option Addr) (c1 : Nat) (vs : List Value), t10 = .slice A1 ws.length c1 ∧ Hid (LOk n l) ∧ Hid (F = ws ++ (roundsL es cs n n l).map natsI) ∧ ws.length ≤ l.length ∧ l.length ≤ n ∧ Below w.heap.size w wr ∧
      Blk wr w.heap.size 24 #[.int .i64 n, .slice A es.length c] ∧ Wood wr g n es (.slice A' cs.length c') l ∧ OwnI wr w.heap.size A' c' cs ∧ OwnRows wr w.heap.size A1 c1 vs ws) (fun t10 _ _ _ _ => 13 - lenOf t10)
  case atStart => exact ⟨[q], [[(q : Int)]], _, 1, _, rfl, HOK0.out, hF0.out, by simp, nodup_len HOK0.out, B2, G2, W2, O2, hR0⟩
  case round =>
    obtain ⟨l, ws, A1, c1, vs, rfl, HL, HS, hwl, hln, hbel, g3, W3, O3, R3⟩ := hrel
    clear hR0 G2 W2 O2 B2 hF0 HOK0
    obtain ⟨wo, rfl⟩ : ∃ wo : World, wo = wr := ⟨_, rfl⟩
    have hsz := hbel.size
    have hgl : g < wo.heap.size := Blk.lt W3
    have c0 := g3.cell 0
    go_wp2
    go_loopw [11, 12, 31] (fun t11 t12 i wr => ∃ (k : Nat) (A2 : Option Addr) (c2 : Nat) (r : List Nat), k ≤ n ∧ i = .int .i64 k ∧ t11 = .slice A2 (natsI r).length c2 ∧ Hid (r = readyL es cs k l) ∧ (natsI r).length ≤ k ∧ OwnI wr wo.heap.size A2 c2 (natsI r) ∧ Below wo.heap.size wo wr) (fun _ _ i _ => n - (intOf i).toNat)
    case atStart => exact ⟨0, none, 0, [], by omega, rfl, rfl, rfl, by simp [natsI], OwnI.nil_ _ _, Below.refl _ _⟩
    case round =>
      obtain ⟨k, A2, c2, r, hk, rfl, rfl, HR, hrl, hown, hb4⟩ := hrel
      have W4 : Wood wr g n es (.slice A' cs.length c') l := Blk.below W3 hb4 hgl
      have O4 := O3.next hb4
      have hs4 := hb4.size
      have c0 := (g3.next hb4).cell 0
      by_cases hlt : k < n
      · have hi : (k : Int) < (n : Int) := by omega
        have CA := catches_any g n hn12 es n HG.out.ok A' c' cs HCL.out l HL.out k hlt wr W4 O4.reads
        cases hcat : catL es cs l k
        · rw [hcat] at CA
          have CA := Lib.hid CA
          have HR2 : Hid (r = readyL es cs (k + 1) l) := by rw [Hid, wave_no hcat]; exact HR.out
          clear hcat
          go_wp2_with fail
          refine (CA.out).mono ?_
          rintro e w5 ⟨rfl, m5, rfl⟩
          go_wp2
          go_roundw
          case rel => exact ⟨k + 1, A2, c2, r, by omega, by go_num, rfl, HR2.out, by omega, hown.drewN _, below_drewN hb4 _⟩
          case measure => simp [intOf]; omega
        · rw [hcat] at CA
          have CA := Lib.hid CA
          have HR2 : Hid (r ++ [k] = readyL es cs (k + 1) l) := by rw [Hid, wave_yes hcat, HR.out]
          clear hcat
          go_wp2_with fail
          refine (CA.out).mono ?_
          rintro e w5 ⟨rfl, m5, rfl⟩
          have hown5 := hown.drewN m5
          go_wp2_with (at_builtin; refine push_int rfl (.tmp 37) (.tmp 39) _ rfl Try.underlying25 wo.heap.size A2 c2 (natsI r) (k : Int) rfl hown5 rfl rfl (by omega) hs4 ?_; intro A6 c6 w6 hown6 hg6 hb6)
          go_roundw
          case rel => exact ⟨k + 1, A6, c6, r ++ [k], by omega, by go_num, by rw [natsI_snoc]; simp, HR2.out, by rw [natsI_snoc]; simp; omega, by rw [natsI_snoc]; exact hown6, (below_drewN hb4 m5).trans (hb6.mono (Nat.le_refl _))⟩
          case measure => simp [intOf]; omega
      · obtain rfl : k = n := by omega
        have hrn : r = readyL es cs k l := HR.out
        by_cases hr0 : r = []
        · subst hr0
          have hF1 : Hid (F = ws) := by rw [Hid, HS.out, rounds_none hrn.symm]; simp
          have R4 := R3.next hb4
          have hB4 := hbel.trans (hb4.mono hsz)
          have hl00 : (natsI ([] : List Nat)).length = 0 := rfl
          clear hrn HR
          go_wp2
          go_ret2
          refine ⟨A1, c1, vs, F, HFF.out, ?_, by rw [hF1.out]; exact R4, hB4⟩
          rw [hF1.out]; rfl
        · have hl0 : 0 < (natsI r).length := by rw [natsI_length]; exact List.length_pos_iff.2 hr0
          have hS2 : Hid (F = (ws ++ [natsI r]) ++ (roundsL es cs k k (l ++ r)).map natsI) := by
            rw [Hid, HS.out, rounds_next (by omega) HL.out (by rw [← hrn]; exact hr0), ← hrn]
            simp
          have hL2 : Hid (LOk k (l ++ r)) := by rw [hrn]; exact ready_ok HL.out
          have hrk : ∀ j v, r[j]? = some v → v < k := fun j v hv => by
            have := List.mem_of_getElem? hv
            rw [hrn] at this
            exact ready_lt v this
          have HRK := Lib.hid hrk
          have hlen : (((natsI r).length : Int) == 0) = false := by rw [beq_eq_false_iff_ne]; omega
          have G4 := g3.next hb4
          have R4 := R3.next hb4
          have hB4 := hbel.trans (hb4.mono hsz)
          have hw4 := hown.mono (base' := w.heap.size) hsz
          clear hrn hr0 hrk g3 W3 O3 R3 c0 HR hown
          obtain ⟨wp, rfl⟩ : ∃ wp : World, wp = wr := ⟨_, rfl⟩
          have hnr := natsI_length r
          have HNR := Lib.hid hnr
          have hl48 : (natsI r).length ≤ 12 := by omega
          clear hnr
          go_wp2
          go_loopw [14, 48] (fun t14 i wr => ∃ j : Nat, j ≤ (natsI r).length ∧ i = .int .i64 j ∧ Below w.heap.size w wr ∧ Blk wr w.heap.size 24 #[.int .i64 k, .slice A es.length c] ∧ Wood wr g k es (.slice A' cs.length c') (l ++ r.take j) ∧ OwnI wr w.heap.size A' c' cs ∧ OwnRows wr w.heap.size A1 c1 vs ws ∧ OwnI wr w.heap.size A2 c2 (natsI r)) (fun _ i _ => (natsI r).length - (intOf i).toNat)
          case atStart => exact ⟨0, by omega, rfl, hB4, G4, by rw [List.take_zero, List.append_nil]; exact W4, O4, R4, hw4⟩
          case round =>
            obtain ⟨j, hj, rfl, hB5, G5, W5, O5, R5, w5⟩ := hrel
            clear hB4 G4 W4 O4 R4 hw4
            by_cases hlt2 : j < (natsI r).length
            · obtain ⟨v, hv⟩ := get_of_lt (xs := r) (k := j) (by have := HNR.out; omega)
              have hvn := HRK.out j v hv
              obtain ⟨b, off, rfl, hb, hce⟩ := (w5.reads).at_ (ints_at (natsI_at hv))
              have hji : (j : Int) < ((natsI r).length : Int) := by omega
              have hv12 : (v : Int) < 12 := by omega
              have hbv := W5.burnt_ (u := v) (by omega)
              have hfv := Blk.frozen W5 (146 + v)
              have HTK := Lib.hid (take_snoc hv)
              have hgw : w.heap.size ≠ g := Blk.ne_ G5 W5 (by decide)
              clear hv
              go_wp2
              go_roundw
              case rel =>
                refine ⟨j + 1, by omega, by go_num, hB5.setCell (p := ⟨g, 146 + v, none⟩) (by show w.heap.size ≤ g; omega) _, G5.far (p := ⟨g, 146 + v, none⟩) (by show w.heap.size ≠ g; exact hgw) _, ?_, O5.set_blk W5 (by decide) _ _, R5.set_blk W5 (by decide) (by decide) _ _, w5.set_blk W5 (by decide) _ _⟩
                rw [HTK.out, ← List.append_assoc]
                exact Wood.burn W5 (by omega)
              case measure => simp [intOf]; omega
            · obtain rfl : j = (natsI r).length := by omega
              have htk : r.take (natsI r).length = r := by rw [HNR.out, List.take_length]
              rw [htk] at W5
              have hs5 := hB5.size
              have hnl := nodup_len hL2.out
              rw [List.length_append] at hnl
              have hrl2 : 0 < r.length := by have := HNR.out; omega
              have hwsl : ws.length ≤ 12 := by omega
              clear htk
              go_wp2_with (at_builtin; refine append_go rfl (.tmp 58) (.tmp 60) _ rfl w.heap.size 25 Try.underlying39 info_row rfl (by omega) A1 c1 ws.length vs rfl (World.ownsRow.alloc R5.1 _) _ [.slice A2 (natsI r).length c2] rfl (Reads.box _ _ _) (by simp [Value.oneCell']) (by omega) (by simp; omega) ?_; intro A6 c6 w6 hown6 hg6 hb6 hw6)
              go_roundw
              case rel =>
                have R6 : OwnRows w6 w.heap.size A6 c6 (vs ++ [.slice A2 (natsI r).length c2]) (ws ++ [natsI r]) := OwnRows.push (R5.kept fun k hk => Below.heap_alloc _ _ _ (R5.lt hk).2) (OwnI.alloc w5 _) hown6 hg6
                have hB6 := (hB5.alloc hs5 (.cells #[.slice A2 (natsI r).length c2] 25)).trans hb6
                have G6 := Blk.grown (G5.alloc (.cells #[.slice A2 (natsI r).length c2] 25)) hg6 (own_blk_ne R5.1 G5 (by decide))
                have W6 : Wood w6 g k es (.slice A' cs.length c') (l ++ r) := Blk.grown (Blk.alloc W5 (.cells #[.slice A2 (natsI r).length c2] 25)) hg6 (own_blk_ne R5.1 W5 (by decide))
                have O6 : OwnI w6 w.heap.size A' c' cs := own_kept (OwnI.alloc O5 (.cells #[.slice A2 (natsI r).length c2] 25)) fun k hk => hg6.block k (by have := (own_lt O5 hk).2; simp; omega) fun e => own_ne O5 R5.1 (by decide) hk (blockOf_own.1 e.symm) rfl
                exact ⟨l ++ r, ws ++ [natsI r], A6, c6, _, by simp, hL2.out, hS2.out, by rw [List.length_append, List.length_append]; simp; omega, by rw [List.length_append]; omega, hB6, G6, W6, O6, R6⟩
              case measure => simp [lenOf]; omega
end Go.Proofs.Ythbannpmfdflaaa
