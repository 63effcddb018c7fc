/-
  Package firing: LegalSet.
-/
import Derived.Test.YthbannpmfdflaaaLegal
import Derived.Laws.EntriesVeiled
namespace Go.Proofs.Ythbannpmfdflaaa
open Go.RowKit

set_option maxHeartbeats 1000000 in
theorem lacks_any (gc gd gl : Nat) (B : Option Addr) (d : Nat) (cs : List Int) (n : Nat) (hcl : cs.length = n) (es : List E3) (S : List Int) (gL : Nat) (v : Nat) (hv : v < n) (w : World)
    (h0 : Blk w gc 45 #[.func (.func 125) #[] #[.pointer (some ⟨gd, 0, none⟩), .pointer (some ⟨gl, 0, none⟩)]])
    (h1 : Blk w gd 26 #[.slice B cs.length d]) (h2 : Blk w gl 25 #[.slice (some ⟨gL, 0, none⟩) n n]) (h3 : Reads w w.heap.size 1 B cs.length (ints cs)) (h4 : Blk w gL 3 (intCells (lostL n es S))) :
    Calls Try.prog 126 #[.int .i64 v, .pointer (some ⟨gc, 0, none⟩)] w fun e w' => e = .returned (.bool (!decide (lostE es S v ≤ cs.getD v 0))) ∧ ∃ m, w' = w.drewN m := by
  have EC := enough_any gd gl B d cs n hcl es S gL v hv w h1 h2 h3 h4
  have c0 := h0.cell 0
  have eg := enters_of (P := Try.prog) Try.func125 (by kernel_rfl) rfl
  obtain ⟨r, hr⟩ : ∃ r, decide (lostE es S v ≤ cs.getD v 0) = r := ⟨_, rfl⟩
  rw [hr] at EC ⊢
  have EC := Lib.hid EC
  clear hr h0 h1 h2 h3 h4 hcl
  go_enter Try.func126, Try.ntmps126
  go_wp2_with fail
  refine (EC.out).mono ?_
  rintro e w1 ⟨rfl, HM⟩
  go_wp2
  go_ret
  exact ⟨rfl, HM⟩

/-- May the set fire legally? -/
def legB (es : List E3) (cs S : List Int) : Bool := leavesE es S && !(S.any fun v => !decide (lostE es S v ≤ cs.getD v.toNat 0))
set_option maxRecDepth 100000 in
set_option maxHeartbeats 4000000 in
theorem legal_ok (n : Nat) (A : Option Addr) (c : Nat) (es : List E3) (hn : es.length ≤ 1048576) (B : Option Addr) (d : Nat) (cs : List Int) (hm : cs.length ≤ 1048576) (D : Option Addr) (f : Nat) (S : List Int) (hs : S.length ≤ 1048576) (hck : legErr n es cs S = 0) (hG : RightG n es) (hcl : cs.length = n) (hS : ∀ v ∈ S, 0 ≤ v ∧ v < n) (w : World)
    (h : Reads w w.heap.size 3 A es.length (edgeCells es)) (h' : Reads w w.heap.size 1 B cs.length (ints cs)) (h'' : Reads w w.heap.size 1 D S.length (ints S)) :
    Calls Try.prog 73 #[.agg #[.int .i64 n, .slice A es.length c], .slice B cs.length d, .slice D S.length f] w fun e w' => e = .returned (.tuple #[.bool (legB es cs S), .int .i64 0]) ∧ Below w.heap.size w w' := by
  have FC := fsubset_any n A c es hn B d cs hm D f S hs
  rw [hck] at FC
  have FC := Lib.hid FC
  have hmk := make_ints n (by have := hG.hi; omega)
  have g0 := (Blk.new w 24 #[.int .i64 n, .slice A es.length c]).alloc (.cells #[.slice B cs.length d] 26)
  have d0 := Blk.new (w.alloc (.cells #[.int .i64 n, .slice A es.length c] 24)) 26 #[.slice B cs.length d]
  rw [show (w.alloc (.cells #[.int .i64 n, .slice A es.length c] 24)).heap.size = w.heap.size + 1 from by simp] at d0
  have hbel0 : Below w.heap.size w ((w.alloc (.cells #[.int .i64 n, .slice A es.length c] 24)).alloc (.cells #[.slice B cs.length d] 26)) := ((Below.refl _ _).alloc (Nat.le_refl _) _).alloc (by simp) _
  have HG := Lib.hid hG
  have HCL := Lib.hid hcl
  have HS := Lib.hid hS
  have FC2 := Lib.hid (FC.out _ ((h.below hbel0).more (by simp; omega)) ((h'.below hbel0).more (by simp; omega)) ((h''.below hbel0).more (by simp; omega)))
  clear hck hG hcl hS FC
  go_enter Try.func73, Try.ntmps73
  go_wp2_with fail
  refine (FC2.out).mono ?_
  rintro e w1 ⟨rfl, hb1⟩
  have g1 := g0.next hb1
  have d1 := d0.next hb1
  have c0 := g1.cell 0
  have hbel1 : Below w.heap.size w w1 := hbel0.trans (hb1.mono (by simp; omega))
  have hs1 := d1.lt
  have g2 := (g1.alloc (.cells (ints (List.replicate n 0)).toArray 3)).alloc (.cells #[.slice (some ⟨w1.heap.size, 0, none⟩) n n] 25)
  have d2 := (d1.alloc (.cells (ints (List.replicate n 0)).toArray 3)).alloc (.cells #[.slice (some ⟨w1.heap.size, 0, none⟩) n n] 25)
  have L2 := (Blk.new w1 3 (ints (List.replicate n 0)).toArray).alloc (.cells #[.slice (some ⟨w1.heap.size, 0, none⟩) n n] 25)
  have s2 := Blk.new (w1.alloc (.cells (ints (List.replicate n 0)).toArray 3)) 25 #[.slice (some ⟨w1.heap.size, 0, none⟩) n n]
  rw [show (w1.alloc (.cells (ints (List.replicate n 0)).toArray 3)).heap.size = w1.heap.size + 1 from by simp] at s2
  have hbel2 := (hbel1.alloc hbel1.size (.cells (ints (List.replicate n 0)).toArray 3)).alloc (by simp; omega) (.cells #[.slice (some ⟨w1.heap.size, 0, none⟩) n n] 25)
  have hL0 : (ints (List.replicate n 0)).toArray = intCells (lostL n (es.take 0) S) := by
    have : lostL n (es.take 0) S = List.replicate n 0 := by
      unfold lostL
      rw [List.eq_replicate_iff]
      refine ⟨by simp, fun b hb => ?_⟩
      obtain ⟨v, _, rfl⟩ := List.mem_map.1 hb
      simp [lostE]
    rw [this]; rfl
  have c1 := g2.cell 1
  have L3 : Blk ((w1.alloc (.cells (ints (List.replicate n 0)).toArray 3)).alloc (.cells #[.slice (some ⟨w1.heap.size, 0, none⟩) n n] 25)) w1.heap.size 3 (intCells (lostL n (es.take 0) S)) := by rw [← hL0]; exact L2
  clear g0 d0 g1 d1 hb1 hbel0 hbel1 L2 hL0
  go_wp2
  go_loopw [10, 29] (fun t i wr => ∃ k : Nat, k ≤ es.length ∧ i = .int .i64 k ∧ t = .bool (leavesE (es.take k) S) ∧ Below w.heap.size w wr ∧ Blk wr w.heap.size 24 #[.int .i64 n, .slice A es.length c] ∧ Blk wr (w.heap.size + 1) 26 #[.slice B cs.length d] ∧ Blk wr (w1.heap.size + 1) 25 #[.slice (some ⟨w1.heap.size, 0, none⟩) n n] ∧ Blk wr w1.heap.size 3 (intCells (lostL n (es.take k) S))) (fun _ i _ => es.length - (intOf i).toNat)
  case atStart => exact ⟨0, by omega, rfl, rfl, hbel2, g2, d2, s2, L3⟩
  case round =>
    obtain ⟨k, hk, rfl, rfl, hbel, g3, d3, s3, L3⟩ := hrel
    clear hbel2 g2 d2 s2 c1 hmk
    have hsz := hbel.size
    have hlt1 := s3.lt
    by_cases hlt : k < es.length
    · obtain ⟨⟨x, y, m⟩, hx⟩ := get_of_lt hlt
      have hok := HG.out.ok _ (List.mem_of_getElem? hx)
      have hhi := HG.out.hi
      unfold okE at hok
      dsimp only at hok
      obtain ⟨a, rfl⟩ := Int.eq_ofNat_of_zero_le (show 0 ≤ x by omega)
      obtain ⟨b, rfl⟩ := Int.eq_ofNat_of_zero_le (show 0 ≤ y by omega)
      have hi : (k : Int) < (es.length : Int) := by omega
      obtain ⟨bb, off, rfl, hbb, q1, q2, q3⟩ := (h.below hbel).edge hx
      dsimp only at q1 q2 q3
      have hlv := leavesE_take hx S
      have HX := Lib.hid hx
      have EB := wr.alloc (.cells #[.int .i64 a, .int .i64 b, .int .i64 m] 130)
      clear EB
      have e3 := Blk.new wr 130 #[.int .i64 a, .int .i64 b, .int .i64 m]
      have G3 := g3.alloc (.cells #[.int .i64 a, .int .i64 b, .int .i64 m] 130)
      have D3 := d3.alloc (.cells #[.int .i64 a, .int .i64 b, .int .i64 m] 130)
      have S3 := s3.alloc (.cells #[.int .i64 a, .int .i64 b, .int .i64 m] 130)
      have L4 := L3.alloc (.cells #[.int .i64 a, .int .i64 b, .int .i64 m] 130)
      have B3 := hbel.alloc hsz (.cells #[.int .i64 a, .int .i64 b, .int .i64 m] 130)
      have R3 := Lib.hid ((h''.below B3).more B3.size)
      have CC := Lib.hid (fun v w h => contains_any D f S hs v w h)
      have P0 := e3.cell 0
      have P1 := e3.cell 1
      have P2 := e3.cell 2
      have PS := S3.cell 0
      have hza : a < n := by omega
      have hzb : b < n := by omega
      have hai : (a : Int) < (n : Int) := by omega
      have hbi : (b : Int) < (n : Int) := by omega
      have PLa := L4.cell a
      rw [intCells_get (lostL_get hza)] at PLa
      have PLb := L4.cell b
      rw [intCells_get (lostL_get hzb)] at PLb
      have PFa := L4.frozen a
      have PFb := L4.frozen b
      have hbda := lostE_bd (es := es.take k) (fun e he => HG.out.ok e (List.mem_of_mem_take he)) S (a : Int)
      have hbdb := lostE_bd (es := es.take k) (fun e he => HG.out.ok e (List.mem_of_mem_take he)) S (b : Int)
      rw [List.length_take] at hbda hbdb
      have hm1 : 1 ≤ m := by omega
      have hm2 : m ≤ 50 := by omega
      have hgo : goesE S ((a : Int), (b : Int), m) = if (a : Int) ∈ S ∧ (b : Int) ∉ S then some (a : Int) else if (b : Int) ∈ S ∧ (a : Int) ∉ S then some (b : Int) else none := rfl
      have HGO := Lib.hid hgo
      obtain ⟨la, hla⟩ : ∃ z, lostE (es.take k) S a = z := ⟨_, rfl⟩
      obtain ⟨lb, hlb⟩ : ∃ z, lostE (es.take k) S b = z := ⟨_, rfl⟩
      rw [hla] at PLa hbda
      rw [hlb] at PLb hbdb
      have ha1 : 0 ≤ la := hbda.1
      have ha2 : la ≤ 52428800 := by omega
      have hb1 : 0 ≤ lb := hbdb.1
      have hb2 : lb ≤ 52428800 := by omega
      clear hbda hbdb
      have HLA := Lib.hid hla
      have HLB := Lib.hid hlb
      have HLV := Lib.hid hlv
      obtain ⟨t0, ht0⟩ : ∃ z, leavesE (es.take k) S = z := ⟨_, rfl⟩
      rw [ht0] at HLV
      have HT0 := Lib.hid ht0
      clear hx hok hla hlb hlv hgo g3 d3 s3 L3 hbel h h'
      rw [ht0]
      clear ht0
      by_cases ma : (a : Int) ∈ S
      · have da : decide ((a : Int) ∈ S) = true := decide_eq_true ma
        by_cases mb : (b : Int) ∈ S
        · have db : decide ((b : Int) ∈ S) = true := decide_eq_true mb
          have hg := HGO.out
          rw [if_neg (fun hc => hc.2 mb), if_neg (fun hc => hc.2 ma)] at hg
          have HN := Lib.hid (lostL_same HX.out hg (n := n))
          have HV : Hid (leavesE (es.take (k + 1)) S = t0) := by rw [Hid, HLV.out, hg]; simp
          have CA : Hid (∀ W : World, Reads W W.heap.size 1 D S.length (ints S) → Calls Try.prog 24 #[.slice D S.length f, .int .i64 a] W fun e w' => e = .returned (.bool true) ∧ W = w') := by intro W hW; have := CC.out a W hW; rwa [da] at this
          have CB : Hid (∀ W : World, Reads W W.heap.size 1 D S.length (ints S) → Calls Try.prog 24 #[.slice D S.length f, .int .i64 b] W fun e w' => e = .returned (.bool true) ∧ W = w') := by intro W hW; have := CC.out b W hW; rwa [db] at this
          clear hg ma mb da db CC
          go_wp2
          go_quiet (first | ((go_at_call 24; exact Calls.quiet_of_same ((CA.out _ (by exact R3.out)).mono fun _ _ h => ⟨h.1, h.2.symm⟩))) | ((go_at_call 24; exact Calls.quiet_of_same ((CB.out _ (by exact R3.out)).mono fun _ _ h => ⟨h.1, h.2.symm⟩))))
          go_wp2
          go_roundw
          case rel => exact ⟨k + 1, by omega, by go_num, by rw [HV.out], below_drewN B3 _, G3.drewN _, D3.drewN _, S3.drewN _, by rw [HN.out]; exact L4.drewN _⟩
          case measure => simp [intOf]; omega
        · have db : decide ((b : Int) ∈ S) = false := decide_eq_false mb
          have hg := HGO.out
          rw [if_pos ⟨ma, mb⟩] at hg
          have hns := lostL_set HX.out hg (n := n)
          rw [HLA.out] at hns
          dsimp only at hns
          have HN := Lib.hid hns
          have HV : Hid (leavesE (es.take (k + 1)) S = true) := by rw [Hid, HLV.out, hg]; simp
          have CA : Hid (∀ W : World, Reads W W.heap.size 1 D S.length (ints S) → Calls Try.prog 24 #[.slice D S.length f, .int .i64 a] W fun e w' => e = .returned (.bool true) ∧ W = w') := by intro W hW; have := CC.out a W hW; rwa [da] at this
          have CB : Hid (∀ W : World, Reads W W.heap.size 1 D S.length (ints S) → Calls Try.prog 24 #[.slice D S.length f, .int .i64 b] W fun e w' => e = .returned (.bool false) ∧ W = w') := by intro W hW; have := CC.out b W hW; rwa [db] at this
          clear hg ma mb da db CC hns
          go_wp2
          go_quiet (first | ((go_at_call 24; exact Calls.quiet_of_same ((CA.out _ (by exact R3.out)).mono fun _ _ h => ⟨h.1, h.2.symm⟩))) | ((go_at_call 24; exact Calls.quiet_of_same ((CB.out _ (by exact R3.out)).mono fun _ _ h => ⟨h.1, h.2.symm⟩))))
          go_wp2
          go_region
          all_goals (
            have BX := B3.setCell (p := ⟨w1.heap.size, a, none⟩) (by simp; omega) (.int .i64 (la + m))
            have LX := L4.set_ a (.int .i64 (la + m))
            rw [intCells_set, ← HN.out] at LX
            have GX := G3.far (p := ⟨w1.heap.size, a, none⟩) (by simp; omega) (.int .i64 (la + m))
            have DX := D3.far (p := ⟨w1.heap.size, a, none⟩) (by simp; omega) (.int .i64 (la + m))
            have SX := S3.far (p := ⟨w1.heap.size, a, none⟩) (by simp) (.int .i64 (la + m))
            go_wp2
            go_roundw
            case rel => exact ⟨k + 1, by omega, by go_num, by rw [HV.out], ⟨BX.os, BX.tape, BX.output, BX.size, BX.block⟩, GX, DX, SX, LX⟩
            case measure => simp [intOf]; omega)
      · have da : decide ((a : Int) ∈ S) = false := decide_eq_false ma
        by_cases mb : (b : Int) ∈ S
        · have db : decide ((b : Int) ∈ S) = true := decide_eq_true mb
          have hg := HGO.out
          rw [if_neg (fun hc => ma hc.1), if_pos ⟨mb, ma⟩] at hg
          have hns := lostL_set HX.out hg (n := n)
          rw [HLB.out] at hns
          dsimp only at hns
          have HN := Lib.hid hns
          have HV : Hid (leavesE (es.take (k + 1)) S = true) := by rw [Hid, HLV.out, hg]; simp
          have CA : Hid (∀ W : World, Reads W W.heap.size 1 D S.length (ints S) → Calls Try.prog 24 #[.slice D S.length f, .int .i64 a] W fun e w' => e = .returned (.bool false) ∧ W = w') := by intro W hW; have := CC.out a W hW; rwa [da] at this
          have CB : Hid (∀ W : World, Reads W W.heap.size 1 D S.length (ints S) → Calls Try.prog 24 #[.slice D S.length f, .int .i64 b] W fun e w' => e = .returned (.bool true) ∧ W = w') := by intro W hW; have := CC.out b W hW; rwa [db] at this
          clear hg ma mb da db CC hns
          go_wp2
          go_quiet (first | ((go_at_call 24; exact Calls.quiet_of_same ((CA.out _ (by exact R3.out)).mono fun _ _ h => ⟨h.1, h.2.symm⟩))) | ((go_at_call 24; exact Calls.quiet_of_same ((CB.out _ (by exact R3.out)).mono fun _ _ h => ⟨h.1, h.2.symm⟩))))
          go_wp2
          go_region
          all_goals (
            have BX := B3.setCell (p := ⟨w1.heap.size, b, none⟩) (by simp; omega) (.int .i64 (lb + m))
            have LX := L4.set_ b (.int .i64 (lb + m))
            rw [intCells_set, ← HN.out] at LX
            have GX := G3.far (p := ⟨w1.heap.size, b, none⟩) (by simp; omega) (.int .i64 (lb + m))
            have DX := D3.far (p := ⟨w1.heap.size, b, none⟩) (by simp; omega) (.int .i64 (lb + m))
            have SX := S3.far (p := ⟨w1.heap.size, b, none⟩) (by simp) (.int .i64 (lb + m))
            go_wp2
            go_roundw
            case rel => exact ⟨k + 1, by omega, by go_num, by rw [HV.out], ⟨BX.os, BX.tape, BX.output, BX.size, BX.block⟩, GX, DX, SX, LX⟩
            case measure => simp [intOf]; omega)
        · have db : decide ((b : Int) ∈ S) = false := decide_eq_false mb
          have hg := HGO.out
          rw [if_neg (fun hc => ma hc.1), if_neg (fun hc => mb hc.1)] at hg
          have HN := Lib.hid (lostL_same HX.out hg (n := n))
          have HV : Hid (leavesE (es.take (k + 1)) S = t0) := by rw [Hid, HLV.out, hg]; simp
          have CA : Hid (∀ W : World, Reads W W.heap.size 1 D S.length (ints S) → Calls Try.prog 24 #[.slice D S.length f, .int .i64 a] W fun e w' => e = .returned (.bool false) ∧ W = w') := by intro W hW; have := CC.out a W hW; rwa [da] at this
          have CB : Hid (∀ W : World, Reads W W.heap.size 1 D S.length (ints S) → Calls Try.prog 24 #[.slice D S.length f, .int .i64 b] W fun e w' => e = .returned (.bool false) ∧ W = w') := by intro W hW; have := CC.out b W hW; rwa [db] at this
          clear hg ma mb da db CC
          go_wp2
          go_quiet (first | ((go_at_call 24; exact Calls.quiet_of_same ((CA.out _ (by exact R3.out)).mono fun _ _ h => ⟨h.1, h.2.symm⟩))) | ((go_at_call 24; exact Calls.quiet_of_same ((CB.out _ (by exact R3.out)).mono fun _ _ h => ⟨h.1, h.2.symm⟩))))
          go_wp2
          go_roundw
          case rel => exact ⟨k + 1, by omega, by go_num, by rw [HV.out], below_drewN B3 _, G3.drewN _, D3.drewN _, S3.drewN _, by rw [HN.out]; exact L4.drewN _⟩
          case measure => simp [intOf]; omega
    · obtain rfl : k = es.length := by omega
      obtain ⟨t0, ht0⟩ : ∃ z, leavesE (es.take es.length) S = z := ⟨_, rfl⟩
      rw [ht0]
      have HT0 : Hid (leavesE es S = t0) := by rw [List.take_length] at ht0; exact ht0
      rw [List.take_length] at L3
      have HLB : Hid (legB es cs S = (leavesE es S && !(S.any fun v => !decide (lostE es S v ≤ cs.getD v.toNat 0)))) := rfl
      obtain ⟨lr, hlr⟩ : ∃ z, legB es cs S = z := ⟨_, rfl⟩
      have HLR := Lib.hid hlr
      have hmf : ∀ (fn : Fn) (first cap : Array Value) (w : World), (Instr.makeFunc fn first cap).run Try.prog w = .ok (.func fn first cap) w := fun _ _ _ _ => rfl
      have d4 := d3.alloc (.cells #[.func (.func 125) #[] #[.pointer (some ⟨w.heap.size + 1, 0, none⟩), .pointer (some ⟨w1.heap.size + 1, 0, none⟩)]] 45)
      have s4 := s3.alloc (.cells #[.func (.func 125) #[] #[.pointer (some ⟨w.heap.size + 1, 0, none⟩), .pointer (some ⟨w1.heap.size + 1, 0, none⟩)]] 45)
      have L4 := L3.alloc (.cells #[.func (.func 125) #[] #[.pointer (some ⟨w.heap.size + 1, 0, none⟩), .pointer (some ⟨w1.heap.size + 1, 0, none⟩)]] 45)
      have f4 := Blk.new wr 45 #[.func (.func 125) #[] #[.pointer (some ⟨w.heap.size + 1, 0, none⟩), .pointer (some ⟨w1.heap.size + 1, 0, none⟩)]]
      have B4 := hbel.alloc hsz (.cells #[.func (.func 125) #[] #[.pointer (some ⟨w.heap.size + 1, 0, none⟩), .pointer (some ⟨w1.heap.size + 1, 0, none⟩)]] 45)
      have rd4 := (h'.below B4).more B4.size
      have rs4 := (h''.below B4).more B4.size
      have CF := containsf_any 126 (.pointer (some ⟨wr.heap.size, 0, none⟩)) (enters_of (P := Try.prog) Try.func126 (by kernel_rfl) rfl) (fun v => !decide (lostE es S v ≤ cs.getD v.toNat 0)) D f S hs _ rs4 (by
        intro x hx m
        obtain ⟨v, rfl⟩ := Int.eq_ofNat_of_zero_le (HS.out x hx).1
        have hv := (HS.out _ hx).2
        have := lacks_any wr.heap.size (w.heap.size + 1) (w1.heap.size + 1) B d cs n HCL.out es S w1.heap.size v (by omega) _ (f4.drewN m) (d4.drewN m) (s4.drewN m) (rd4.drewN m) (L4.drewN m)
        refine this.mono ?_
        rintro e w' ⟨he, m2, rfl⟩
        exact ⟨by rw [he, Int.toNat_natCast], m + m2, by rw [World.drewN_drewN]⟩)
      obtain ⟨sb, hsb⟩ : ∃ z, (S.any fun v => !decide (lostE es S v ≤ cs.getD v.toNat 0)) = z := ⟨_, rfl⟩
      rw [hsb] at CF
      have HSB := Lib.hid hsb
      have CF := Lib.hid CF
      clear ht0 hlr hsb g3 d3 s3 L3 d4 s4 L4 f4 rd4 rs4 h h' h''
      cases t0
      · have HE : Hid (legB es cs S = false) := by rw [Hid, HLB.out, HT0.out]; rfl
        go_wp2
        go_ret2
        exact ⟨by rw [HE.out]; rfl, B4⟩
      · have HE : Hid (legB es cs S = !sb) := by rw [Hid, HLB.out, HT0.out, HSB.out]; simp
        go_wp2_with fail
        refine (CF.out).mono ?_
        rintro e w5 ⟨rfl, m5, rfl⟩
        go_wp2
        go_ret2
        exact ⟨by rw [HE.out]; rfl, below_drewN B4 _⟩
end Go.Proofs.Ythbannpmfdflaaa
