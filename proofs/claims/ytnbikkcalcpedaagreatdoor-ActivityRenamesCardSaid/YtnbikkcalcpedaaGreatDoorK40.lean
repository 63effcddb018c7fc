/-
  Texts of this claim, put together: PolyW, RMono, PolyA, RDig01, RMemb31.
-/
import Derived.Test.YtnbikkcalcpedaaGreatDoorK34
import Derived.Test.YtnbikkcalcpedaaGreatDoorK33
import Derived.Test.YtnbikkcalcpedaaGreatDoorK38
import Derived.Test.YtnbikkcalcpedaaGreatDoorK39
import Derived.Test.YtnbikkcalcpedaaGreatDoorK29
import Derived.Deep.RegionHeld3
import Derived.Test.YtnbikkcalcpedaaGreatDoorK07
import Derived.Test.YtnbikkcalcpedaaGreatDoorK31
import Derived.Test.YtnbikkcalcpedaaGreatDoorK32
/-! activity.Polynomial over the trees: a map counts the weights, its entries become terms, and these are sorted. -/
namespace Go.Proofs.YtnbikkcalcpedaaGreatDoor
open Go.RowKit

set_option maxRecDepth 100000 in
set_option maxHeartbeats 4000000 in
theorem poly_core (n : Int) (A : Option Addr) (c m : Nat) (xss : List (List Int)) (F : List (Nat × Nat)) (hFl : F.length = xss.length) (hN : xss.length < 100) (hF : ∀ p ∈ F, p.1 ≤ 256 ∧ p.2 ≤ 256) (w : World)
    (AC : ∀ W, Below w.heap.size w W → Calls Tryz.prog 49 #[.agg #[.int .i64 n, .slice A m c]] W fun e w' => ∃ Ar cr vs, e = .returned (.tuple #[.slice Ar xss.length cr, .int .i64 0]) ∧ OwnRows w' W.heap.size Ar cr vs xss ∧ Below W.heap.size W w')
    (WC : ∀ (i : Nat) (xs : List Int) (p : Nat × Nat), xss[i]? = some xs → F[i]? = some p → ∀ B d W, Below w.heap.size w W → Reads W W.heap.size 1 B xs.length (ints xs) → Calls Tryz.prog 58 #[.agg #[.int .i64 n, .slice A m c], .slice B xs.length d] W fun e w' => ∃ A' c', e = .returned (.tuple #[.slice A' 1 c', .int .i64 0]) ∧ OwnT w' W.heap.size A' c' [(p, 1)] ∧ Below W.heap.size W w') :
    Calls Tryz.prog 15 #[.agg #[.int .i64 n, .slice A m c]] w fun e w' => ∃ A' c', e = .returned (.tuple #[.slice A' (sumP F).length c', .int .i64 0]) ∧ OwnT w' w.heap.size A' c' (sumP F) ∧ Below w.heap.size w w' := by
  have AC := Lib.hid AC
  have WC := Lib.hid WC
  have HF := Lib.hid hF
  have HFL := Lib.hid hFl
  have g := Blk.new w 24 #[.int .i64 n, .slice A m c]
  have hB : Below w.heap.size w (w.alloc (.cells #[.int .i64 n, .slice A m c] 24)) := (Below.refl _ _).alloc (Nat.le_refl _) _
  have k0 := g.cell 0
  have k1 := g.cell 1
  obtain ⟨N, hNN⟩ : ∃ N, xss.length = N := ⟨_, rfl⟩
  have HNN := Lib.hid hNN
  rw [hNN] at AC hN
  clear hF hFl hNN
  go_enter Tryz.func15, Tryz.ntmps15
  go_wp2_with fail
  refine (AC.out _ hB).mono ?_
  rintro e w1 ⟨Ar, cr, vs, rfl, hrows, hb⟩
  have g := g.next hb
  have hB := hB.trans (hb.mono hB.size)
  have hR := hrows.reads
  clear hb hrows k0 k1
  have hM0 : (w1.alloc (.map #[] 0)).ownsMap Tryz.prog 50 (plainElem (H := Unit) Tryz.prog 3) w1.heap.size 0 (.map []) := World.ownsMap_made w1 _ _ _
  have hmm := @run_makeMap Tryz.prog
  go_wp2
  go_loopw [2, 3, 8, 9, 10, 25] (fun _ _ _ _ _ i wr => ∃ k : Nat, k ≤ N ∧ i = .int .i64 k ∧ Below w1.heap.size w1 wr ∧ ∃ D : DataW Unit, wr.ownsMap Tryz.prog 50 (plainElem Tryz.prog 3) w1.heap.size k D ∧ CntD (F.take k) D) (fun _ _ _ _ _ i _ => N - (intOf i).toNat)
  case atStart => exact ⟨0, by omega, rfl, (Below.refl _ _).alloc (Nat.le_refl _) _, _, hM0, by rw [List.take_zero]; exact CntD.nil⟩
  case round =>
    obtain ⟨k, hk, rfl, hb1, D, hM, hD⟩ := hrel
    by_cases hlt : k < N
    · have hi : (k : Int) < (N : Int) := by omega
      have gk := g.below hb1 g.lt
      have k0 := gk.cell 0
      have k1 := gk.cell 1
      obtain ⟨xs, hxs⟩ : ∃ xs, xss[k]? = some xs := ⟨_, List.getElem?_eq_getElem (by rw [HNN.out]; exact hlt)⟩
      obtain ⟨p, hp⟩ : ∃ p, F[k]? = some p := ⟨_, List.getElem?_eq_getElem (by rw [HFL.out, HNN.out]; exact hlt)⟩
      have HX := Lib.hid hxs
      have HP := Lib.hid hp
      have HPM := Lib.hid (HF.out p (List.mem_of_getElem? hp))
      obtain ⟨b', off', A0, c0, rfl, hb', hc', hr0⟩ := (hR.below hb1).at_ hxs
      have hBr : Below w.heap.size w wr := hB.trans (hb1.mono hB.size)
      have hr0 := hr0.more hb1.size
      obtain ⟨M, hMM⟩ : ∃ M, xs.length = M := ⟨_, rfl⟩
      have WK := Lib.hid (WC.out k xs p hxs hp A0 c0 wr hBr hr0)
      rw [hMM] at hc' WK
      clear hxs hp hMM
      go_wp2_with fail
      refine (WK.out).mono ?_
      rintro e wm ⟨A1, c1, rfl, ho, hb2⟩
      obtain ⟨b2, o2, rfl, _, q0, q1, _⟩ := (OwnT.reads ho).tm (k := 0) (e := (p, 1)) rfl
      rw [Nat.zero_mul, Nat.add_zero] at q0 q1
      have hM' : wm.ownsMap Tryz.prog 50 (plainElem (H := Unit) Tryz.prog 3) w1.heap.size k D := ownsMap_below hM hM.lt hb2
      have hFk : (F.take k).length = k := by rw [List.length_take, HFL.out, HNN.out]; omega
      obtain ⟨st, W1, e1, g1, s1, l0, l1, hst⟩ := hD.entry (t := 92) hM'.drew pairLaw keyOf_pair Tryz.underlying92 Tryz.underlying3 Tryz.zeroValue3 (by omega) (by omega) (q := p) (by have := HPM.out; omega)
      obtain ⟨W2, e2, hM2, g2, s2⟩ := hst W1 rfl
      have hcl : (F.take k).count p ≤ k := by have := List.count_le_length (a := p) (l := F.take k); omega
      obtain ⟨cn, hcn⟩ : ∃ cn, (F.take k).count p = cn := ⟨_, rfl⟩
      rw [hcn] at e1 l0 l1 e2 hM2 hcl
      have hwc : IntKind.i64.wrap ((cn : Int) + 1) = (cn : Int) + 1 := IntWalk.i64_in _ (by omega)
      have HCN := Lib.hid hcn
      clear hcn hst hFk
      unfold pairV at e1 l0 l1
      simp only [goInt] at e1 e2
      have hbm : w1.heap.size < b2 := Nat.lt_of_lt_of_le hM.lt ((OwnT.lt ho) b2 ⟨_, rfl, rfl⟩).1
      have q0' : W1.cell? ⟨b2, o2, none⟩ = some (.int .i64 p.1) := by
        rw [World.cell?_of_block (w := wm) (g1.block b2 ((OwnT.lt ho) b2 ⟨_, rfl, rfl⟩).2 (by simp; omega))]; exact q0
      have q1' : W1.cell? ⟨b2, o2 + 1, none⟩ = some (.int .i64 p.2) := by
        rw [World.cell?_of_block (w := wm) (g1.block b2 ((OwnT.lt ho) b2 ⟨_, rfl, rfl⟩).2 (by simp; omega))]; exact q1
      have hlt2 : b2 < W1.heap.size := by rw [s1]; exact ((OwnT.lt ho) b2 ⟨_, rfl, rfl⟩).2
      have q0'' : W2.cell? ⟨b2, o2, none⟩ = some (.int .i64 p.1) := by
        rw [World.cell?_of_block (w := W1) (g2.block b2 hlt2 (by simp; omega))]; exact q0'
      have q1'' : W2.cell? ⟨b2, o2 + 1, none⟩ = some (.int .i64 p.2) := by
        rw [World.cell?_of_block (w := W1) (g2.block b2 hlt2 (by simp; omega))]; exact q1'
      go_wp2
      go_region_held3 (fun W => W.cell? ⟨b2, o2, none⟩ = some (.int .i64 p.1) ∧ W.cell? ⟨b2, o2 + 1, none⟩ = some (.int .i64 p.2)) (first | exact ⟨q0, q1⟩ | exact ⟨q0', q1'⟩ | exact ⟨q0'', q1''⟩ | go_keep) (fail)
      all_goals
        go_wp2
        go_roundw
        case rel =>
          refine ⟨k + 1, by omega, by go_num, ?_, _, hM2, ?_⟩
          · exact (((hb1.trans (hb2.mono hb1.size)).drew.grown g1 (Nat.le_trans hb1.size hb2.size) (fun j hj => by cases hj; exact Nat.le_refl _))).grown g2 (by rw [s1]; exact Nat.le_trans hb1.size hb2.size) (fun j hj => by cases hj; exact Nat.le_refl _)
          · rw [take_snoc HP.out, ← HCN.out]
            exact hD.push pairLaw keyOf_pair (by have := HPM.out; omega)
        case measure => simp [intOf]; omega
    · obtain rfl : k = N := by omega
      have hf : ¬ (k : Int) < (k : Int) := by omega
      have hFF : F.take k = F := List.take_of_length_le (by rw [HFL.out, HNN.out]; exact Nat.le_refl _)
      rw [hFF] at hD
      have HF300 : Hid (∀ q ∈ F, q.1 ≤ 300 ∧ q.2 ≤ 300) := fun q hq => by have := HF.out q hq; omega
      go_wp2_with (first
        | (at_range; refine wpList_range_own _ rfl _ 92 rfl 50 3 (Maps.Keyed.of_law pairLaw) Tryz.underlying92 _ w1.heap.size k D rfl hM ?_; intro w2 hrg hg2 hs2)
        | fail)
      have hsz := ownsMap_size hM
      have hbr : Below w1.heap.size w1 w2 := hb1.grown hg2 hb1.size (fun j hj => by cases hj)
      obtain ⟨r, hr⟩ : ∃ r, wr.heap.size = r := ⟨_, rfl⟩
      have hrlt : w1.heap.size < r := by rw [← hr]; exact hM.lt
      rw [hr] at hrg hs2 ⊢
      clear hM hg2 hb1 hr g AC WC hR
      go_loopw [11, 12, 13] (fun s _ _ wr => ∃ left cnt Aq cq, ∃ L : List (Nat × Nat), s = .slice Aq L.length cq ∧ wr.ranges Tryz.prog 50 (plainElem (H := Unit) Tryz.prog 3) w1.heap.size r k D left cnt ∧ OwnT wr (r + 1) Aq cq (L.map fun p => (p, (F.count p : Int))) ∧ Below w1.heap.size w1 wr ∧ r + 1 ≤ wr.heap.size ∧ L.length + cnt ≤ k ∧ L.Nodup ∧ (∀ q ∈ L, q ∈ F) ∧ (∀ kl, left kl = true → Maps.has D kl = true) ∧ (∀ q ∈ F, left (kk q) = true ∨ q ∈ L) ∧ (∀ q ∈ L, left (kk q) = false)) (fun _ _ _ wr => wr.rangeLeft w1.heap.size r)
      case atStart =>
        refine ⟨_, _, none, 0, [], rfl, hrg, OwnT.nil_ _ _, hbr, by omega, ?_, List.nodup_nil, by simp, fun _ h => h, fun q hq => .inl (hD.mem_ q hq), by simp⟩
        simpa using hsz
      case round =>
        obtain ⟨left, cnt, Aq, cq, L, rfl, hrg, hO, hbr, hrs, hcn, hnd, hLF, hlD, hFL, hLl⟩ := hrel
        go_wp2_with (first
          | (at_next; refine wpList_next_cnt _ rfl _ rfl pairLaw keyOf_pair Tryz.underlying3 HF300.out w1.heap.size r k D hD left hlD cnt rfl hrg ?_ ?_)
          | fail)
        · intro hc0 hl0
          have hdone : ∀ q, q ∈ L ↔ q ∈ F := fun q => ⟨hLF q, fun hq => by
            rcases hFL q hq with h | h
            · rw [hl0] at h; cases h
            · exact h⟩
          have SC := Lib.hid (sortT_any 60 (enters_of Tryz.func60 (by kernel_rfl) rfl) actcmp_any (r + 1) Aq cq (L.map fun p => (p, (F.count p : Int))) (by rw [List.length_map]; omega) wr hO)
          rw [List.length_map] at SC
          have hLL : L.length = (L.map fun p => (p, (F.count p : Int))).length := by rw [List.length_map]
          obtain ⟨N2, hN2⟩ : ∃ N2, L.length = N2 := ⟨_, rfl⟩
          rw [hN2] at SC ⊢
          have HN2 := Lib.hid (hLL.symm.trans hN2)
          clear hN2 hLL
          go_wp2_with fail
          refine (SC.out).mono ?_
          rintro e w' ⟨rfl, p', hp1, hp2, hp3, hb3⟩
          have hpe := poly_done hnd hdone hp1 hp2
          have hlen : (sumP F).length = N2 := by rw [← hpe, ← hp1.length_eq]; exact HN2.out
          rw [hpe] at hp3
          have HLE := Lib.hid hlen
          clear hlen hpe hp1 hp2
          go_wp2
          go_ret2
          exact ⟨Aq, cq, by rw [HLE.out]; rfl, hp3.mono (by have := hB.size; omega), hB.trans ((hbr.trans (hb3.mono (by omega))).mono hB.size)⟩
        · intro x y w3 cnt' hp hl hrg' hlt hg3 hs3 hen
          unfold pairV at hen ⊢
          have hcl : F.count (x, y) ≤ F.length := List.count_le_length
          have hclk : F.length ≤ 100 := by rw [HFL.out, HNN.out]; omega
          have IC := Lib.hid (fun W => intOf_any (F.count (x, y)) (by rw [HFL.out, HNN.out] at hcl; omega) W)
          rw [numS_int] at IC
          obtain ⟨cn, hcn⟩ : ∃ cn, F.count (x, y) = cn := ⟨_, rfl⟩
          rw [hcn] at hen IC ⊢
          have HCQ : Hid (∀ z : Nat, z = F.count (x, y) → z = cn) := fun z hz => hz.trans hcn
          obtain ⟨S5, hS5⟩ : ∃ S5, intS (cn : Int) = S5 := ⟨_, rfl⟩
          rw [hS5] at IC
          have HS5 := Lib.hid hS5
          have hOw : w3.ownsRow (r + 1) 87 3 (.slice Aq L.length cq) L.length (tmCells (L.map fun p => (p, (F.count p : Int)))) := by
            have h := hO.kept (w' := w3) fun k hk => hg3.block k (hO.lt k hk).2 (fun e => by injection e with e; have := (hO.lt k hk).1; omega)
            unfold OwnT at h
            rw [List.length_map] at h
            exact h
          have G7 := Blk.new w3 50 #[.int .i64 x, .int .i64 y]
          have hOX := World.ownsRow.alloc hOw (.cells #[.int .i64 x, .int .i64 y] 50)
          have hne8 := Lib.hid (own_blk_ne hOX G7 (by decide))
          have HL3 := Lib.hid hs3
          have hL100 : L.length + 1 ≤ 1000 := by omega
          clear hcl hclk hcn hS5 hs3
          go_wp2
          have G8 := G7.drew.alloc (.cells #[.int .i64 x, .int .i64 y, .string S5] 87)
          have hO8 := World.ownsRow.alloc (World.ownsRow.drew hOX) (.cells #[.int .i64 x, .int .i64 y, .string S5] 87)
          have hRd := Reads.boxN ((w3.alloc (.cells #[.int .i64 x, .int .i64 y] 50)).drew) #[.int .i64 x, .int .i64 y, .string S5] 87
          rw [show ((w3.alloc (.cells #[.int .i64 x, .int .i64 y] 50)).drew).heap.size = w3.heap.size + 1 from by simp] at hRd
          have HRd := Lib.hid hRd
          clear hRd
          have HL := Lib.hid hL100
          clear hL100
          refine wp_region_held_drew (S := (fun W : World => W.cell? ⟨w3.heap.size, 0, none⟩ = some (.int .i64 x) ∧ W.cell? ⟨w3.heap.size, 1, none⟩ = some (.int .i64 y))) (by kernel_rfl) ⟨G7.drew.cell 0, G7.drew.cell 1⟩ (fun hSw => ?_)
          refine h_take (i := 0) (.slice Aq L.length cq) rfl (by kernel_rfl) (by kernel_rfl) (by kernel_rfl) (fun _ _ _ h => h) (by kernel_rfl) hSw ?_ ?_
          · intro w hw; (try dsimp only at hw); go_split_ands; go_simp
          refine h_take (i := 1) (.pointer (some ⟨w3.heap.size, 0, none⟩)) rfl (by kernel_rfl) (by kernel_rfl) (by kernel_rfl) (fun _ _ _ h => h) (by kernel_rfl) hSw ?_ ?_
          · intro w hw; (try dsimp only at hw); go_split_ands; go_simp
          refine h_take (i := 2) (.int .i64 x) rfl (by kernel_rfl) (by kernel_rfl) (by kernel_rfl) (fun _ _ _ h => h) (by kernel_rfl) hSw ?_ ?_
          · intro w hw; (try dsimp only at hw); go_split_ands; go_simp
          refine h_take (i := 3) (.pointer (some ⟨w3.heap.size, 1, none⟩)) rfl (by kernel_rfl) (by kernel_rfl) (by kernel_rfl) (fun _ _ _ h => h) (by kernel_rfl) hSw ?_ ?_
          · intro w hw; (try dsimp only at hw); go_split_ands; go_simp
          refine h_take (i := 4) (.int .i64 y) rfl (by kernel_rfl) (by kernel_rfl) (by kernel_rfl) (fun _ _ _ h => h) (by kernel_rfl) hSw ?_ ?_
          · intro w hw; (try dsimp only at hw); go_split_ands; go_simp
          refine h_take (i := 5) (.int .i64 cn) rfl (by kernel_rfl) (by kernel_rfl) (by kernel_rfl) (fun _ _ _ h => h) (by kernel_rfl) hSw ?_ ?_
          · intro w hw; (try dsimp only at hw); go_split_ands; go_simp
          refine h_step (i := 6) rfl (by kernel_rfl) (by kernel_rfl) ?_
          intro K hK
          go_simp
          go_at_call 19
          refine (IC.out _).mono ?_
          rintro e wz ⟨rfl, rfl⟩
          try go_simp
          refine hK _ _ hSw ?_
          clear hK K
          refine h_take (i := 7) (.agg #[.int .i64 x, .int .i64 y, .string S5]) rfl (by kernel_rfl) (by kernel_rfl) (by kernel_rfl) (fun _ _ _ h => h) (by kernel_rfl) hSw ?_ ?_
          · intro w hw; (try dsimp only at hw); go_split_ands; go_simp
          refine h_step (i := 8) rfl (by kernel_rfl) (by kernel_rfl) ?_
          intro K hK
          go_simp
          refine hK _ _ ⟨G8.cell 0, G8.cell 1⟩ ?_
          clear hK K hSw
          have hSw : (fun W : World => W.cell? ⟨w3.heap.size, 0, none⟩ = some (.int .i64 x) ∧ W.cell? ⟨w3.heap.size, 1, none⟩ = some (.int .i64 y)) _ := ⟨G8.cell 0, G8.cell 1⟩
          refine h_step (i := 9) rfl (by kernel_rfl) (by kernel_rfl) ?_
          intro K hK
          refine append_wp rfl (.tmp 60) (.tmp 68) _ rfl (r + 1) 87 Tryz.underlying33 info_tm rfl (by omega) Aq cq L.length _ rfl hO8 _ [.int .i64 x, .int .i64 y, .string S5] rfl HRd.out (by intro u hu; simp at hu; rcases hu with rfl | rfl | rfl <;> rfl) (by have := HL.out; omega) (by simp; have := HL3.out; omega) ?_
          intro A4 c4 w4 hown4 hg4 hb4 _
          have G4 := G8.grown hg4 (fun e => hne8.out e)
          refine hK _ _ ⟨G4.cell 0, G4.cell 1⟩ ?_
          clear hK K hSw
          have hSw : (fun W : World => W.cell? ⟨w3.heap.size, 0, none⟩ = some (.int .i64 x) ∧ W.cell? ⟨w3.heap.size, 1, none⟩ = some (.int .i64 y)) w4 := ⟨G4.cell 0, G4.cell 1⟩
          refine h_take (i := 10) (.slice A4 (L.length + 1) c4) rfl (by kernel_rfl) (by kernel_rfl) (by kernel_rfl) (fun _ _ _ h => h) (by kernel_rfl) hSw ?_ ?_
          · intro w hw; (try dsimp only at hw); go_split_ands; go_simp
          refine wpAnyH_done (by kernel_rfl) ?_ _
          go_simp
          go_wp2
          have hw3 : w3.heap.size = wr.heap.size := HL3.out
          have hB4 : Below (r + 1) w3 w4 := ((((Below.refl (r + 1) w3).alloc (by omega) (.cells #[.int .i64 x, .int .i64 y] 50)).drew.alloc (by simp; omega) (.cells #[.int .i64 x, .int .i64 y, .string S5] 87))).trans hb4
          have hrg4 := ranges_below hrg' (by omega) (by omega) hB4
          have hKK : ∀ q ∈ F, (kk q).sameKey (kk (x, y)) = true → q = (x, y) := fun q hq h => kk_inj pairLaw keyOf_pair (HF300.out q hq) (HF300.out _ hp) (WideAt.sameKey_eq h)
          have hself : (kk (x, y)).sameKey (kk (x, y)) = true := WideAt.sameKey_self ((Maps.Keyed.of_law pairLaw).key (keyOf_pair _ (HF300.out _ hp).1 (HF300.out _ hp).2))
          have hnL : (x, y) ∉ L := fun hc => by have := hLl _ hc; rw [hl] at this; cases this
          have hT : (L ++ [(x, y)]).map (fun p => (p, (F.count p : Int))) = L.map (fun p => (p, (F.count p : Int))) ++ [((x, y), (cn : Int))] := by rw [List.map_append, List.map_singleton, HCQ.out _ rfl]
          have hOT : OwnT w4 (r + 1) A4 c4 ((L ++ [(x, y)]).map fun p => (p, (F.count p : Int))) := by
            unfold OwnT
            rw [hT, tmCells_append, List.length_append, List.length_map]
            show w4.ownsRow (r + 1) _ 3 _ _ (_ ++ [.int .i64 x, .int .i64 y, .string (intS (cn : Int))])
            rw [HS5.out]
            exact hown4
          go_roundw
          case rel =>
            refine ⟨_, cnt', A4, c4, L ++ [(x, y)], by rw [List.length_append]; rfl, hrg4, hOT, ?_, by have := hb4.size; simp at this; omega, by rw [List.length_append, List.length_singleton]; omega, List.nodup_append.2 ⟨hnd, by simp, fun a ha b hb hab => hnL (by rw [List.mem_singleton] at hb; rw [← hb, ← hab]; exact ha)⟩, ?_, ?_, ?_, ?_⟩
            · exact (hbr.grown hg3 (by omega) (fun j hj => by cases hj; omega)).trans (hB4.mono (by omega))
            · intro q hq
              rcases List.mem_append.1 hq with hq | hq
              · exact hLF q hq
              · rw [List.mem_singleton] at hq; rw [hq]; exact hp
            · intro kl h
              exact hlD kl (Bool.and_eq_true_iff.1 h).1
            · intro q hq
              rcases hFL q hq with h | h
              · by_cases hs : (kk q).sameKey (kk (x, y)) = true
                · right; rw [hKK q hq hs]; simp
                · left; show (left (kk q) && !(kk q).sameKey (kk (x, y))) = true
                  rw [h, Bool.eq_false_iff.2 hs]; rfl
              · right; exact List.mem_append.2 (.inl h)
            · intro q hq
              show (left (kk q) && !(kk q).sameKey (kk (x, y))) = false
              rcases List.mem_append.1 hq with hq | hq
              · rw [hLl q hq]; rfl
              · rw [List.mem_singleton] at hq; rw [hq, hself]; simp
          case measure => rw [hrg4.left_eq, hrg.left_eq]; exact hlt
end Go.Proofs.YtnbikkcalcpedaaGreatDoor

/-! The reference's Check of numerals without a sign, and its Monomial with the coefficient one. -/
namespace Go.Proofs.YtnbikkcalcpedaaGreatDoor
open Go.RowKit Go.Lib

end Go.Proofs.YtnbikkcalcpedaaGreatDoor

/-! activity.Polynomial of small graphs: the sum of the weights of all trees, or the error. -/
namespace Go.Proofs.YtnbikkcalcpedaaGreatDoor
open Go.RowKit

/-- The weights of all trees, and what Polynomial returns. -/
def wtL (n : Nat) (E : List (Nat × Nat)) : List (Nat × Nat) := (treesT n E).map fun t => ((insA E t).length, (outA E t).length)
def polyE (n : Int) (es : List E3) : List Tm × Int := if joinErr n es ≠ 0 then ([], joinErr n es) else (sumP (wtL n.toNat (endsL es)), 0)
theorem bits_few : ∀ m : Fin 9, ∀ k : Fin 6, (((List.range (2 ^ m.val)).map (bitsL m.val)).filter fun t => decide (t.length + 1 = k.val)).length ≤ 70 := by decide +kernel
theorem few_trees {n : Nat} {E : List (Nat × Nat)} (hb : BdP n E) (hn : 0 < n) (h5 : n ≤ 5) (h8 : E.length ≤ 8) : (treesT n E).length ≤ 70 := by
  rw [← trees_sorted hb hn, sortG_length]
  unfold refTs
  have h1 : ((List.range (2 ^ E.length)).map (bitsL E.length)).filter (fun t => decide (t.length + 1 = n) && decide (partsP n (pk E t) = 1)) = (((List.range (2 ^ E.length)).map (bitsL E.length)).filter fun t => decide (t.length + 1 = n)).filter fun t => decide (partsP n (pk E t) = 1) := by
    rw [List.filter_filter]
    congr 1
    funext t
    exact Bool.and_comm _ _
  rw [h1]
  refine Nat.le_trans (List.length_filter_le _ _) ?_
  exact bits_few ⟨E.length, by omega⟩ ⟨n, by omega⟩
theorem insA_len {E : List (Nat × Nat)} {t : List Nat} : (insA E t).length ≤ t.length := List.length_filter_le _ _
theorem outA_len {E : List (Nat × Nat)} {t : List Nat} : (outA E t).length ≤ E.length := by
  have := List.length_filter_le (fun e => !decide (e ∈ t) && decide (EAct E t e)) (List.range E.length)
  rw [List.length_range] at this
  exact this
set_option maxRecDepth 100000 in
set_option maxHeartbeats 2000000 in
theorem polynomial_any (n : Int) (A : Option Addr) (c : Nat) (es : List E3) (hn : es.length ≤ 10000) (hfw : joinErr n es = 0 → n ≤ 5 ∧ (endsL es).length ≤ 8) (w : World) (h : Reads w w.heap.size 3 A es.length (edgeCells es)) :
    Calls Tryz.prog 15 #[.agg #[.int .i64 n, .slice A es.length c]] w fun e w' => ∃ A' c', e = .returned (.tuple #[.slice A' (polyE n es).1.length c', .int .i64 (polyE n es).2]) ∧ OwnT w' w.heap.size A' c' (polyE n es).1 ∧ Below w.heap.size w w' := by
  unfold polyE
  by_cases hj : joinErr n es = 0
  · rw [if_neg (fun hc => hc hj)]
    obtain ⟨h5, h8⟩ := hfw hj
    obtain ⟨_, hG, _⟩ := join_zero hj
    have hlo := hG.lo
    obtain ⟨m, rfl⟩ := Int.eq_ofNat_of_zero_le (show 0 ≤ n by omega)
    have hb := bd_ends hG
    rw [Int.toNat_natCast]
    have h70 := few_trees hb (by omega) (by omega) h8
    have hE : tallE m es = ((treesT m (endsL es)).map nI, 0) := by unfold tallE; rw [if_neg (fun hc => hc hj), Int.toNat_natCast]
    refine poly_core m A c es.length ((treesT m (endsL es)).map nI) (wtL m (endsL es)) (by simp [wtL]) (by rw [List.length_map]; omega) ?_ w ?_ ?_
    · intro p hp
      obtain ⟨t, ht, rfl⟩ := List.mem_map.1 hp
      have hT := ((treesT_spec hb (by omega)).1 t).1 ht
      have h1 := insA_len (E := endsL es) (t := t)
      have h2 := outA_len (E := endsL es) (t := t)
      have h3 := hT.len
      exact ⟨by show (insA (endsL es) t).length ≤ 256; omega, by show (outA (endsL es) t).length ≤ 256; omega⟩
    · intro W hB
      have := tall_any m A c es hn (by rw [hE]; simp; omega) W ((h.below hB).more hB.size)
      rw [hE] at this
      exact this
    · intro i xs p hxs hp B d W hB hr
      rw [List.getElem?_map] at hxs
      unfold wtL at hp
      rw [List.getElem?_map] at hp
      cases ht : (treesT m (endsL es))[i]? with
      | none => rw [ht] at hxs; cases hxs
      | some t =>
        rw [ht] at hxs hp
        injection hxs with hxs
        injection hp with hp
        subst hxs
        have hT := ((treesT_spec hb (by omega)).1 t).1 (List.mem_of_getElem? ht)
        have hz : treeErr m es (nI t) = 0 := tree_ok hj hT
        have e1 : intE m es (nI t) = (nI (insA (endsL es) t), 0) := by unfold intE; rw [if_pos hz, toN_nI]
        have e2 : extE m es (nI t) = (nI (outA (endsL es) t), 0) := by unfold extE; rw [if_pos hz, toN_nI]
        have h1 := insA_len (E := endsL es) (t := t)
        have h2 := outA_len (E := endsL es) (t := t)
        have h3 := hT.len
        have hwE : weightE m es (nI t) = ([(p, 1)], 0) := by
          unfold weightE
          rw [if_pos hz, e1, e2]
          dsimp only
          rw [nI_length, nI_length, ← hp]
        have := weight_any m A c es hn B d (nI t) (by rw [nI_length]; omega) (by rw [e1]; dsimp only; rw [nI_length]; omega) (by rw [e2]; dsimp only; rw [nI_length]; omega) W ((h.below hB).more hB.size) hr
        rw [hwE] at this
        exact this
  · rw [if_pos hj]
    have hE : tallE n es = ([], joinErr n es) := by unfold tallE; rw [if_pos hj]
    have AC := Lib.hid (fun (W : World) (hB : Below w.heap.size w W) => tall_any n A c es hn (by rw [hE]; simp) W ((h.below hB).more hB.size))
    rw [hE] at AC
    obtain ⟨z, hzz⟩ : ∃ z, joinErr n es = z := ⟨_, rfl⟩
    rw [hzz] at AC hj ⊢
    have hzb : (z != 0) = true := by simpa using hj
    have g := Blk.new w 24 #[.int .i64 n, .slice A es.length c]
    have hB : Below w.heap.size w (w.alloc (.cells #[.int .i64 n, .slice A es.length c] 24)) := (Below.refl _ _).alloc (Nat.le_refl _) _
    have k0 := g.cell 0
    have k1 := g.cell 1
    clear hj hzz hE hfw h
    go_enter Tryz.func15, Tryz.ntmps15
    go_wp2_with fail
    refine (AC.out _ hB).mono ?_
    rintro e w1 ⟨Ar, cr, vs, rfl, _, hb⟩
    have hB := hB.trans (hb.mono hB.size)
    go_wp2
    go_ret2
    exact ⟨none, 0, rfl, OwnT.nil_ _ _, hB⟩
end Go.Proofs.YtnbikkcalcpedaaGreatDoor

/-! The reference's digits of numerals: digits, cut, digit, Minus. -/
namespace Go.Proofs.YtnbikkcalcpedaaGreatDoor
open Go.RowKit

end Go.Proofs.YtnbikkcalcpedaaGreatDoor

/-! The reference's Weight and Members. -/
namespace Go.Proofs.YtnbikkcalcpedaaGreatDoor
open Go.RowKit
end Go.Proofs.YtnbikkcalcpedaaGreatDoor

