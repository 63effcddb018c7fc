/-
  Texts of this claim, put together: TIter, RPar, RTree2.
-/
import Derived.Test.YtplgbapbgcipdaaGreatDoorK29
import Derived.Deep.RegionWith
import Derived.Test.YtplgbapbgcipdaaGreatDoorK28
import Derived.Test.YtplgbapbgcipdaaGreatDoorK11
import Derived.Test.YtplgbapbgcipdaaGreatDoorK10
import Derived.Deep.QuietTactic
import Derived.BigQuiet
import Derived.Test.YtplgbapbgcipdaaGreatDoorK30
/-! Package tree: the iterator of all spanning trees. -/
namespace Go.Proofs.YtplgbapbgcipdaaGreatDoor
open Go.RowKit Go.Shelf

theorem grow_any (n : Nat) (hn1 : 1 ≤ n) (hn : n ≤ 12) (E : List (Nat × Nat)) (hE : BdP n E) (hel : E.length ≤ 1000000) (Ar : Option Addr) (cr l bN bY bE bG base : Nat) (xs : List (List Nat)) (J Jx : List (List Nat) → (Nat → Prop) → World → Prop)
    (hY : Rounds Tryz.prog l J Jx xs base) (hJ : Bears base (fun _ => False) J) :
    ∀ (m : Nat) (t : List Nat) (e : Nat), E.length - e ≤ m → e ≤ E.length → t.length + 1 ≤ n → (∀ y ∈ t, y < E.length) → GrowC n E Ar cr l bN bY bE bG base xs J Jx t e := by
  intro m
  induction m with
  | zero =>
    intro t e hm he ht htE
    by_cases h1 : t.length + 1 = n
    · intro a0 a1 a2 a3 a4 a5 a6 a7 a8 a9 a10 a11 A c C pre W hF hS hp h0
      exact grow_leaf n hn1 hn E Ar cr l bN bY bE bG base xs J Jx hY hJ t h1 e a0 a1 a2 a3 a4 a5 a6 a7 a8 a9 a10 a11 A c C pre W hS.w hS.own hS.cl hp h0
    · exact grow_step n hn1 hn E hE hel Ar cr l bN bY bE bG base xs J Jx hJ t (by omega) htE e he fun k h1 h2 => absurd h2 (by omega)
  | succ m ih =>
    intro t e hm he ht htE
    by_cases h1 : t.length + 1 = n
    · intro a0 a1 a2 a3 a4 a5 a6 a7 a8 a9 a10 a11 A c C pre W hF hS hp h0
      exact grow_leaf n hn1 hn E Ar cr l bN bY bE bG base xs J Jx hY hJ t h1 e a0 a1 a2 a3 a4 a5 a6 a7 a8 a9 a10 a11 A c C pre W hS.w hS.own hS.cl hp h0
    · refine grow_step n hn1 hn E hE hel Ar cr l bN bY bE bG base xs J Jx hJ t (by omega) htE e he fun k h2 h3 => ih (t ++ [k]) (k + 1) (by omega) (by omega) (by simp; omega) fun y hy => ?_
      rcases List.mem_append.1 hy with hy | hy
      · exact htE y hy
      · rw [List.mem_singleton.1 hy]; exact h3

theorem Blk.newAt {w : World} {g : Nat} {t : TypeId} {cs : Array Value} (hg : g = w.heap.size) : Blk (w.alloc (.cells cs t)) g t cs := by subst hg; exact Blk.new w t cs
theorem growL_all (n : Nat) (E : List (Nat × Nat)) : growL n E [] 0 = treesT n E := by
  unfold growL treesT
  by_cases h : n = 1
  · rw [if_pos (by simp [h]), if_pos h]
  · rw [if_neg (by simp; omega), if_neg h]; rfl

/-- What the iterator leans on. -/
def KT (bN bE : Nat) (Ar : Option Addr) (k : Nat) : Prop := k = bN ∨ k = bE ∨ blockOf Ar k
set_option maxRecDepth 100000 in
set_option maxHeartbeats 4000000 in
theorem trees_iter (n : Nat) (hn1 : 1 ≤ n) (hn : n ≤ 12) (E : List (Nat × Nat)) (hE : BdP n E) (hel : E.length ≤ 1000000) (Ar : Option Addr) (cr bN bE : Nat) (hcap : E.length ≤ cr) (W0 : World)
    (h1 : Blk W0 bN 3 #[.int .i64 n]) (h3 : Blk W0 bE 65 #[.slice Ar E.length cr]) (rd : Reads W0 W0.heap.size 2 Ar E.length (pair2 E)) (hAr : ∀ k, blockOf Ar k → k < W0.heap.size) :
    Iter Tryz.prog 107 #[.pointer (some ⟨bN, 0, none⟩), .pointer (some ⟨bE, 0, none⟩)] ArgT (KT bN bE Ar) (fun _ => False) (treesT n E) W0 := by
  intro l J Jx C W hL hC hJ hJx hY h0
  have eg := enters_of (P := Tryz.prog) Tryz.func108 (by kernel_rfl) rfl
  have hmf : ∀ (fn : Fn) (first cap : Array Value) (w : World), (Instr.makeFunc fn first cap).run Tryz.prog w = .ok (.func fn first cap) w := fun _ _ _ _ => rfl
  have k1 : Blk W bN 3 #[.int .i64 n] := (hL.block bN h1.lt (.inl rfl)).trans h1
  have k3 : Blk W bE 65 #[.slice Ar E.length cr] := (hL.block bE h3.lt (.inr (.inl rfl))).trans h3
  have k4 : Reads W W.heap.size 2 Ar E.length (pair2 E) := ⟨rd.1, fun hn => by
    obtain ⟨b, off, rfl, hb, hc⟩ := rd.2 hn
    exact ⟨b, off, rfl, by have := hL.size; omega, fun j u hu => (World.cell?_of_block (w := W0) (hL.block b hb (.inr (.inr ⟨_, rfl, rfl⟩)))).trans (hc j u hu)⟩⟩
  have hlb : ∀ k, KT bN bE Ar k → k < W.heap.size := fun k hk => by
    have := hL.size
    rcases hk with rfl | rfl | hk
    · exact k1.lt
    · exact k3.lt
    · have := hAr k hk; omega
  obtain ⟨W2, hW2⟩ : ∃ W2, (W.alloc (.cells #[.func (.yield l) #[] #[]] 126)).alloc (.cells #[growF bN W.heap.size bE (W.heap.size + 1)] 127) = W2 := ⟨_, rfl⟩
  have ho2 : Only (fun _ => False) W W2 := by rw [← hW2]; exact ((Only.refl _ W).alloc _).alloc _
  have hs2 : W2.heap.size = W.heap.size + 1 + 1 := by rw [← hW2]; simp
  have GW : GrowW W2 n E Ar cr l bN W.heap.size bE (W.heap.size + 1) W.heap.size := by
    refine ⟨k1.only ho2 id, ?_, k3.only ho2 id, ?_, reads_onlyN k4 ho2 (Nat.le_refl _) (fun _ _ h => h), by omega, hcap⟩
    · rw [← hW2]; exact (Blk.new W _ _).alloc _
    · rw [← hW2]; exact Blk.newAt (by simp)
  have HGS : Hid (∀ w3, Below W2.heap.size W2 w3 → GrowS n E Ar cr l bN W.heap.size bE (W.heap.size + 1) W.heap.size none 0 [] C w3 ∧ J [] C w3) := by
    intro w3 hb
    have o3 : Only (fun _ => False) W w3 := ho2.trans (Only.of_new hb)
    refine ⟨⟨GW.only (Only.of_new hb) (fun _ _ h => h), OwnI.nil_ _ _, fun k hk => ⟨by have := (hC k hk).1; have := o3.size; omega, fun hf => ?_, fun ⟨a, h, _⟩ => (by cases h)⟩, fun k ⟨a, h, _⟩ => (by cases h), fun k hf => ?_⟩, hJ _ _ _ _ h0 (Stays.of_only o3 (fun _ _ h => h.elim))⟩
    · have h2 := (hC k hk)
      rcases hf with rfl | rfl | rfl | rfl | hf
      · exact h2.2 (.inl rfl)
      · omega
      · exact h2.2 (.inr (.inl rfl))
      · omega
      · exact h2.2 (.inr (.inr hf))
    · have hs3 := hb.size
      rcases hf with rfl | rfl | rfl | rfl | hf
      · have := hlb _ (.inl rfl); omega
      · omega
      · have := hlb _ (.inr (.inl rfl)); omega
      · omega
      · have := hlb _ (.inr (.inr hf)); omega
  have GC := grow_any n hn1 hn E hE hel Ar cr l bN W.heap.size bE (W.heap.size + 1) W.heap.size (treesT n E) J Jx hY hJ (E.length - 0) [] 0 (Nat.le_refl _) (by omega) (by simp; omega) (by simp)
  have HC : Hid (∀ w3, Below W2.heap.size W2 w3 → Calls Tryz.prog 108 #[.slice none 0 0, .int .i64 0, .agg #[.int .i64 0, .int .i64 1, .int .i64 2, .int .i64 3, .int .i64 4, .int .i64 5, .int .i64 6, .int .i64 7, .int .i64 8, .int .i64 9, .int .i64 10, .int .i64 11], .pointer (some ⟨bN, 0, none⟩), .pointer (some ⟨W.heap.size, 0, none⟩), .pointer (some ⟨bE, 0, none⟩), .pointer (some ⟨W.heap.size + 1, 0, none⟩)] w3
      fun en w' => ∃ b, en = .returned (.bool b) ∧ Hid (∃ C', (J (treesT n E) C' w' ∨ ∃ pre, pre <+: treesT n E ∧ Jx pre C' w'))) := by
    intro w3 hb
    obtain ⟨s1, s2⟩ := HGS.out w3 hb
    refine (GC 0 1 2 3 4 5 6 7 8 9 10 11 none 0 C [] w3 fr_nil s1 (by rw [growL_all]; exact List.prefix_refl _) s2).mono ?_
    rintro en w' ⟨C', b, rfl, _, _, hb1, hb2⟩
    refine ⟨b, rfl, C', ?_⟩
    cases b
    · exact .inr (hb2 rfl)
    · have := (hb1 rfl).1
      rw [growL_all] at this
      exact .inl this
  have g0 := GW.h4.cell 0
  have HW2 := Lib.hid hW2
  have h4' := Lib.hid GW.h4
  clear hY hJ hJx h0 GC GW hL hC k1 k3 k4 h1 h3 rd HGS ho2 hW2 hs2
  go_enter Tryz.func107, Tryz.ntmps107
  go_wp2_with fail
  try rw [HW2.out]
  go_region_with (first
    | (go_at_call 84; (with_reducible refine (loose_any _).mono ?_); rintro en w3 ⟨rfl, hb3⟩; have hb3' := Lib.hid (((Below.refl W2.heap.size W2).drew).trans hb3); have g3 := (h4'.out.below hb3'.out h4'.out.lt).cell 0)
    | (go_at_call 108; (with_reducible refine (HC.out _ hb3'.out).mono ?_); rintro en w4 ⟨b, rfl, hr⟩))
  all_goals (
    go_wp2
    refine bodyPost_end (results_none rfl _ _ _) rfl ?_
    exact ⟨⟨_, rfl⟩, hr.out⟩)
end Go.Proofs.YtplgbapbgcipdaaGreatDoor

/-! ref13.other, ref13.Parents: the parents by rounds. -/
namespace Go.Proofs.YtplgbapbgcipdaaGreatDoor
open Go.RowKit

theorem fill_step (n k : Nat) (h : k < n) : (List.replicate k (-2 : Int) ++ List.replicate (n - k) 0).set k (-2) = List.replicate (k + 1) (-2) ++ List.replicate (n - (k + 1)) 0 := by
  rw [show n - k = (n - (k + 1)) + 1 from by omega, List.replicate_succ, List.set_append_right _ _ (by simp), List.length_replicate, Nat.sub_self, List.set_cons_zero, List.replicate_succ', List.append_assoc]
  rfl
theorem parRs_length (E : List (Nat × Nat)) (t : List Nat) (out : List Int) (k : Nat) : (parRs E t out k).length = out.length := by
  induction k with
  | zero => rfl
  | succ k ih => rw [parRs_succ, parRd_length, ih]
/-- A round, so far. -/
def parTk (E : List (Nat × Nat)) (t : List Nat) (out : List Int) (j : Nat) : List Int := parRd E (t.take j) out
theorem parTk_succ {E : List (Nat × Nat)} {t : List Nat} (out : List Int) {j e : Nat} (h : t[j]? = some e) : parTk E t out (j + 1) = parS E (parTk E t out j) e := by
  unfold parTk parRd; rw [take_snoc h, List.foldl_append]; rfl

set_option maxRecDepth 100000 in
set_option maxHeartbeats 4000000 in
theorem rparents_any (m : Nat) (A : Option Addr) (c : Nat) (es : List E3) (hn : es.length ≤ 40) (B : Option Addr) (d : Nat) (t : List Nat) (hR : TreeR m es t) (p : Nat) (hp : p < m) (w : World) (h : Reads w w.heap.size 3 A es.length (edgeCells es)) (h' : Reads w w.heap.size 1 B t.length (ints (nI t))) :
    Calls Tryz.prog 171 #[.agg #[.int .i64 m, .slice A es.length c], .slice B t.length d, .int .i64 p] w fun e w' => ∃ A' c', e = .returned (.slice A' m c') ∧ OwnI w' w.heap.size A' c' (parentsL m (endsL es) t p) ∧ Below w.heap.size w w' := by
  have hm12 := hR.hi
  have HPR : Hid (parRs (endsL es) t (par0 m p) m = parentsL m (endsL es) t p) := parRs_eq hR.hT hR.tr.len (fun x y hx hy => hR.cn hx hy) hp
  have EC := Lib.hid (fun (W : World) (hB : Below w.heap.size w W) => rendsC_any m A c es hn m hR.hG.ok W ((h.below hB).more hB.size))
  have HBD := Lib.hid (bd_ends hR.hG)
  have HLT := Lib.hid hR.hT.lt
  have htl := hR.len
  have g0 := Blk.new w 24 #[.int .i64 m, .slice A es.length c]
  have hb0 : Below w.heap.size w (w.alloc (.cells #[.int .i64 m, .slice A es.length c] 24)) := (Below.refl _ _).alloc (Nat.le_refl _) _
  have c0 := g0.cell 0
  obtain ⟨E, hE⟩ : ∃ E, endsL es = E := ⟨_, rfl⟩
  rw [hE] at HPR EC HBD HLT ⊢
  have hmk := make_ints m (by omega)
  obtain ⟨W0, hW0⟩ : ∃ W0, w.alloc (.cells #[.int .i64 m, .slice A es.length c] 24) = W0 := ⟨_, rfl⟩
  rw [hW0] at g0 hb0 c0
  have hlt0 := g0.lt
  have O4 := Blk.new W0 3 (ints (List.replicate m 0)).toArray
  have B4 : Below W0.heap.size W0 (W0.alloc (.cells (ints (List.replicate m 0)).toArray 3)) := (Below.refl _ _).alloc (Nat.le_refl _) _
  have HLEN : Hid ((parentsL m E t p).length = m) := parentsL_length
  clear hE hR
  go_enter Tryz.func171, Tryz.ntmps171
  go_wp2_with fail
  clear hW0
  go_loopw [8] (fun i wl => ∃ k : Nat, i = .int .i64 k ∧ k ≤ m ∧ Hid (Blk wl W0.heap.size 3 (intCells (List.replicate k (-2) ++ List.replicate (m - k) 0))) ∧ Hid (Below W0.heap.size W0 wl)) (fun i _ => m - (intOf i).toNat)
  case atStart => exact ⟨0, rfl, by omega, by simpa [Hid, intCells] using O4, B4⟩
  case round =>
    obtain ⟨k, rfl, hk, HO, HB⟩ := hrel
    clear O4 B4 hmk
    have g1 := g0.next HB.out
    have c0 := g1.cell 0
    have hbz := HB.out.size
    by_cases hlt : k < m
    · have hi : (k : Int) < (m : Int) := by omega
      obtain ⟨y, hy⟩ := get_of_lt (xs := List.replicate k (-2 : Int) ++ List.replicate (m - k) 0) (k := k) (by simp; omega)
      have co := (HO.out.cell k).trans (intCells_get hy)
      have cf := HO.out.frozen k
      have O5 := HO.out.set_ k (.int .i64 (-2))
      rw [intCells_set, fill_step m k hlt] at O5
      have HO5 := Lib.hid O5
      have HB5 := Lib.hid (HB.out.setCell (p := ⟨W0.heap.size, k, none⟩) (Nat.le_refl _) (.int .i64 (-2)))
      clear hy O5
      go_wp2
      go_roundw
      case rel => exact ⟨k + 1, by go_num, by omega, HO5, HB5⟩
      case measure => simp [intOf]; omega
    · obtain rfl : k = m := by omega
      rw [Nat.sub_self, List.replicate_zero, List.append_nil] at HO
      have hpi : (p : Int) < (k : Int) := by omega
      have hpi0 : (0 : Int) ≤ (p : Int) := by omega
      obtain ⟨y, hy⟩ := get_of_lt (xs := List.replicate k (-2 : Int)) (k := p) (by simpa using hp)
      have co := (HO.out.cell p).trans (intCells_get hy)
      have cf := HO.out.frozen p
      have O5 := HO.out.set_ p (.int .i64 (-1))
      rw [intCells_set] at O5
      have B5 := HB.out.setCell (p := ⟨W0.heap.size, p, none⟩) (Nat.le_refl _) (.int .i64 (-1))
      have g5 := g1.far (p := ⟨W0.heap.size, p, none⟩) (fun e => by simp at e; omega) (.int .i64 (-1))
      obtain ⟨W5, hW5⟩ : ∃ W5, wr.setCell ⟨W0.heap.size, p, none⟩ (.int .i64 (-1)) = W5 := ⟨_, rfl⟩
      rw [hW5] at O5 B5 g5
      have c1 := g5.cell 0
      have c2 := g5.cell 1
      have hB5 : Below w.heap.size w W5 := hb0.trans (B5.mono hb0.size)
      have hz5 := B5.size
      have hbw : W0.heap.size < W5.heap.size := O5.lt
      clear hy HO hlt
      go_wp2_with fail
      try rw [hW5]
      clear hW5
      refine (EC.out _ hB5).mono ?_
      rintro e w6 ⟨Ar, cr, rfl, HQ, hb6⟩
      have HQ := Lib.hid HQ
      have g6 := g5.next hb6
      have O6 := O5.next hb6
      have B6 := Lib.hid (hB5.trans (hb6.mono hB5.size))
      have hs6 := hb6.size
      clear c1 c2 g5 O5 co cf hb6 g1 c0
      go_wp2_with fail
      go_loopw [10, 11, 12, 13] (fun i _ _ _ wl => ∃ j : Nat, i = .int .i64 j ∧ j ≤ k ∧ Hid (Blk wl W0.heap.size 3 (intCells (parRs E t (par0 k p) j))) ∧ Hid (Only (fun x => x = W0.heap.size) w6 wl)) (fun i _ _ _ _ => k - (intOf i).toNat)
      case atStart => exact ⟨0, rfl, by omega, O6, Only.refl _ _⟩
      case round =>
        obtain ⟨j, rfl, hj, HO, HN⟩ := hrel
        clear O6
        have g7 := g6.only HN.out (by omega)
        have c0 := g7.cell 0
        by_cases hlt : j < k
        · have hi : (j : Int) < (k : Int) := by omega
          have hsu : parRs E t (par0 k p) (j + 1) = parRd E t (parRs E t (par0 k p) j) := parRs_succ _ _
          have hll : (parRs E t (par0 k p) j).length = k := by rw [parRs_length]; simp [par0]
          obtain ⟨F, hF⟩ : ∃ F, parRs E t (par0 k p) j = F := ⟨_, rfl⟩
          rw [hF] at HO hsu hll
          have HSU := Lib.hid hsu
          have HLL := Lib.hid hll
          obtain ⟨wo, rfl⟩ : ∃ wo : World, wo = wr := ⟨_, rfl⟩
          clear hF hsu hll g7
          go_wp2_with fail
          clear c0
          go_loopw [11, 12, 13] (fun i _ _ wl => ∃ q : Nat, i = .int .i64 q ∧ q ≤ t.length ∧ Hid (Blk wl W0.heap.size 3 (intCells (parTk E t F q))) ∧ Hid (Only (fun x => x = W0.heap.size) w6 wl)) (fun i _ _ _ => t.length - (intOf i).toNat)
          case atStart => exact ⟨0, rfl, by omega, by rw [Hid, parTk, List.take_zero]; exact HO.out, HN⟩
          case round =>
            obtain ⟨q, rfl, hq, HO, HN⟩ := hrel
            by_cases hql : q < t.length
            · obtain ⟨x, hx⟩ := get_of_lt hql
              have hxe := HLT.out x (List.mem_of_getElem? hx)
              have hab := getD_bd HBD.out hxe
              have hsq := parTk_succ (E := E) F hx
              have hQr : Hid (Reads wr w6.heap.size 2 Ar E.length (pair2 E)) := reads_onlyN (OwnQ.reads HQ.out) HN.out (Nat.le_refl _) fun i hi e => by
                have := (World.ownsRow.lt HQ.out i (blockOf_own.2 hi)).1; omega
              obtain ⟨bA, oA, hA, hbA, q0, q1⟩ := hQr.out.pairAt (getD_some hxe)
              subst hA
              have hBr := B6.out.trans (HN.out.below (B := w.heap.size) (fun i hi e => by omega) (by omega))
              obtain ⟨bB, oB, hB, hbB, hcell⟩ := (h'.below hBr).at_ (ints_at (nI_at hx))
              subst hB
              have hlf : (parTk E t F q).length = k := by rw [parTk, parRd_length, HLL.out]
              obtain ⟨⟨a, b⟩, hpp⟩ : ∃ z, E.getD x (0, 0) = z := ⟨_, rfl⟩
              unfold parS at hsq
              rw [hpp] at hab q0 q1 hsq
              dsimp only at hab q0 q1 hsq
              obtain ⟨G, hG⟩ : ∃ G, parTk E t F q = G := ⟨_, rfl⟩
              rw [hG] at HO hsq hlf
              obtain ⟨u, hu⟩ := get_of_lt (xs := G) (k := a) (by omega)
              obtain ⟨v, hv⟩ := get_of_lt (xs := G) (k := b) (by omega)
              have hgu : G.getD a 0 = u := by rw [List.getD_eq_getElem?_getD, hu]; rfl
              have hgv : G.getD b 0 = v := by rw [List.getD_eq_getElem?_getD, hv]; rfl
              rw [hgu, hgv] at hsq
              have ca := (HO.out.cell a).trans (intCells_get hu)
              have cb := (HO.out.cell b).trans (intCells_get hv)
              have fa := HO.out.frozen a
              have fb := HO.out.frozen b
              have SA := HO.out.set_ a (.int .i64 (x : Int))
              have SB := HO.out.set_ b (.int .i64 (x : Int))
              rw [intCells_set] at SA SB
              have HSA := Lib.hid SA
              have HSB := Lib.hid SB
              have hqi : (q : Int) < (t.length : Int) := by omega
              have hxi : (x : Int) < (E.length : Int) := by omega
              have hai : (a : Int) < (k : Int) := by omega
              have hbi : (b : Int) < (k : Int) := by omega
              have HSQ := Lib.hid hsq
              clear hx hsq hpp hG hu hv hgu hgv SA SB hlf
              by_cases hu2 : u = -2
              · have e1 : (u != -2) = false := by simp [hu2]
                have e2 : (u == -2) = true := by simp [hu2]
                by_cases hv2 : v = -2
                · have e3 : (v != -2) = false := by simp [hv2]
                  have e4 : (v == -2) = true := by simp [hv2]
                  have hs := Lib.hid (HSQ.out.trans (by rw [if_neg (fun hc => hc.1 hu2), if_neg (fun hc => hc.1 hv2)]))
                  clear hu2 hv2
                  go_wp2
                  go_quiet (fail)
                  go_wp2
                  go_roundw
                  case rel => exact ⟨q + 1, by go_num, by omega, by rw [Hid, hs.out]; exact HO.out, HN.out.drewN _⟩
                  case measure => simp [intOf]; omega
                · have e3 : (v != -2) = true := by simpa using hv2
                  have e4 : (v == -2) = false := by simpa using hv2
                  have hs := Lib.hid (HSQ.out.trans (by rw [if_neg (fun hc => hc.1 hu2), if_pos ⟨hv2, hu2⟩]))
                  clear hu2 hv2
                  go_wp2
                  go_quiet (fail)
                  go_wp2
                  go_roundw
                  case rel => exact ⟨q + 1, by go_num, by omega, by rw [Hid, hs.out]; exact HSA.out, (HN.out.drewN _).setCell (.inl rfl) _⟩
                  case measure => simp [intOf]; omega
              · have e1 : (u != -2) = true := by simpa using hu2
                have e2 : (u == -2) = false := by simpa using hu2
                by_cases hv2 : v = -2
                · have e3 : (v != -2) = false := by simp [hv2]
                  have e4 : (v == -2) = true := by simp [hv2]
                  have hs := Lib.hid (HSQ.out.trans (by rw [if_pos ⟨hu2, hv2⟩]))
                  clear hu2 hv2
                  go_wp2
                  go_quiet (fail)
                  go_wp2
                  go_roundw
                  case rel => exact ⟨q + 1, by go_num, by omega, by rw [Hid, hs.out]; exact HSB.out, (HN.out.drewN _).setCell (.inl rfl) _⟩
                  case measure => simp [intOf]; omega
                · have e3 : (v != -2) = true := by simpa using hv2
                  have e4 : (v == -2) = false := by simpa using hv2
                  have hs := Lib.hid (HSQ.out.trans (by rw [if_neg (fun hc => hv2 hc.2), if_neg (fun hc => hu2 hc.2)]))
                  clear hu2 hv2
                  go_wp2
                  go_quiet (fail)
                  go_wp2
                  go_roundw
                  case rel => exact ⟨q + 1, by go_num, by omega, by rw [Hid, hs.out]; exact HO.out, HN.out.drewN _⟩
                  case measure => simp [intOf]; omega
            · obtain rfl : q = t.length := by omega
              have hfin : Hid (parTk E t F t.length = parRs E t (par0 k p) (j + 1)) := by rw [Hid, HSU.out, parTk, List.take_length]
              go_wp2
              go_roundw
              case rel => exact ⟨j + 1, by go_num, by omega, by rw [Hid, ← hfin.out]; exact HO.out, HN.out⟩
              case measure => simp [intOf]; omega
        · obtain rfl : j = k := by omega
          have BW := Lib.hid (B6.out.trans (HN.out.below (B := w.heap.size) (fun i hi e => by omega) (by omega)))
          have HF : Hid (OwnI wr w.heap.size (some ⟨W0.heap.size, 0, none⟩) j (parentsL j E t p)) := by
            have := HO.out
            rw [HPR.out] at this
            have hl := HLEN.out
            refine ⟨by simp [ints], .inr ⟨W0.heap.size, j, _, by rw [hl], by omega, this, by omega, by simp only [maxLen]; omega, ?_, ?_⟩⟩
            · simp [intCells, ints, hl]
            · simp only [intCells, Nat.mul_one]; exact List.take_of_length_le (by simp [ints, hl])
          go_wp2
          go_ret
          exact ⟨_, _, rfl, HF.out, BW.out⟩
end Go.Proofs.YtplgbapbgcipdaaGreatDoor

/-! ref13.Is, Check, single. -/
namespace Go.Proofs.YtplgbapbgcipdaaGreatDoor
open Go.RowKit

theorem spans_parts {n : Nat} {E : List (Nat × Nat)} (hE : BdP n E) {t : List Nat} (ht : ∀ e ∈ t, e < E.length) (hl : t.length + 1 = n) : spansB n E t = decide (partsP n (pk E t) = 1) := by
  unfold spansB
  rw [decide_eq_true hl, Bool.and_true, Bool.eq_iff_iff, foB_iff, decide_eq_true_eq, tree_of_len (bd_pk hE ht) (by rw [pk_length]; exact hl)]

set_option maxRecDepth 100000 in
set_option maxHeartbeats 4000000 in
theorem ris13_any (n : Nat) (A : Option Addr) (c : Nat) (es : List E3) (hn : es.length ≤ 40) (hG : RightG n es) (B : Option Addr) (d : Nat) (t : List Nat) (ht : ∀ e ∈ t, e < (endsL es).length) (htl : t.length ≤ 50) (w : World)
    (h : Reads w w.heap.size 3 A es.length (edgeCells es)) (h' : Reads w w.heap.size 1 B t.length (ints (nI t))) :
    Calls Tryz.prog 78 #[.agg #[.int .i64 n, .slice A es.length c], .slice B t.length d] w fun e w' => e = .returned (.bool (spansB n (endsL es) t)) ∧ Below w.heap.size w w' := by
  have hlo := hG.lo
  have hhi := hG.hi
  have hbe := bd_ends hG
  have hbd := bd_pk hbe ht
  have WC := Lib.hid (fun (W : World) (hB : Below w.heap.size w W) => rwith_any n A c es hn hG B d t ht htl W ((h.below hB).more hB.size) ((h'.below hB).more hB.size))
  have hmr := made_right (n := n) (ps := pk (endsL es) t) (by omega) (by omega) (by rw [pk_length]; exact htl)
  have hml : (madeS n (pk (endsL es) t)).length ≤ 1048576 := by
    have h1 : (madeS n (pk (endsL es) t)).length ≤ n * n := joinTo_length _ _ _
    have h2 : n * n ≤ 12 * 12 := Nat.mul_le_mul (by omega) (by omega)
    omega
  have hcb := made_parts (n := n) (ps := pk (endsL es) t) (by omega) (by omega) (by rw [pk_length]; exact htl) hbd
  have g0 := Blk.new w 24 #[.int .i64 n, .slice A es.length c]
  have hb0 : Below w.heap.size w (w.alloc (.cells #[.int .i64 n, .slice A es.length c] 24)) := (Below.refl _ _).alloc (Nat.le_refl _) _
  have c0 := g0.cell 0
  have c1 := g0.cell 1
  have hwn : IntKind.i64.wrap ((n : Int) - 1) = (n : Int) - 1 := IntWalk.i64_in _ (by omega)
  by_cases hl : t.length + 1 = n
  · have hsp := spans_parts hbe ht hl
    rw [← hcb] at hsp
    rw [hsp]
    have hq : ((t.length : Int) == (n : Int) - 1) = true := by simp; omega
    obtain ⟨M, hM⟩ : ∃ M, madeS n (pk (endsL es) t) = M := ⟨_, rfl⟩
    rw [hM] at WC hml ⊢
    have CC := Lib.hid (fun (A1 : Option Addr) (c1 : Nat) (W : World) (hr : Reads W W.heap.size 3 A1 M.length (edgeCells M)) => rconnected_any n (by omega) A1 c1 M hml W hr)
    obtain ⟨b, hb⟩ : ∃ b, connB n M = b := ⟨_, rfl⟩
    rw [hb] at CC ⊢
    clear hl hsp hcb hM hb hmr hbd hbe hG ht
    go_enter Tryz.func78, Tryz.ntmps78
    go_wp2_with first
      | (go_at_call 80; refine (WC.out _ hb0).mono ?_; rintro e w1 ⟨A1, c1', rfl, o1, hb1⟩)
      | (go_at_call 96; refine (CC.out A1 c1' w1 (Reads.of_own o1)).mono ?_; rintro e w2 ⟨rfl, hb2⟩)
    go_ret
    exact ⟨rfl, (hb0.trans (hb1.mono hb0.size)).trans (hb2.mono (hb0.trans (hb1.mono hb0.size)).size)⟩
  · have hsp : spansB n (endsL es) t = false := by unfold spansB; rw [decide_eq_false hl, Bool.and_false]
    rw [hsp]
    have hq : ((t.length : Int) == (n : Int) - 1) = false := by simp; omega
    clear hl hsp hcb hml hmr hbd hbe hG ht
    go_enter Tryz.func78, Tryz.ntmps78
    go_wp2
    go_ret
    exact ⟨rfl, hb0⟩

set_option maxRecDepth 100000 in
set_option maxHeartbeats 4000000 in
theorem rtcheck_any (n : Int) (A : Option Addr) (c : Nat) (es : List E3) (hn : es.length ≤ 40) (B : Option Addr) (d : Nat) (xs : List Int) (hm : xs.length ≤ 1048576) (w : World) (h : Reads w w.heap.size 3 A es.length (edgeCells es)) (h' : Reads w w.heap.size 1 B xs.length (ints xs)) :
    Calls Tryz.prog 38 #[.agg #[.int .i64 n, .slice A es.length c], .slice B xs.length d] w fun e w' => e = .returned (.int .i64 (treeErr n es xs)) ∧ Below w.heap.size w w' := by
  have JC := Lib.hid (fun (W : World) (hB : Below w.heap.size w W) => rjoinedErr_any n A c es (by omega) W ((h.below hB).more hB.size))
  have g0 := Blk.new w 24 #[.int .i64 n, .slice A es.length c]
  have hb0 : Below w.heap.size w (w.alloc (.cells #[.int .i64 n, .slice A es.length c] 24)) := (Below.refl _ _).alloc (Nat.le_refl _) _
  have c0 := g0.cell 0
  have c1 := g0.cell 1
  by_cases hj : joinErr n es = 0
  · obtain ⟨hz, hG, _⟩ := join_zero hj
    have hlo := hG.lo
    have hhi := hG.hi
    obtain ⟨m, rfl⟩ := Int.eq_ofNat_of_zero_le (show 0 ≤ n by omega)
    rw [hj] at JC
    have EC := Lib.hid (fun (W : World) (hB : Below w.heap.size w W) => redges_any m A c es hn hG.ok B d xs hm W ((h.below hB).more hB.size) ((h'.below hB).more hB.size))
    have hbd := bd_ends hG
    by_cases he : edgErr (endsL es).length xs = 0
    · obtain ⟨t, rfl, hs⟩ := edg_set he
      rw [he] at EC
      have htt : (nI t).map Int.toNat = t := by
        unfold nI
        rw [List.map_map]
        conv => rhs; rw [← List.map_id t]
        exact List.map_congr_left fun x _ => by simp
      have hnl := nI_length t
      have HE : Hid (treeErr m es (nI t) = if (t.length : Int) + 1 ≠ (m : Int) then 8 else if spansB m (endsL es) t = true then 0 else 3) := by
        unfold Hid treeErr spansB
        rw [if_neg (fun hc => hc hj), if_neg (fun hc => hc he), htt, hnl]
        by_cases hl : (t.length : Int) + 1 = (m : Int)
        · rw [decide_eq_true (show t.length + 1 = m by omega), Bool.and_true]
        · rw [if_pos hl, if_pos hl]
      obtain ⟨z, hzz⟩ : ∃ z, treeErr m es (nI t) = z := ⟨_, rfl⟩
      rw [hzz] at HE ⊢
      have hwn : IntKind.i64.wrap ((m : Int) - 1) = (m : Int) - 1 := IntWalk.i64_in _ (by omega)
      by_cases hl : (t.length : Int) + 1 = (m : Int)
      · have SC := Lib.hid (fun (W : World) (hB : Below w.heap.size w W) => ris13_any m A c es hn hG B d t hs.2 (by omega) W ((h.below hB).more hB.size) (by rw [← hnl]; exact (h'.below hB).more hB.size))
        have hne : ((t.length : Int) != (m : Int) - 1) = false := by simp; omega
        have HE2 : Hid (z = if spansB m (endsL es) t = true then 0 else 3) := HE.out.trans (if_neg (fun hc => hc hl))
        obtain ⟨sb, hsb⟩ : ∃ sb, spansB m (endsL es) t = sb := ⟨_, rfl⟩
        rw [hsb] at SC HE2
        rw [hnl] at EC h' ⊢
        clear hz hG hj he htt hzz hs hbd hl hsb HE
        go_enter Tryz.func38, Tryz.ntmps38
        go_wp2_with fail
        refine (JC.out _ hb0).mono ?_
        rintro e w1 ⟨rfl, hb1⟩
        have B1 := hb0.trans (hb1.mono hb0.size)
        have g1 := g0.next hb1
        have c0 := g1.cell 0
        have c1 := g1.cell 1
        clear g0 hb0 hb1
        go_wp2_with fail
        refine (EC.out _ B1).mono ?_
        rintro e w2 ⟨rfl, hb2⟩
        have B2 := B1.trans (hb2.mono B1.size)
        have g2 := g1.next hb2
        have c0 := g2.cell 0
        have c1 := g2.cell 1
        clear g1 hb2 B1
        go_wp2_with fail
        refine (SC.out _ B2).mono ?_
        rintro e w3 ⟨rfl, hb3⟩
        have B3 := B2.trans (hb3.mono B2.size)
        cases sb
        · have HI : Hid (z = 3) := HE2.out
          go_wp2
          go_ret
          exact ⟨by rw [HI.out]; rfl, B3⟩
        · have HI : Hid (z = 0) := HE2.out
          go_wp2
          go_ret
          exact ⟨by rw [HI.out]; rfl, B3⟩
      · have hne : ((t.length : Int) != (m : Int) - 1) = true := by simp; omega
        have HI : Hid (z = 8) := HE.out.trans (if_pos hl)
        rw [hnl] at EC h' ⊢
        clear hz hG hj he htt hzz hs hbd hl HE
        go_enter Tryz.func38, Tryz.ntmps38
        go_wp2_with fail
        refine (JC.out _ hb0).mono ?_
        rintro e w1 ⟨rfl, hb1⟩
        have B1 := hb0.trans (hb1.mono hb0.size)
        have g1 := g0.next hb1
        have c0 := g1.cell 0
        have c1 := g1.cell 1
        clear g0 hb0 hb1
        go_wp2_with fail
        refine (EC.out _ B1).mono ?_
        rintro e w2 ⟨rfl, hb2⟩
        have B2 := B1.trans (hb2.mono B1.size)
        have g2 := g1.next hb2
        have c0 := g2.cell 0
        have c1 := g2.cell 1
        go_wp2
        go_ret
        exact ⟨by rw [HI.out]; rfl, B2⟩
    · have HE : Hid (treeErr m es xs = edgErr (endsL es).length xs) := by
        unfold Hid treeErr
        rw [if_neg (fun hc => hc hj), if_pos he]
      rw [HE.out]
      obtain ⟨z, hzz⟩ : ∃ z, edgErr (endsL es).length xs = z := ⟨_, rfl⟩
      rw [hzz] at EC he ⊢
      have hb : (z != 0) = true := by simpa using he
      clear hz hG hj he hzz hbd HE
      go_enter Tryz.func38, Tryz.ntmps38
      go_wp2_with fail
      refine (JC.out _ hb0).mono ?_
      rintro e w1 ⟨rfl, hb1⟩
      have B1 := hb0.trans (hb1.mono hb0.size)
      have g1 := g0.next hb1
      have c0 := g1.cell 0
      have c1 := g1.cell 1
      clear g0 hb0 hb1
      go_wp2_with fail
      refine (EC.out _ B1).mono ?_
      rintro e w2 ⟨rfl, hb2⟩
      go_wp2
      go_ret
      exact ⟨rfl, B1.trans (hb2.mono B1.size)⟩
  · have HE : Hid (treeErr n es xs = joinErr n es) := by
      unfold Hid treeErr
      rw [if_pos hj]
    rw [HE.out]
    obtain ⟨z, hzz⟩ : ∃ z, joinErr n es = z := ⟨_, rfl⟩
    rw [hzz] at JC hj ⊢
    have hb : (z != 0) = true := by simpa using hj
    clear hj hzz HE
    go_enter Tryz.func38, Tryz.ntmps38
    go_wp2_with fail
    refine (JC.out _ hb0).mono ?_
    rintro e w1 ⟨rfl, hb1⟩
    go_wp2
    go_ret
    exact ⟨rfl, hb0.trans (hb1.mono hb0.size)⟩

end Go.Proofs.YtplgbapbgcipdaaGreatDoor

