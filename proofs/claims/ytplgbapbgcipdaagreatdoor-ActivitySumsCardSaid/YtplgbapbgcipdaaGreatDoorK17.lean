/-
  Texts of this claim, put together: ROrd.
-/
import Derived.Test.YtplgbapbgcipdaaGreatDoorK14
import Derived.Test.YtplgbapbgcipdaaGreatDoorK10
import Derived.Test.YtplgbapbgcipdaaGreatDoorK08
/-! ref13.Ordered: lists sorted by insertion. -/
namespace Go.Proofs.YtplgbapbgcipdaaGreatDoor
open Go.RowKit

/-- Slice values with what they read as; their order. -/
abbrev RowV := Value × List Int
def ltP (p q : RowV) : Bool := bfI p.2 q.2
def vals (L : List RowV) : List Value := L.map Prod.fst
theorem insK_map {x : RowV} {L : List RowV} : ∀ k, insK ltP x L k = insK bfI x.2 (L.map Prod.snd) k
  | 0 => rfl
  | k + 1 => by
    rw [insK, insK, List.getElem?_map]
    cases L[k]? with
    | none => rfl
    | some y => simp only [Option.map_some]; rw [insK_map k]; rfl
theorem insS_map {x : RowV} {L : List RowV} : (insS ltP L x).map Prod.snd = insS bfI (L.map Prod.snd) x.2 := by
  unfold insS
  rw [List.map_append, List.map_cons, List.map_take, List.map_drop, insK_map, List.length_map]
theorem sortG_map (ps : List RowV) : (sortG ltP ps).map Prod.snd = sortG bfI (ps.map Prod.snd) := by
  unfold sortG
  suffices H : ∀ (ps L : List RowV), (ps.foldl (insS ltP) L).map Prod.snd = (ps.map Prod.snd).foldl (insS bfI) (L.map Prod.snd) from H ps []
  intro ps
  induction ps with
  | nil => intro L; rfl
  | cons p ps ih => intro L; rw [List.foldl_cons, ih, insS_map]; rfl
theorem sortP_take {ps : List RowV} {k : Nat} {x : RowV} (h : ps[k]? = some x) : sortG ltP (ps.take (k + 1)) = insS ltP (sortG ltP (ps.take k)) x := by
  unfold sortG; rw [take_snoc h, List.foldl_append]; rfl
theorem insP_step {x : RowV} {L : List RowV} {j : Nat} {y : RowV} (h : L[j]? = some y) : insK ltP x L (j + 1) = if bfI x.2 y.2 = true then insK ltP x L j else j + 1 := by
  rw [insK, h]; rfl
theorem Reads.takeV {w : World} {B : Nat} {A : Option Addr} {L : List RowV} {n : Nat} (h : Reads w B 1 A n (vals L)) (p : Nat) (hp : p ≤ n) : Reads w B 1 A p (vals (L.take p)) := by
  have hl : L.length = n := by have := h.1; simpa [vals] using this
  refine ⟨by simp [vals]; omega, fun hp0 => ?_⟩
  obtain ⟨b, off, hA, hb, hc⟩ := h.2 (by omega)
  refine ⟨b, off, hA, hb, fun j v hv => hc j v ?_⟩
  have hj := (List.getElem?_eq_some_iff.1 hv).1
  simp [vals] at hj
  rw [← hv]; simp only [vals, List.getElem?_map, List.getElem?_take]; rw [if_pos (by omega)]
theorem Reads.dropV {w : World} {B b off : Nat} {L : List RowV} {n : Nat} (h : Reads w B 1 (some ⟨b, off, none⟩) n (vals L)) (p : Nat) (hp : p ≤ n) : Reads w B 1 (some ⟨b, off + p, none⟩) (n - p) (vals (L.drop p)) := by
  have hl : L.length = n := by have := h.1; simpa [vals] using this
  refine ⟨by simp [vals]; omega, fun hp0 => ?_⟩
  obtain ⟨b', off', hA, hb, hc⟩ := h.2 (by omega)
  injection hA with hA; injection hA with e1 e2; subst e1 e2
  refine ⟨b, off + p, rfl, hb, fun j v hv => ?_⟩
  rw [show off + p + j = off + (p + j) from by omega]
  exact hc (p + j) v (by rw [← hv]; simp [vals])
theorem own_empty {w : World} {base g : Nat} {t : TypeId} (h : Blk w g t #[]) (hb : base ≤ g) : w.ownsRow base t 1 (.slice (some ⟨g, 0, none⟩) 0 0) 0 [] := ⟨rfl, .inr ⟨g, 0, #[], rfl, hb, h, Nat.le_refl _, by decide, by simp, rfl⟩⟩
theorem own_joinV {w : World} {B base n c q : Nat} {A : Option Addr} {L : List RowV} {x : RowV} (h : w.ownsRow B 25 1 (.slice A n c) n (vals (L.take q) ++ [x.1] ++ vals (L.drop q))) {m : Nat} (hn : n = m) (hb : base ≤ B) : w.ownsRow base 25 1 (.slice A m c) m (vals (L.take q ++ x :: L.drop q)) := by
  subst hn
  have e : vals (L.take q ++ x :: L.drop q) = vals (L.take q) ++ [x.1] ++ vals (L.drop q) := by simp [vals]
  rw [e]
  exact own_rebase h fun k hk => Nat.le_trans hb (own_lt h hk).1

set_option maxRecDepth 100000 in
set_option maxHeartbeats 16000000 in
theorem rordered_any (A : Option Addr) (c : Nat) (ps : List RowV) (hn : ps.length ≤ 1000) (hl : ∀ p ∈ ps, p.2.length ≤ 1048576) (w : World) (h : Reads w w.heap.size 1 A ps.length (vals ps)) (hv : ∀ p ∈ ps, ∃ A' c', p.1 = .slice A' p.2.length c' ∧ Reads w w.heap.size 1 A' p.2.length (ints p.2)) :
    Calls Tryz.prog 143 #[.slice A ps.length c] w fun en w' => ∃ A' c', en = .returned (.slice A' ps.length c') ∧ w'.ownsRow w.heap.size 25 1 (.slice A' ps.length c') ps.length (vals (sortG ltP ps)) ∧ Below w.heap.size w w' := by
  have hA0 : Hid (w.ownsRow w.heap.size 25 1 (.slice none 0 0) 0 (vals (sortG ltP (ps.take 0)))) := World.ownsRow_nil _ _ _ _
  have HLN : Hid (∀ k, k ≤ ps.length → (sortG ltP (ps.take k)).length = k) := fun k hk => by rw [sortG_length, List.length_take]; omega
  have HV := Lib.hid hv
  have HLB := Lib.hid hl
  clear hv hl
  go_enter Tryz.func143, Tryz.ntmps143
  go_wp2_with fail
  go_loopw [3, 4, 5, 6] (fun o i _ _ wr => ∃ (k : Nat) (Ao : Option Addr) (co : Nat), k ≤ ps.length ∧ i = .int .i64 k ∧ o = .slice Ao k co ∧ Hid (wr.ownsRow w.heap.size 25 1 (.slice Ao k co) k (vals (sortG ltP (ps.take k)))) ∧ Hid (Below w.heap.size w wr) ∧ Hid (k = 0 → Ao = none ∧ co = 0)) (fun _ i _ _ _ => ps.length - (intOf i).toNat)
  case atStart => exact ⟨0, none, 0, by omega, rfl, rfl, hA0, Below.refl _ _, fun _ => ⟨rfl, rfl⟩⟩
  case round =>
    obtain ⟨k, Ao, co, hk, rfl, rfl, HO, HW, HKN⟩ := hrel
    by_cases hlt : k < ps.length
    · obtain ⟨⟨xv, X⟩, hx⟩ := get_of_lt hlt
      obtain ⟨Av, cv, hxe, hxr⟩ := HV.out _ (List.mem_of_getElem? hx)
      dsimp only at hxe hxr
      subst hxe
      have hXl := HLB.out _ (List.mem_of_getElem? hx)
      dsimp only at hXl
      have hi : (k : Int) < (ps.length : Int) := by omega
      have hst := sortP_take hx
      have hll := HLN.out k hk
      have hmem : ∀ p ∈ sortG ltP (ps.take k), p ∈ ps := fun p hp => List.mem_of_mem_take ((sortG_perm (lt := ltP) (ps.take k)).mem_iff.1 hp)
      obtain ⟨L, hL⟩ : ∃ L, sortG ltP (ps.take k) = L := ⟨_, rfl⟩
      rw [hL] at HO hst hll hmem
      have HMEM := Lib.hid hmem
      have HST := Lib.hid hst
      have HLL := Lib.hid hll
      have HON : Hid (∀ u ∈ vals L, u.oneCell' = true) := fun u hu => by
        obtain ⟨p, hp, rfl⟩ := List.mem_map.1 hu
        obtain ⟨A', c', he, _⟩ := HV.out p (hmem p hp)
        rw [he]; rfl
      have hkle : Hid (insK ltP (.slice Av X.length cv, X) L k ≤ k) := insK_le k
      obtain ⟨bX, oX, hXA, hbX, hcX0⟩ := h.at_ (show (vals ps)[k]? = some (.slice Av X.length cv) by simp [vals, hx])
      subst hXA
      have HXR := Lib.hid hxr
      have HXL := Lib.hid hXl
      obtain ⟨wo, rfl⟩ : ∃ wo : World, wo = wr := ⟨_, rfl⟩
      clear hx hst hll hL hmem hxr hXl
      go_wp2_with fail
      go_loopw [5] (fun j wl => ∃ q : Nat, q ≤ k ∧ j = .int .i64 q ∧ Hid (insK ltP (.slice Av X.length cv, X) L k = insK ltP (.slice Av X.length cv, X) L q) ∧ Hid (wl.ownsRow w.heap.size 25 1 (.slice Ao k co) k (vals L)) ∧ Hid (Below w.heap.size w wl)) (fun j _ => (intOf j).toNat)
      case atStart => exact ⟨k, by omega, rfl, rfl, HO, HW⟩
      case round =>
        obtain ⟨q, hq, rfl, HQ, HO, HW⟩ := hrel
        have hwz := HW.out.size
        have hcX := (HW.out.cell (p := ⟨bX, oX + k, none⟩) hbX).trans hcX0
        by_cases hq0 : q = 0
        · have HK : Hid (insK ltP (.slice Av X.length cv, X) L k = q) := by rw [Hid, HQ.out, hq0]; rfl
          have hd : decide ((0 : Int) < (q : Int)) = false := decide_eq_false (by omega)
          have hd2 : decide (0 < q) = false := decide_eq_false (by omega)
          clear hq0 HQ
          go_wp2_with fail
          go_quiet (fail)
          clear hd hd2
          go_wp2_with fail
          obtain ⟨Wq, hWq⟩ : ∃ W, wr.drewN nq = W := ⟨_, rfl⟩
          have OQ : Wq.ownsRow w.heap.size 25 1 (.slice Ao k co) k (vals L) := by rw [← hWq]; exact HO.out
          have BQ : Below w.heap.size w Wq := by rw [← hWq]; exact ⟨HW.out.os, HW.out.tape, HW.out.output, HW.out.size, HW.out.block⟩
          have kx0 : Wq.cell? ⟨bX, oX + k, none⟩ = some (.slice Av X.length cv) := by rw [← hWq]; exact hcX
          rw [hWq]
          clear hWq hcX hcX0
          have hzq := BQ.size
          have hLk := HLL.out
          have hq00 : (0 : Int) ≤ (q : Int) := by omega
          have hk00 : (0 : Int) ≤ (k : Int) := by omega
          have hqi : (q : Int) ≤ (k : Int) := by omega
          have hbXs : bX < Wq.heap.size := by omega
          have HS : Hid (sortG ltP (ps.take (k + 1)) = L.take q ++ (.slice Av X.length cv, X) :: L.drop q) := by rw [Hid, HST.out]; unfold insS; rw [hLk, HK.out]
          have own1 : (Wq.alloc (.cells #[] 25)).ownsRow Wq.heap.size 25 1 (.slice (some ⟨Wq.heap.size, 0, none⟩) 0 0) 0 [] := own_empty (Blk.new Wq 25 #[]) (Nat.le_refl _)
          have own2 := World.ownsRow.alloc own1 (.cells #[.slice Av X.length cv] 25)
          have own3 : ((Wq.alloc (.cells #[.slice Av X.length cv] 25)).alloc (.cells #[] 25)).ownsRow Wq.heap.size 25 1 (.slice (some ⟨Wq.heap.size + 1, 0, none⟩) 0 0) 0 [] := own_empty (Blk.newAtS (by simp)) (by omega)
          have BX1 := (Below.refl Wq.heap.size Wq).alloc (Nat.le_refl _) (.cells #[] 25)
          have BX2 := ((Below.refl Wq.heap.size Wq).alloc (Nat.le_refl _) (.cells #[] 25)).alloc (by simp) (.cells #[.slice Av X.length cv] 25)
          have BX3 := ((Below.refl Wq.heap.size Wq).alloc (Nat.le_refl _) (.cells #[.slice Av X.length cv] 25)).alloc (by simp) (.cells #[] 25)
          have kx1 := (BX1.cell (p := ⟨bX, oX + k, none⟩) (by show bX < _; omega)).trans kx0
          have kx2 := (BX2.cell (p := ⟨bX, oX + k, none⟩) (by show bX < _; omega)).trans kx0
          have kx3 := (BX3.cell (p := ⟨bX, oX + k, none⟩) (by show bX < _; omega)).trans kx0
          have bx2 : Blk ((Wq.alloc (.cells #[] 25)).alloc (.cells #[.slice Av X.length cv] 25)) (Wq.heap.size + 1) 25 #[.slice Av X.length cv] := Blk.newAtS (by simp)
          have bx3 : Blk ((Wq.alloc (.cells #[.slice Av X.length cv] 25)).alloc (.cells #[] 25)) Wq.heap.size 25 #[.slice Av X.length cv] := (Blk.new Wq 25 #[.slice Av X.length cv]).alloc _
          have hlen9 : q + 1 + (k - q) = k + 1 := by omega
          have HONT : Hid (∀ u ∈ vals (L.take q), u.oneCell' = true) := fun u hu => by
            obtain ⟨p, hp, rfl⟩ := List.mem_map.1 hu
            exact HON.out _ (List.mem_map_of_mem (List.mem_of_mem_take hp))
          have HOND : Hid (∀ u ∈ vals (L.drop q), u.oneCell' = true) := fun u hu => by
            obtain ⟨p, hp, rfl⟩ := List.mem_map.1 hu
            exact HON.out _ (List.mem_map_of_mem (List.mem_of_mem_drop hp))
          have OQ2 := OQ
          obtain ⟨_, OQ2⟩ := OQ2
          rcases OQ2 with ⟨hv, h0⟩ | ⟨g, cap, cur, hv, hg, hbl, hnc, hcap, _⟩

          · obtain ⟨rfl, hk0, rfl⟩ : Ao = none ∧ k = 0 ∧ co = 0 := by simpa using hv
            obtain rfl : q = 0 := by omega
            clear hk0 h0 hv
            have rL : Reads Wq Wq.heap.size 1 none k (vals L) := Reads.of_own OQ
            have hlen9 : 1 + k = k + 1 := by omega
            have HONT : Hid (∀ u ∈ vals (L.take 0), u.oneCell' = true) := HONT
            have HOND : Hid (∀ u ∈ vals (L.drop 0), u.oneCell' = true) := HOND
            have rT := rL.takeV 0 (by omega)
            have rT1 := rT.below BX1
            have rT2 := rT.below BX2
            have rT3 := rT.below BX3
            have rD : Reads Wq Wq.heap.size 1 none k (vals (L.drop 0)) := rL
            clear hLk
            go_cut [6] from 31 to 41 (fun s wx => ∃ A5 c5, s = .slice A5 1 c5 ∧ Hid (wx.ownsRow Wq.heap.size 25 1 (.slice A5 1 c5) 1 (vals (L.take 0) ++ [.slice Av X.length cv])) ∧ Hid (Below Wq.heap.size Wq wx))
            case first =>
              go_region_held3 (fun W => W.cell? ⟨bX, oX + k, none⟩ = some (.slice Av X.length cv)) (go_keep) (first
                | (refine append_step2 rfl (.tmp 31) (.tmp 34) _ _ rfl Wq.heap.size 25 25 Tryz.underlying50 Tryz.underlying50 info_row rfl (by omega) (some ⟨Wq.heap.size, 0, none⟩) 0 0 [] rfl ?_ Wq.heap.size (vals (L.take 0)) rfl ?_ HONT.out (by omega) ?_ ?_
                   · exact own1
                   · exact rT1
                   · first | (simp; done) | (simp; omega)
                   intro A4 c4 w4 hown4 hg4 hb4 _; (try rw [Nat.zero_add] at hown4 ⊢); rw [List.nil_append] at hown4; have k4 := (hb4.cell (p := ⟨bX, oX + k, none⟩) (by show bX < _; omega)).trans kx1; have hz4 : Wq.heap.size ≤ w4.heap.size := Nat.le_trans (by first | (simp; done) | (simp; omega)) hb4.size; have HB4 : Hid (Below Wq.heap.size Wq w4) := BX1.trans ⟨hb4.os, hb4.tape, hb4.output, hb4.size, hb4.block⟩)
                | (refine append_step2 rfl (.tmp 31) (.tmp 34) _ _ rfl Wq.heap.size 25 25 Tryz.underlying50 Tryz.underlying50 info_row rfl (by omega) (some ⟨Wq.heap.size, 0, none⟩) 0 0 [] rfl ?_ Wq.heap.size (vals (L.take 0)) rfl ?_ HONT.out (by omega) ?_ ?_
                   · exact own2
                   · exact rT2
                   · first | (simp; done) | (simp; omega)
                   intro A4 c4 w4 hown4 hg4 hb4 _; (try rw [Nat.zero_add] at hown4 ⊢); rw [List.nil_append] at hown4; have k4 := (hb4.cell (p := ⟨bX, oX + k, none⟩) (by show bX < _; omega)).trans kx2; have hz4 : Wq.heap.size ≤ w4.heap.size := Nat.le_trans (by first | (simp; done) | (simp; omega)) hb4.size; have HB4 : Hid (Below Wq.heap.size Wq w4) := BX2.trans ⟨hb4.os, hb4.tape, hb4.output, hb4.size, hb4.block⟩; have rb4 := Reads.of_blk1 (w := w4) (g := (Wq.heap.size + 1)) (u := .slice Av X.length cv) (e := 25) ((hg4.block (Wq.heap.size + 1) bx2.lt (by simp [Value.ownBlock])).trans bx2))
                | (refine append_step2 rfl (.tmp 31) (.tmp 34) _ _ rfl Wq.heap.size 25 25 Tryz.underlying50 Tryz.underlying50 info_row rfl (by omega) (some ⟨Wq.heap.size + 1, 0, none⟩) 0 0 [] rfl ?_ Wq.heap.size (vals (L.take 0)) rfl ?_ HONT.out (by omega) ?_ ?_
                   · exact own3
                   · exact rT3
                   · first | (simp; done) | (simp; omega)
                   intro A4 c4 w4 hown4 hg4 hb4 _; (try rw [Nat.zero_add] at hown4 ⊢); rw [List.nil_append] at hown4; have k4 := (hb4.cell (p := ⟨bX, oX + k, none⟩) (by show bX < _; omega)).trans kx3; have hz4 : Wq.heap.size ≤ w4.heap.size := Nat.le_trans (by first | (simp; done) | (simp; omega)) hb4.size; have HB4 : Hid (Below Wq.heap.size Wq w4) := BX3.trans ⟨hb4.os, hb4.tape, hb4.output, hb4.size, hb4.block⟩; have rb4 := Reads.of_blk1 (w := w4) (g := Wq.heap.size) (u := .slice Av X.length cv) (e := 25) ((hg4.block Wq.heap.size bx3.lt (by simp [Value.ownBlock])).trans bx3))
                | (refine append_step2 rfl (.tmp 35) (.tmp 40) _ _ rfl Wq.heap.size 25 25 Tryz.underlying50 Tryz.underlying50 info_row rfl (by omega) A4 c4 0 (vals (L.take 0)) rfl ?_ w4.heap.size [.slice Av X.length cv] rfl ?_ (by simp [Value.oneCell']) (by omega) ?_ ?_
                   · exact hown4
                   · exact rb4
                   · exact hz4
                   intro A5 c5 w5 hown5 hg5 hb5 _; have k5 := (hb5.cell (p := ⟨bX, oX + k, none⟩) (by show bX < _; omega)).trans k4; have HB5 : Hid (Below Wq.heap.size Wq w5) := HB4.out.trans ⟨hb5.os, hb5.tape, hb5.output, hb5.size, hb5.block⟩)
                | (refine append_step2 rfl (.tmp 35) (.tmp 40) _ _ rfl Wq.heap.size 25 25 Tryz.underlying50 Tryz.underlying50 info_row rfl (by omega) A4 c4 0 (vals (L.take 0)) rfl ?_ (w4.heap.size + 1) [.slice Av X.length cv] rfl ?_ (by simp [Value.oneCell']) (by omega) ?_ ?_
                   · exact World.ownsRow.alloc hown4 _
                   · exact Reads.box1 w4 _ _
                   · exact Nat.le_trans hz4 (by simp)
                   intro A5 c5 w5 hown5 hg5 hb5 _; have k5 := (hb5.cell (p := ⟨bX, oX + k, none⟩) (by show bX < _; omega)).trans ((((Below.refl w4.heap.size w4).alloc (Nat.le_refl _) (.cells #[.slice Av X.length cv] 25)).cell (p := ⟨bX, oX + k, none⟩) (by show bX < _; omega)).trans k4); have HB5 : Hid (Below Wq.heap.size Wq w5) := (HB4.out.alloc hz4 (.cells #[.slice Av X.length cv] 25)).trans ⟨hb5.os, hb5.tape, hb5.output, hb5.size, hb5.block⟩)
                | fail)
              all_goals
                go_wp2
                go_meet
                exact ⟨A5, c5, rfl, hown5, HB5⟩
            case rest =>
              obtain ⟨A5, c5, rfl, HO5, HB5⟩ := hcut
              clear own1 own2 own3 BX1 BX2 BX3 kx0 kx1 kx2 kx3 bx2 bx3 rT1 rT2 rT3
              go_wp2_with (first | (at_builtin; refine append_go rfl (.tmp 42) (.tmp 45) _ rfl Wq.heap.size 25 Tryz.underlying50 info_row rfl (by omega) A5 c5 1 (vals (L.take 0) ++ [.slice Av X.length cv]) rfl HO5.out Wq.heap.size (vals (L.drop 0)) rfl (rD.below HB5.out) HOND.out (by omega) HB5.out.size ?_; intro A6 c6 w6 hown6 _ hb6 _; have HB6 := Lib.hid ((HB5.out).trans hb6); have HO6 := Lib.hid hown6) | fail)
              go_wp2
              go_roundw
              case rel => exact ⟨k + 1, A6, c6, by omega, by go_num, rfl, by rw [Hid, HS.out]; exact own_joinV HO6.out (by omega) hzq, BQ.trans (HB6.out.mono hzq), fun h => by omega⟩
              case measure => simp [intOf]; omega

          injection hv with e1 e2 e3
          subst e1 e3
          have hqc : (q : Int) ≤ (co : Int) := by omega
          have hkc : (k : Int) ≤ (co : Int) := by omega
          have rL : Reads Wq Wq.heap.size 1 (some ⟨g, 0, none⟩) k (vals L) := Reads.of_own OQ

          have rT := rL.takeV q hq
          have rT1 := rT.below BX1
          have rT2 := rT.below BX2
          have rT3 := rT.below BX3

          have hc0 : ¬ co = 0 := by
            rintro rfl
            have := (HKN.out (by omega)).1
            cases this

          clear hLk
          go_cut [6] from 31 to 41 (fun s wx => ∃ A5 c5, s = .slice A5 (q + 1) c5 ∧ Hid (wx.ownsRow Wq.heap.size 25 1 (.slice A5 (q + 1) c5) (q + 1) (vals (L.take q) ++ [.slice Av X.length cv])) ∧ Hid (Below Wq.heap.size Wq wx))
          case first =>
            go_region_held3 (fun W => W.cell? ⟨bX, oX + k, none⟩ = some (.slice Av X.length cv)) (go_keep) (first
              | (refine append_step2 rfl (.tmp 31) (.tmp 34) _ _ rfl Wq.heap.size 25 25 Tryz.underlying50 Tryz.underlying50 info_row rfl (by omega) (some ⟨Wq.heap.size, 0, none⟩) 0 0 [] rfl ?_ Wq.heap.size (vals (L.take q)) rfl ?_ HONT.out (by omega) ?_ ?_
                 · exact own1
                 · exact rT1
                 · first | (simp; done) | (simp; omega)
                 intro A4 c4 w4 hown4 hg4 hb4 _; rw [Nat.zero_add q] at hown4 ⊢; rw [List.nil_append] at hown4; have k4 := (hb4.cell (p := ⟨bX, oX + k, none⟩) (by show bX < _; omega)).trans kx1; have hz4 : Wq.heap.size ≤ w4.heap.size := Nat.le_trans (by first | (simp; done) | (simp; omega)) hb4.size; have HB4 : Hid (Below Wq.heap.size Wq w4) := BX1.trans ⟨hb4.os, hb4.tape, hb4.output, hb4.size, hb4.block⟩)
              | (refine append_step2 rfl (.tmp 31) (.tmp 34) _ _ rfl Wq.heap.size 25 25 Tryz.underlying50 Tryz.underlying50 info_row rfl (by omega) (some ⟨Wq.heap.size, 0, none⟩) 0 0 [] rfl ?_ Wq.heap.size (vals (L.take q)) rfl ?_ HONT.out (by omega) ?_ ?_
                 · exact own2
                 · exact rT2
                 · first | (simp; done) | (simp; omega)
                 intro A4 c4 w4 hown4 hg4 hb4 _; rw [Nat.zero_add q] at hown4 ⊢; rw [List.nil_append] at hown4; have k4 := (hb4.cell (p := ⟨bX, oX + k, none⟩) (by show bX < _; omega)).trans kx2; have hz4 : Wq.heap.size ≤ w4.heap.size := Nat.le_trans (by first | (simp; done) | (simp; omega)) hb4.size; have HB4 : Hid (Below Wq.heap.size Wq w4) := BX2.trans ⟨hb4.os, hb4.tape, hb4.output, hb4.size, hb4.block⟩; have rb4 := Reads.of_blk1 (w := w4) (g := (Wq.heap.size + 1)) (u := .slice Av X.length cv) (e := 25) ((hg4.block (Wq.heap.size + 1) bx2.lt (by simp [Value.ownBlock])).trans bx2))
              | (refine append_step2 rfl (.tmp 31) (.tmp 34) _ _ rfl Wq.heap.size 25 25 Tryz.underlying50 Tryz.underlying50 info_row rfl (by omega) (some ⟨Wq.heap.size + 1, 0, none⟩) 0 0 [] rfl ?_ Wq.heap.size (vals (L.take q)) rfl ?_ HONT.out (by omega) ?_ ?_
                 · exact own3
                 · exact rT3
                 · first | (simp; done) | (simp; omega)
                 intro A4 c4 w4 hown4 hg4 hb4 _; rw [Nat.zero_add q] at hown4 ⊢; rw [List.nil_append] at hown4; have k4 := (hb4.cell (p := ⟨bX, oX + k, none⟩) (by show bX < _; omega)).trans kx3; have hz4 : Wq.heap.size ≤ w4.heap.size := Nat.le_trans (by first | (simp; done) | (simp; omega)) hb4.size; have HB4 : Hid (Below Wq.heap.size Wq w4) := BX3.trans ⟨hb4.os, hb4.tape, hb4.output, hb4.size, hb4.block⟩; have rb4 := Reads.of_blk1 (w := w4) (g := Wq.heap.size) (u := .slice Av X.length cv) (e := 25) ((hg4.block Wq.heap.size bx3.lt (by simp [Value.ownBlock])).trans bx3))
              | (refine append_step2 rfl (.tmp 35) (.tmp 40) _ _ rfl Wq.heap.size 25 25 Tryz.underlying50 Tryz.underlying50 info_row rfl (by omega) A4 c4 q (vals (L.take q)) rfl ?_ w4.heap.size [.slice Av X.length cv] rfl ?_ (by simp [Value.oneCell']) (by omega) ?_ ?_
                 · exact hown4
                 · exact rb4
                 · exact hz4
                 intro A5 c5 w5 hown5 hg5 hb5 _; have k5 := (hb5.cell (p := ⟨bX, oX + k, none⟩) (by show bX < _; omega)).trans k4; have HB5 : Hid (Below Wq.heap.size Wq w5) := HB4.out.trans ⟨hb5.os, hb5.tape, hb5.output, hb5.size, hb5.block⟩)
              | (refine append_step2 rfl (.tmp 35) (.tmp 40) _ _ rfl Wq.heap.size 25 25 Tryz.underlying50 Tryz.underlying50 info_row rfl (by omega) A4 c4 q (vals (L.take q)) rfl ?_ (w4.heap.size + 1) [.slice Av X.length cv] rfl ?_ (by simp [Value.oneCell']) (by omega) ?_ ?_
                 · exact World.ownsRow.alloc hown4 _
                 · exact Reads.box1 w4 _ _
                 · exact Nat.le_trans hz4 (by simp)
                 intro A5 c5 w5 hown5 hg5 hb5 _; have k5 := (hb5.cell (p := ⟨bX, oX + k, none⟩) (by show bX < _; omega)).trans ((((Below.refl w4.heap.size w4).alloc (Nat.le_refl _) (.cells #[.slice Av X.length cv] 25)).cell (p := ⟨bX, oX + k, none⟩) (by show bX < _; omega)).trans k4); have HB5 : Hid (Below Wq.heap.size Wq w5) := (HB4.out.alloc hz4 (.cells #[.slice Av X.length cv] 25)).trans ⟨hb5.os, hb5.tape, hb5.output, hb5.size, hb5.block⟩)
              | fail)
            all_goals
              go_wp2
              go_meet
              exact ⟨A5, c5, rfl, hown5, HB5⟩
          case rest =>
            obtain ⟨A5, c5, rfl, HO5, HB5⟩ := hcut
            by_cases hcq : co = q
            · have rD : Reads Wq Wq.heap.size 1 (some ⟨g, 0, none⟩) (k - q) (vals (L.drop q)) := ⟨by have := HLL.out; simp [vals]; omega, fun hp => by omega⟩
              clear own1 own2 own3 BX1 BX2 BX3 kx0 kx1 kx2 kx3 bx2 bx3 rT1 rT2 rT3
              go_wp2_with (first | (at_builtin; refine append_go rfl (.tmp 42) (.tmp 45) _ rfl Wq.heap.size 25 Tryz.underlying50 info_row rfl (by omega) A5 c5 (q + 1) (vals (L.take q) ++ [.slice Av X.length cv]) rfl HO5.out Wq.heap.size (vals (L.drop q)) rfl (rD.below HB5.out) HOND.out (by omega) HB5.out.size ?_; intro A6 c6 w6 hown6 _ hb6 _; have HB6 := Lib.hid ((HB5.out).trans hb6); have HO6 := Lib.hid hown6) | fail)
              go_wp2
              go_roundw
              case rel => exact ⟨k + 1, A6, c6, by omega, by go_num, rfl, by rw [Hid, HS.out]; exact own_joinV HO6.out (by omega) hzq, BQ.trans (HB6.out.mono hzq), fun h => by omega⟩
              case measure => simp [intOf]; omega
            · have rD : Reads Wq Wq.heap.size 1 (some ⟨g, q, none⟩) (k - q) (vals (L.drop q)) := by have := rL.dropV q hq; rwa [Nat.zero_add] at this
              clear own1 own2 own3 BX1 BX2 BX3 kx0 kx1 kx2 kx3 bx2 bx3 rT1 rT2 rT3
              go_wp2_with (first | (at_builtin; refine append_go rfl (.tmp 42) (.tmp 45) _ rfl Wq.heap.size 25 Tryz.underlying50 info_row rfl (by omega) A5 c5 (q + 1) (vals (L.take q) ++ [.slice Av X.length cv]) rfl HO5.out Wq.heap.size (vals (L.drop q)) rfl (rD.below HB5.out) HOND.out (by omega) HB5.out.size ?_; intro A6 c6 w6 hown6 _ hb6 _; have HB6 := Lib.hid ((HB5.out).trans hb6); have HO6 := Lib.hid hown6) | fail)
              go_wp2
              go_roundw
              case rel => exact ⟨k + 1, A6, c6, by omega, by go_num, rfl, by rw [Hid, HS.out]; exact own_joinV HO6.out (by omega) hzq, BQ.trans (HB6.out.mono hzq), fun h => by omega⟩
              case measure => simp [intOf]; omega
        · obtain ⟨p, hqp⟩ : ∃ p, q = p + 1 := ⟨q - 1, by omega⟩
          obtain ⟨⟨yv, Y⟩, hy⟩ := get_of_lt (xs := L) (k := p) (by have := HLL.out; omega)
          obtain ⟨Ay, cy, hye, hyr⟩ := HV.out _ (HMEM.out _ (List.mem_of_getElem? hy))
          dsimp only at hye hyr
          subst hye
          have hstep := insP_step (x := (.slice Av X.length cv, X)) hy
          rw [← hqp] at hstep
          dsimp only at hstep
          obtain ⟨bL, oL, hLA, hbL, hcL⟩ := (Reads.of_own HO.out).at_ (show (vals L)[p]? = some (.slice Ay Y.length cy) by simp [vals, hy])
          subst hLA
          have BC := Lib.hid (fun (W : World) (hB : Below w.heap.size w W) => rbefore_any Av cv X Ay cy Y HXL.out W ((HXR.out.below hB).more hB.size) ((hyr.below hB).more hB.size))
          have hq1 : IntKind.i64.wrap ((q : Int) - 1) = (p : Int) := by rw [IntWalk.i64_in _ (by omega)]; omega
          have hq3 : (0 : Int) < (q : Int) := by omega
          have hq2 : decide (0 < q) = true := decide_eq_true (by omega)
          have hpk : (p : Int) < (k : Int) := by omega
          have hp0 : (0 : Int) ≤ (p : Int) := by omega
          have hk00 : (0 : Int) ≤ (k : Int) := by omega
          obtain ⟨b, hb⟩ : ∃ b, bfI X Y = b := ⟨_, rfl⟩
          rw [hb] at BC hstep
          have HSTP := Lib.hid hstep
          have HQP : Hid (p ≤ k ∧ p < q) := ⟨by omega, by omega⟩
          clear hstep hb hy hyr hq0 hqp
          have hB2 : Below w.heap.size w wr.drew := HW.out.drew
          have hcX2 : wr.drew.cell? ⟨bX, oX + k, none⟩ = some (.slice Av X.length cv) := hcX
          have hcL2 : wr.drew.cell? ⟨bL, oL + p, none⟩ = some (.slice Ay Y.length cy) := hcL
          clear hcX hcL
          go_wp2_with fail
          go_region_held3 (fun W => W.cell? ⟨bX, oX + k, none⟩ = some (.slice Av X.length cv) ∧ W.cell? ⟨bL, oL + p, none⟩ = some (.slice Ay Y.length cy)) (go_keep) (first
            | (go_at_call 178; refine (BC.out _ (by exact hB2)).mono ?_; rintro en wn ⟨rfl, hb5⟩; have hcX2 := (hb5.cell (p := ⟨bX, oX + k, none⟩) (by show bX < _; exact Nat.lt_of_lt_of_le hbX hwz)).trans hcX2; have hcL2 := (hb5.cell (p := ⟨bL, oL + p, none⟩) (by show bL < _; exact hbL)).trans hcL2)
            | fail)
          all_goals (
            have HO5 : Hid (wn.ownsRow w.heap.size 25 1 (.slice (some ⟨bL, oL, none⟩) k co) k (vals L)) := own_kept HO.out fun j hj => hb5.block j (own_lt HO.out hj).2
            have HW5 : Hid (Below w.heap.size w wn) := hB2.trans (hb5.mono hB2.size)
            rcases b with _ | _
            · have HK : Hid (insK ltP (.slice Av X.length cv, X) L k = q) := by rw [Hid, HQ.out, HSTP.out]; rfl
              have OQ := HO5.out
              have BQ := HW5.out
              have kx0 := hcX2
              clear hcX2 hcL2 hcX0 hq1 hq2 hq3 hpk hB2 hb5
              go_wp2_with fail
              obtain ⟨Wq, rfl⟩ : ∃ W : World, W = wn := ⟨_, rfl⟩
              have hzq := BQ.size
              have hLk := HLL.out
              have hq00 : (0 : Int) ≤ (q : Int) := by omega
              have hk00 : (0 : Int) ≤ (k : Int) := by omega
              have hqi : (q : Int) ≤ (k : Int) := by omega
              have hbXs : bX < Wq.heap.size := by omega
              have HS : Hid (sortG ltP (ps.take (k + 1)) = L.take q ++ (.slice Av X.length cv, X) :: L.drop q) := by rw [Hid, HST.out]; unfold insS; rw [hLk, HK.out]
              have own1 : (Wq.alloc (.cells #[] 25)).ownsRow Wq.heap.size 25 1 (.slice (some ⟨Wq.heap.size, 0, none⟩) 0 0) 0 [] := own_empty (Blk.new Wq 25 #[]) (Nat.le_refl _)
              have own2 := World.ownsRow.alloc own1 (.cells #[.slice Av X.length cv] 25)
              have own3 : ((Wq.alloc (.cells #[.slice Av X.length cv] 25)).alloc (.cells #[] 25)).ownsRow Wq.heap.size 25 1 (.slice (some ⟨Wq.heap.size + 1, 0, none⟩) 0 0) 0 [] := own_empty (Blk.newAtS (by simp)) (by omega)
              have BX1 := (Below.refl Wq.heap.size Wq).alloc (Nat.le_refl _) (.cells #[] 25)
              have BX2 := ((Below.refl Wq.heap.size Wq).alloc (Nat.le_refl _) (.cells #[] 25)).alloc (by simp) (.cells #[.slice Av X.length cv] 25)
              have BX3 := ((Below.refl Wq.heap.size Wq).alloc (Nat.le_refl _) (.cells #[.slice Av X.length cv] 25)).alloc (by simp) (.cells #[] 25)
              have kx1 := (BX1.cell (p := ⟨bX, oX + k, none⟩) (by show bX < _; omega)).trans kx0
              have kx2 := (BX2.cell (p := ⟨bX, oX + k, none⟩) (by show bX < _; omega)).trans kx0
              have kx3 := (BX3.cell (p := ⟨bX, oX + k, none⟩) (by show bX < _; omega)).trans kx0
              have bx2 : Blk ((Wq.alloc (.cells #[] 25)).alloc (.cells #[.slice Av X.length cv] 25)) (Wq.heap.size + 1) 25 #[.slice Av X.length cv] := Blk.newAtS (by simp)
              have bx3 : Blk ((Wq.alloc (.cells #[.slice Av X.length cv] 25)).alloc (.cells #[] 25)) Wq.heap.size 25 #[.slice Av X.length cv] := (Blk.new Wq 25 #[.slice Av X.length cv]).alloc _
              have hlen9 : q + 1 + (k - q) = k + 1 := by omega
              have HONT : Hid (∀ u ∈ vals (L.take q), u.oneCell' = true) := fun u hu => by
                obtain ⟨p, hp, rfl⟩ := List.mem_map.1 hu
                exact HON.out _ (List.mem_map_of_mem (List.mem_of_mem_take hp))
              have HOND : Hid (∀ u ∈ vals (L.drop q), u.oneCell' = true) := fun u hu => by
                obtain ⟨p, hp, rfl⟩ := List.mem_map.1 hu
                exact HON.out _ (List.mem_map_of_mem (List.mem_of_mem_drop hp))
              have OQ2 := OQ
              obtain ⟨_, OQ2⟩ := OQ2
              rcases OQ2 with ⟨hv, h0⟩ | ⟨g, cap, cur, hv, hg, hbl, hnc, hcap, _⟩
              · simp at hv

              injection hv with e1 e2 e3
              injection e1 with e1
              injection e1 with f1 f2
              have f1 := f1.symm
              subst f1 f2 e3
              rw [Nat.zero_add p]
              have hqc : (q : Int) ≤ (co : Int) := by omega
              have hkc : (k : Int) ≤ (co : Int) := by omega
              have rL : Reads Wq Wq.heap.size 1 (some ⟨g, 0, none⟩) k (vals L) := Reads.of_own OQ

              have rT := rL.takeV q hq
              have rT1 := rT.below BX1
              have rT2 := rT.below BX2
              have rT3 := rT.below BX3

              have hc0 : ¬ co = 0 := by
                rintro rfl
                have := (HKN.out (by omega)).1
                cases this

              clear hLk
              go_cut [6] from 31 to 41 (fun s wx => ∃ A5 c5, s = .slice A5 (q + 1) c5 ∧ Hid (wx.ownsRow Wq.heap.size 25 1 (.slice A5 (q + 1) c5) (q + 1) (vals (L.take q) ++ [.slice Av X.length cv])) ∧ Hid (Below Wq.heap.size Wq wx))
              case first =>
                go_region_held3 (fun W => W.cell? ⟨bX, oX + k, none⟩ = some (.slice Av X.length cv)) (go_keep) (first
                  | (refine append_step2 rfl (.tmp 31) (.tmp 34) _ _ rfl Wq.heap.size 25 25 Tryz.underlying50 Tryz.underlying50 info_row rfl (by omega) (some ⟨Wq.heap.size, 0, none⟩) 0 0 [] rfl ?_ Wq.heap.size (vals (L.take q)) rfl ?_ HONT.out (by omega) ?_ ?_
                     · exact own1
                     · exact rT1
                     · first | (simp; done) | (simp; omega)
                     intro A4 c4 w4 hown4 hg4 hb4 _; rw [Nat.zero_add q] at hown4 ⊢; rw [List.nil_append] at hown4; have k4 := (hb4.cell (p := ⟨bX, oX + k, none⟩) (by show bX < _; omega)).trans kx1; have hz4 : Wq.heap.size ≤ w4.heap.size := Nat.le_trans (by first | (simp; done) | (simp; omega)) hb4.size; have HB4 : Hid (Below Wq.heap.size Wq w4) := BX1.trans ⟨hb4.os, hb4.tape, hb4.output, hb4.size, hb4.block⟩)
                  | (refine append_step2 rfl (.tmp 31) (.tmp 34) _ _ rfl Wq.heap.size 25 25 Tryz.underlying50 Tryz.underlying50 info_row rfl (by omega) (some ⟨Wq.heap.size, 0, none⟩) 0 0 [] rfl ?_ Wq.heap.size (vals (L.take q)) rfl ?_ HONT.out (by omega) ?_ ?_
                     · exact own2
                     · exact rT2
                     · first | (simp; done) | (simp; omega)
                     intro A4 c4 w4 hown4 hg4 hb4 _; rw [Nat.zero_add q] at hown4 ⊢; rw [List.nil_append] at hown4; have k4 := (hb4.cell (p := ⟨bX, oX + k, none⟩) (by show bX < _; omega)).trans kx2; have hz4 : Wq.heap.size ≤ w4.heap.size := Nat.le_trans (by first | (simp; done) | (simp; omega)) hb4.size; have HB4 : Hid (Below Wq.heap.size Wq w4) := BX2.trans ⟨hb4.os, hb4.tape, hb4.output, hb4.size, hb4.block⟩; have rb4 := Reads.of_blk1 (w := w4) (g := (Wq.heap.size + 1)) (u := .slice Av X.length cv) (e := 25) ((hg4.block (Wq.heap.size + 1) bx2.lt (by simp [Value.ownBlock])).trans bx2))
                  | (refine append_step2 rfl (.tmp 31) (.tmp 34) _ _ rfl Wq.heap.size 25 25 Tryz.underlying50 Tryz.underlying50 info_row rfl (by omega) (some ⟨Wq.heap.size + 1, 0, none⟩) 0 0 [] rfl ?_ Wq.heap.size (vals (L.take q)) rfl ?_ HONT.out (by omega) ?_ ?_
                     · exact own3
                     · exact rT3
                     · first | (simp; done) | (simp; omega)
                     intro A4 c4 w4 hown4 hg4 hb4 _; rw [Nat.zero_add q] at hown4 ⊢; rw [List.nil_append] at hown4; have k4 := (hb4.cell (p := ⟨bX, oX + k, none⟩) (by show bX < _; omega)).trans kx3; have hz4 : Wq.heap.size ≤ w4.heap.size := Nat.le_trans (by first | (simp; done) | (simp; omega)) hb4.size; have HB4 : Hid (Below Wq.heap.size Wq w4) := BX3.trans ⟨hb4.os, hb4.tape, hb4.output, hb4.size, hb4.block⟩; have rb4 := Reads.of_blk1 (w := w4) (g := Wq.heap.size) (u := .slice Av X.length cv) (e := 25) ((hg4.block Wq.heap.size bx3.lt (by simp [Value.ownBlock])).trans bx3))
                  | (refine append_step2 rfl (.tmp 35) (.tmp 40) _ _ rfl Wq.heap.size 25 25 Tryz.underlying50 Tryz.underlying50 info_row rfl (by omega) A4 c4 q (vals (L.take q)) rfl ?_ w4.heap.size [.slice Av X.length cv] rfl ?_ (by simp [Value.oneCell']) (by omega) ?_ ?_
                     · exact hown4
                     · exact rb4
                     · exact hz4
                     intro A5 c5 w5 hown5 hg5 hb5 _; have k5 := (hb5.cell (p := ⟨bX, oX + k, none⟩) (by show bX < _; omega)).trans k4; have HB5 : Hid (Below Wq.heap.size Wq w5) := HB4.out.trans ⟨hb5.os, hb5.tape, hb5.output, hb5.size, hb5.block⟩)
                  | (refine append_step2 rfl (.tmp 35) (.tmp 40) _ _ rfl Wq.heap.size 25 25 Tryz.underlying50 Tryz.underlying50 info_row rfl (by omega) A4 c4 q (vals (L.take q)) rfl ?_ (w4.heap.size + 1) [.slice Av X.length cv] rfl ?_ (by simp [Value.oneCell']) (by omega) ?_ ?_
                     · exact World.ownsRow.alloc hown4 _
                     · exact Reads.box1 w4 _ _
                     · exact Nat.le_trans hz4 (by simp)
                     intro A5 c5 w5 hown5 hg5 hb5 _; have k5 := (hb5.cell (p := ⟨bX, oX + k, none⟩) (by show bX < _; omega)).trans ((((Below.refl w4.heap.size w4).alloc (Nat.le_refl _) (.cells #[.slice Av X.length cv] 25)).cell (p := ⟨bX, oX + k, none⟩) (by show bX < _; omega)).trans k4); have HB5 : Hid (Below Wq.heap.size Wq w5) := (HB4.out.alloc hz4 (.cells #[.slice Av X.length cv] 25)).trans ⟨hb5.os, hb5.tape, hb5.output, hb5.size, hb5.block⟩)
                  | fail)
                all_goals
                  go_wp2
                  go_meet
                  exact ⟨A5, c5, rfl, hown5, HB5⟩
              case rest =>
                obtain ⟨A5, c5, rfl, HO5, HB5⟩ := hcut
                by_cases hcq : co = q
                · have rD : Reads Wq Wq.heap.size 1 (some ⟨g, 0, none⟩) (k - q) (vals (L.drop q)) := ⟨by have := HLL.out; simp [vals]; omega, fun hp => by omega⟩
                  clear own1 own2 own3 BX1 BX2 BX3 kx0 kx1 kx2 kx3 bx2 bx3 rT1 rT2 rT3
                  go_wp2_with (first | (at_builtin; refine append_go rfl (.tmp 42) (.tmp 45) _ rfl Wq.heap.size 25 Tryz.underlying50 info_row rfl (by omega) A5 c5 (q + 1) (vals (L.take q) ++ [.slice Av X.length cv]) rfl HO5.out Wq.heap.size (vals (L.drop q)) rfl (rD.below HB5.out) HOND.out (by omega) HB5.out.size ?_; intro A6 c6 w6 hown6 _ hb6 _; have HB6 := Lib.hid ((HB5.out).trans hb6); have HO6 := Lib.hid hown6) | fail)
                  go_wp2
                  go_roundw
                  case rel => exact ⟨k + 1, A6, c6, by omega, by go_num, rfl, by rw [Hid, HS.out]; exact own_joinV HO6.out (by omega) hzq, BQ.trans (HB6.out.mono hzq), fun h => by omega⟩
                  case measure => simp [intOf]; omega
                · have rD : Reads Wq Wq.heap.size 1 (some ⟨g, q, none⟩) (k - q) (vals (L.drop q)) := by have := rL.dropV q hq; rwa [Nat.zero_add] at this
                  clear own1 own2 own3 BX1 BX2 BX3 kx0 kx1 kx2 kx3 bx2 bx3 rT1 rT2 rT3
                  go_wp2_with (first | (at_builtin; refine append_go rfl (.tmp 42) (.tmp 45) _ rfl Wq.heap.size 25 Tryz.underlying50 info_row rfl (by omega) A5 c5 (q + 1) (vals (L.take q) ++ [.slice Av X.length cv]) rfl HO5.out Wq.heap.size (vals (L.drop q)) rfl (rD.below HB5.out) HOND.out (by omega) HB5.out.size ?_; intro A6 c6 w6 hown6 _ hb6 _; have HB6 := Lib.hid ((HB5.out).trans hb6); have HO6 := Lib.hid hown6) | fail)
                  go_wp2
                  go_roundw
                  case rel => exact ⟨k + 1, A6, c6, by omega, by go_num, rfl, by rw [Hid, HS.out]; exact own_joinV HO6.out (by omega) hzq, BQ.trans (HB6.out.mono hzq), fun h => by omega⟩
                  case measure => simp [intOf]; omega
            · have HQ' : Hid (insK ltP (.slice Av X.length cv, X) L k = insK ltP (.slice Av X.length cv, X) L p) := by rw [Hid, HQ.out, HSTP.out]; rfl
              go_wp2
              go_roundw
              case rel => exact ⟨p, HQP.out.1, rfl, HQ', HO5, HW5⟩
              case measure => have := HQP.out.2; simp [intOf]; omega)
    · obtain rfl : k = ps.length := by omega
      rw [List.take_length] at HO
      go_wp2
      go_ret
      exact ⟨Ao, co, rfl, HO.out, HW.out⟩
end Go.Proofs.YtplgbapbgcipdaaGreatDoor

