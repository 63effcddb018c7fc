/-
  Texts of this claim, put together: HeapX, BurnI, Grid, Graph2.
-/
import Derived.Test.YtnbikkcalcpedaaGreatDoorK13
import Derived.Test.YtnbikkcalcpedaaGreatDoorK11
import Derived.Test.YtnbikkcalcpedaaGreatDoorK12
import Derived.Test.YtnbikkcalcpedaaGreatDoorK14
namespace Go.Proofs.YtnbikkcalcpedaaGreatDoor
open Go.RowKit
theorem own_lenH {w : World} {base : Nat} {A : Option Addr} {c : Nat} {xs : List Int} {n : Nat} (h : OwnI w base A c xs) (hn : xs.length = n) : w.ownsRow base 3 1 (.slice A n c) n (ints xs) := by subst hn; exact h
theorem UpI.push {H : List Int} {x : Int} {n : Nat} (hl : H.length = n) (h : HeapN H n) : UpI (H ++ [x]) (n + 1) n := by subst hl; exact UpI.start h
theorem assert_int (x : Int) (w : World) : (Instr.typeAssert (.iface 3 (.int .i64 x)) 20 3 false).run Tryz.prog w = .ok (.int .i64 x) w := by kernel_rfl
set_option maxHeartbeats 4000000 in
set_option maxRecDepth 100000 in
theorem qpush_any (b o base : Nat) (T : TypeId) (hT : 3 ≠ T) (cs : Array Value) (A : Option Addr) (c : Nat) (H : List Int) (n : Nat) (hn : H.length = n) (hn1 : n ≤ 1000) (x : Int) (w : World) (hO : OwnI w base A c H) (hbase : base ≤ w.heap.size) (hblk : Blk w b T cs) (hcs : cs[o]? = some (.slice A n c)) :
    Calls Tryz.prog 380 #[.pointer (some ⟨b, o, none⟩), .iface 3 (.int .i64 x)] w fun e w' => e = .returned (.tuple #[]) ∧ ∃ A' c', OwnI w' base A' c' (H ++ [x]) ∧ Blk w' b T (cs.setIfInBounds o (.slice A' (n + 1) c')) ∧ Only (fun k => ofA A k ∨ k = b) w w' ∧ (∀ k, ofA A' k → ofA A k ∨ w.heap.size ≤ k) := by
  have kc := (hblk.cell o).trans hcs
  have hfz := hblk.frozen o
  have hown := own_lenH hO hn
  have hblt := hblk.lt
  have hnb : ∀ k, blockOf A k → k ≠ b := fun k hk => own_blk hown hblk hT hk
  go_enter Tryz.func380, Tryz.ntmps380
  go_wp2_with fail
  have hta := fun w => assert_int x w
  have hol := hown.alloc (.cells #[.int .i64 x] 3)
  have kc1 : (w.alloc (.cells #[.int .i64 x] 3)).cell? ⟨b, o, none⟩ = some (.slice A n c) := ((hblk.alloc _).cell o).trans hcs
  go_region_law (refine append_step2 rfl (.tmp 7) (.tmp 10) _ _ rfl base 3 3 Tryz.underlying240 Tryz.underlying240 info_int rfl (by omega) A c n (ints H) rfl ?_ (w.heap.size + 1) [.int .i64 x] rfl ?_ (by simp [Value.oneCell']) (by omega) ?_ ?_
                 · exact hol
                 · exact Reads.box w _ _
                 · exact Nat.le_trans hbase (by simp)
                 intro A5 c5 w5 hown5 hg5 hb5 hd5
                 have b5 : Blk w5 b T cs := (hg5.block b (by simp; omega) (fun e => hnb b (blockOf_own.1 e.symm) rfl)).trans (hblk.alloc _)
                 have kc5 := (b5.cell o).trans hcs
                 have fz5 := b5.frozen o)
  all_goals (
    have O5 : Hid (OwnI (w5.setCell ⟨b, o, none⟩ (.slice A5 (n + 1) c5)) base A5 c5 (H ++ [x])) := by
      have h6 : OwnI w5 base A5 c5 (H ++ [x]) := by unfold OwnI; rw [List.length_append, hn, ints_snoc]; exact hown5
      exact own_kept h6 fun k hk => Below.heap_setCell w5 ⟨b, o, none⟩ _ k (own_blk h6 b5 hT hk)
    have D5 : Hid (∀ k, ofA A5 k → ofA A k ∨ w.heap.size ≤ k) := by
      intro k hk
      have hk2 : (Value.slice A5 (n + 1) c5).ownBlock = some k := blockOf_own.2 hk
      rcases hd5 with hd5 | hd5
      · rw [hd5] at hk2; exact .inl (blockOf_own.1 hk2)
      · rw [hd5] at hk2; injection hk2 with hk2; subst hk2; exact .inr (by simp)
    have W5 : Hid (Only (fun k => ofA A k ∨ k = b) w (w5.setCell ⟨b, o, none⟩ (.slice A5 (n + 1) c5))) := by
      have hz : w.heap.size + 1 ≤ w5.heap.size := Nat.le_trans (by simp) hg5.size
      refine ⟨hg5.os, hg5.tape, hg5.output, ?_, fun k hk hC => ?_⟩
      · show w.heap.size ≤ (w5.setCell ⟨b, o, none⟩ (.slice A5 (n + 1) c5)).heap.size
        simp only [World.setCell, Array.size_modify]; omega
      · refine (Below.heap_setCell w5 ⟨b, o, none⟩ _ k (fun e => hC (.inr e))).trans ((hg5.block k (by simp; omega) (fun e => hC (.inl (blockOf_own.1 e.symm)))).trans ?_)
        exact Below.heap_alloc w _ k hk
    go_wp2
    exact bodyPost_end (results_none rfl _ _ _) rfl ⟨rfl, A5, c5, O5.out, b5.set_ o _, W5.out, D5.out⟩)
theorem Only.trans2 {C D : Nat → Prop} {w w1 w2 : World} (h1 : Only C w w1) (h2 : Only D w1 w2) (hD : ∀ k, k < w.heap.size → D k → C k) : Only C w w2 :=
  ⟨h2.os.trans h1.os, h2.tape.trans h1.tape, h2.output.trans h1.output, Nat.le_trans h1.size h2.size, fun k hk hC => (h2.block k (Nat.lt_of_lt_of_le hk h1.size) (fun hd => hC (hD k hk hd))).trans (h1.block k hk hC)⟩
theorem qlen_any (A : Option Addr) (n c : Nat) (w : World) : Calls Tryz.prog 326 #[.slice A n c] w fun e w' => e = .returned (.int .i64 n) ∧ w = w' := by
  go_enter Tryz.func326, Tryz.ntmps326
  go_wp2
  go_ret
  exact ⟨rfl, rfl⟩
set_option maxHeartbeats 4000000 in
set_option maxRecDepth 100000 in
theorem hpush_any (b o base : Nat) (T : TypeId) (hT : 3 ≠ T) (cs : Array Value) (hos : o < cs.size) (A : Option Addr) (c : Nat) (H : List Int) (n : Nat) (hn : H.length = n) (hn1 : n ≤ 900) (hH : HeapN H n) (x : Int) (w : World) (hO : OwnI w base A c H) (hbase : base ≤ w.heap.size) (hblk : Blk w b T cs) (hcs : cs[o]? = some (.slice A n c)) :
    Calls Tryz.prog 348 #[.iface 355 (.pointer (some ⟨b, o, none⟩)), .iface 3 (.int .i64 x)] w fun e w' => e = .returned (.tuple #[]) ∧ ∃ A' c' H', H'.length = n + 1 ∧ H'.Perm (x :: H) ∧ HeapN H' (n + 1) ∧ OwnI w' base A' c' H' ∧ Blk w' b T (cs.setIfInBounds o (.slice A' (n + 1) c')) ∧ Only (fun k => ofA A k ∨ k = b) w w' ∧ (∀ k, ofA A' k → ofA A k ∨ w.heap.size ≤ k) := by
  have mP : ∀ k, (method (k + 1) 355 (.pointer (some ⟨b, o, none⟩)) "Push").run Tryz.prog w = .ok (380, .pointer (some ⟨b, o, none⟩)) w := fun k => run_method_own ml_push Tryz.underlying355 k _ _
  have PC := Lib.hid (qpush_any b o base T hT cs A c H n hn (by omega) x w hO hbase hblk hcs)
  have HUP := Lib.hid (UpI.push (x := x) hn hH)
  have HL : Hid ((H ++ [x]).length = n + 1) := by rw [Hid, List.length_append, hn]; rfl
  have HPM : Hid ((H ++ [x]).Perm (x :: H)) := List.perm_append_comm
  have HBL := Lib.hid hblk.lt
  have HOS := Lib.hid hos
  clear hH hn hO hblk hcs
  go_enter Tryz.func348, Tryz.ntmps348
  go_wp2_with fail
  refine (PC.out).mono ?_
  rintro e w1 ⟨rfl, A1, c1, o1, b1, W1, D1⟩
  have hc1 : (cs.setIfInBounds o (.slice A1 (n + 1) c1))[o]? = some (.slice A1 (n + 1) c1) := by
    rw [Array.getElem?_setIfInBounds, if_pos rfl, if_pos HOS.out]
  have kc := (b1.cell o).trans hc1
  have hba : ¬ ofA A1 b := fun hk => own_blk (own_lenH o1 HL.out) b1 hT hk rfl
  have mN : ∀ k, (method (k + 1) 355 (.pointer (some ⟨b, o, none⟩)) "Len").run Tryz.prog w1 = .ok (326, .slice A1 (n + 1) c1) w1 := fun k => run_method_ptr ml_len Tryz.underlying355 ml_agg k _ _ _ kc
  have hw1 : IntKind.i64.wrap ((n : Int) + 1 - 1) = (n : Int) := by rw [IntWalk.i64_in _ (by omega)]; omega
  have hw2 : ((n : Int) + 1 - 1) = (n : Int) := by omega
  have UC := Lib.hid (up_any b o base T (cs.setIfInBounds o (.slice A1 (n + 1) c1)) A1 c1 (H ++ [x]) (n + 1) HL.out (by omega) n HUP.out w1 o1 b1 hc1 hba)
  have B1 := Lib.hid b1
  have D1 := Lib.hid D1
  have W1 := Lib.hid W1
  clear mP kc b1 hc1
  go_wp2_with fail
  refine (qlen_any _ _ _ _).mono ?_
  rintro e w9 ⟨rfl, rfl⟩
  go_wp2_with fail
  refine (UC.out).mono ?_
  rintro e w2 ⟨rfl, H2, l2, p2, h2, o2, W2⟩
  have HF : Hid (Blk w2 b T (cs.setIfInBounds o (.slice A1 (n + 1) c1)) ∧ Only (fun k => ofA A k ∨ k = b) w w2) := ⟨B1.out.only W2 hba, W1.out.trans2 W2 fun k hk hd => by
    rcases D1.out k hd with h | h
    · exact .inl h
    · omega⟩
  go_wp2
  exact bodyPost_end (results_none rfl _ _ _) rfl ⟨rfl, A1, c1, H2, l2, p2.trans HPM.out, h2, o2, HF.out.1, HF.out.2, D1.out⟩
set_option maxHeartbeats 4000000 in
set_option maxRecDepth 100000 in
theorem qpop_any (b o base : Nat) (T : TypeId) (hT : 3 ≠ T) (cs : Array Value) (A : Option Addr) (c : Nat) (H : List Int) (n : Nat) (hn : H.length = n + 1) (hn1 : n ≤ 1000) (w : World) (hO : OwnI w base A c H) (hblk : Blk w b T cs) (hcs : cs[o]? = some (.slice A (n + 1) c)) :
    Calls Tryz.prog 379 #[.pointer (some ⟨b, o, none⟩)] w fun e w' => e = .returned (.iface 3 (.int .i64 (hp H n))) ∧ OwnI w' base A c (H.take n) ∧ Blk w' b T (cs.setIfInBounds o (.slice A n c)) ∧ Only (fun k => k = b) w w' := by
  obtain ⟨g, hA, hg, hfr, hce⟩ := hO.block (by omega)
  subst hA
  have hcap := hO.cap
  have kc := (hblk.cell o).trans hcs
  have fz := hblk.frozen o
  have cn := hce n _ (hp_at (by omega))
  have hgb : g ≠ b := own_blk (own_lenH hO hn) hblk hT ⟨_, rfl, rfl⟩
  have hw1 : IntKind.i64.wrap (((n + 1 : Nat) : Int) - 1) = (n : Int) := by rw [IntWalk.i64_in _ (by omega)]; omega
  have hw2 : IntKind.i64.wrap ((n : Int) + 1 - 1) = (n : Int) := by rw [IntWalk.i64_in _ (by omega)]; omega
  have hn0 : (0 : Int) ≤ (n : Int) := by omega
  have hn2 : (n : Int) < (n : Int) + 1 := by omega
  have hn3 : (n : Int) ≤ (c : Int) := by omega
  have hc0 : ¬ c = 0 := by omega
  have HO := Lib.hid (hO.cut n (by omega))
  have HBK := Lib.hid hblk
  obtain ⟨y, hy⟩ : ∃ y, hp H n = y := ⟨_, rfl⟩
  rw [hy] at cn ⊢
  clear hfr hce hy hO hblk hcs hcap hn
  go_enter Tryz.func379, Tryz.ntmps379
  go_wp2
  go_ret
  exact ⟨rfl, own_kept HO.out fun k hk => Below.heap_setCell w ⟨b, o, none⟩ _ k (by obtain ⟨a, ha, hk⟩ := hk; injection ha with ha; subst ha; subst hk; exact hgb), HBK.out.set_ o _, Only.setCell (C := fun k => k = b) (Only.refl _ w) (p := ⟨b, o, none⟩) (.inl rfl) _⟩
set_option maxHeartbeats 4000000 in
set_option maxRecDepth 100000 in
theorem hpop_any (b o base : Nat) (T : TypeId) (hT : 3 ≠ T) (cs : Array Value) (A : Option Addr) (c : Nat) (H : List Int) (n : Nat) (hn : H.length = n + 1) (hn1 : n ≤ 900) (hH : HeapN H (n + 1)) (w : World) (hO : OwnI w base A c H) (hblk : Blk w b T cs) (hcs : cs[o]? = some (.slice A (n + 1) c)) :
    Calls Tryz.prog 327 #[.iface 355 (.pointer (some ⟨b, o, none⟩))] w fun e w' => ∃ (x : Int) (H' : List Int), e = .returned (.iface 3 (.int .i64 x)) ∧ H'.length = n ∧ (x :: H').Perm H ∧ (∀ y ∈ H, x ≤ y) ∧ HeapN H' n ∧ OwnI w' base A c H' ∧ Blk w' b T (cs.setIfInBounds o (.slice A n c)) ∧ Only (fun k => ofA A k ∨ k = b) w w' := by
  have kc := (hblk.cell o).trans hcs
  have hba : ¬ ofA A b := fun hk => own_blk (own_lenH hO hn) hblk hT hk rfl
  have hw1 : IntKind.i64.wrap (((n + 1 : Nat) : Int) - 1) = (n : Int) := by rw [IntWalk.i64_in _ (by omega)]; omega
  have hw2 : IntKind.i64.wrap ((n : Int) + 1 - 1) = (n : Int) := by rw [IntWalk.i64_in _ (by omega)]; omega
  have hw3 : (n : Int) + 1 - 1 = (n : Int) := by omega
  have SC := Lib.hid (qswap_any base A c H (n + 1) hn 0 n (by omega) (by omega) w hO)
  have mN : ∀ k, (method (k + 1) 355 (.pointer (some ⟨b, o, none⟩)) "Len").run Tryz.prog w = .ok (326, .slice A (n + 1) c) w := fun k => run_method_ptr ml_len Tryz.underlying355 ml_agg k _ _ _ kc
  have mS : ∀ k, (method (k + 1) 355 (.pointer (some ⟨b, o, none⟩)) "Swap").run Tryz.prog w = .ok (377, .slice A (n + 1) c) w := fun k => run_method_ptr ml_swap Tryz.underlying355 ml_agg k _ _ _ kc
  have HDN := Lib.hid (DnI.start hH hn)
  have HSL : Hid ((swp H 0 n).length = n + 1) := by rw [Hid, swp_length, hn]
  have HSP := Lib.hid (swp_perm (H := H) (i := 0) (j := n) (by omega) (by omega))
  have HSN : Hid (hp (swp H 0 n) n = hp H 0) := by rw [Hid, hp_swp (by omega) (by omega), if_pos rfl]
  have HMN : Hid (∀ y ∈ H, hp H 0 ≤ y) := fun y hy => by
    obtain ⟨k, hk⟩ := List.getElem?_of_mem hy
    have hkl := (List.getElem?_eq_some_iff.1 hk).1
    have h1 := heap_min hH k (by omega)
    rw [hp_at hkl] at hk
    injection hk with hk
    omega
  have HCS := Lib.hid hcs
  clear hH hn hO kc hcs
  go_enter Tryz.func327, Tryz.ntmps327
  go_wp2_with fail
  refine (qlen_any _ _ _ _).mono ?_
  rintro e w9 ⟨rfl, rfl⟩
  go_wp2_with fail
  refine (SC.out).mono ?_
  rintro e w1 ⟨rfl, o1, W1⟩
  have b1 := hblk.only W1 hba
  have DC := Lib.hid (down_any b o base T cs A c (swp H 0 n) (n + 1) n HSL.out (by omega) (by omega) HDN.out w1 o1 b1 HCS.out hba)
  have W1 := Lib.hid W1
  clear mN mS
  go_wp2_with fail
  refine (DC.out).mono ?_
  rintro e w2 ⟨bb, rfl, H2, l2, p2, h2, o2, W2, t2⟩
  have b2 := b1.only W2 hba
  have QC := Lib.hid (qpop_any b o base T hT cs A c H2 n l2 (by omega) w2 o2 b2 HCS.out)
  have mP : ∀ k, (method (k + 1) 355 (.pointer (some ⟨b, o, none⟩)) "Pop").run Tryz.prog w2 = .ok (379, .pointer (some ⟨b, o, none⟩)) w2 := fun k => run_method_own ml_pop Tryz.underlying355 k _ _
  have HX : Hid (hp H2 n = hp H 0) := (t2 n (Nat.le_refl _)).trans HSN.out
  have HPM : Hid ((hp H 0 :: H2.take n).Perm H) := by
    have e1 : H2 = H2.take n ++ [hp H2 n] := by
      have := List.take_append_drop n H2
      have hd : H2.drop n = [hp H2 n] := by
        rw [List.drop_eq_getElem_cons (by omega), List.drop_eq_nil_of_le (by omega)]
        unfold hp; rw [List.getD_eq_getElem?_getD, List.getElem?_eq_getElem (by omega)]; rfl
      rw [hd] at this; exact this.symm
    have h3 : (hp H2 n :: H2.take n).Perm H2 := by
      conv => rhs; rw [e1]
      exact (List.perm_append_singleton _ _).symm
    rw [HX.out] at h3
    exact h3.trans (p2.trans HSP.out)
  have HHP : Hid (HeapN (H2.take n) n) := heap_take h2 (by omega)
  have HTL : Hid ((H2.take n).length = n) := by rw [Hid, List.length_take]; omega
  have W2 := Lib.hid (W1.out.trans W2)
  clear l2 p2 h2 t2 o2
  go_wp2_with fail
  refine (QC.out).mono ?_
  rintro e w3 ⟨rfl, o3, b3, W3⟩
  have HW3 : Hid (Only (fun k => ofA A k ∨ k = b) w w3) := (W2.out.mono fun _ _ h => .inl h).trans2 W3 fun k _ hk => .inr hk
  go_wp2
  go_ret
  exact ⟨hp H 0, H2.take n, by rw [← HX.out]; rfl, HTL.out, HPM.out, HMN.out, HHP.out, o3, b3, HW3.out⟩
end Go.Proofs.YtnbikkcalcpedaaGreatDoor
namespace Go.Proofs.YtnbikkcalcpedaaGreatDoor
def fire0 (n : Nat) : FireS := ⟨[], [], [], List.replicate n 0⟩
structure BurnI (E : List (Nat × Nat)) (lit : Nat → Nat → Int → Bool) (n q : Nat) (s : FireS) (H : List Int) : Prop where
  wait : ∃ L, H.Perm (nI L) ∧ Wait E s L
  heap : HeapN H H.length
  run : ∃ k, k ≤ E.length ∧ s = runF E lit k (fire1 n q)
  nodup : s.order.Nodup
  lt : ∀ v ∈ s.order, v < n
theorem burnI_start {E : List (Nat × Nat)} {lit : Nat → Nat → Int → Bool} {n q : Nat} {H1 : List Int} (hq : q < n) (p1 : H1.Perm ([] ++ nI (newL E ((fire0 n).order ++ [q]) q E.length))) (h1 : HeapN H1 H1.length) : BurnI E lit n q (fire1 n q) H1 := by
  refine ⟨⟨newL E ((fire0 n).order ++ [q]) q E.length, by simpa using p1, ?_⟩, h1, ⟨0, by omega, rfl⟩, by simp [fire1], by simpa [fire1] using hq⟩
  refine Wait.take (s := fire0 n) (s2 := fire1 n q) (H := []) rfl rfl ⟨by simp [fire1], by simp [fire1], by simp [fire1]⟩ (by simp [fire0]) (by simp) (by simp) (by simp) (by simp) ?_ (by simp [fire0]) (by simp)
  intro e _ hc
  simp [candB, fire0] at hc
theorem pop_perm {H H6 : List Int} {L : List Nat} {e : Nat} (h : ((e : Int) :: H6).Perm H) (hp : H.Perm (nI L)) (he : e ∈ L) : H6.Perm (nI (L.erase e)) ∧ (e :: L.erase e).Perm L := by
  have h1 := (List.perm_cons_erase he)
  have h2 : (nI L).Perm (nI (e :: L.erase e)) := h1.map _
  exact ⟨((h.trans hp).trans h2).cons_inv, h1.symm⟩
theorem BurnI.stale {E : List (Nat × Nat)} {lit : Nat → Nat → Int → Bool} {n q e : Nat} {s : FireS} {H H6 : List Int} {L : List Nat} (h : BurnI E lit n q s H) (hp : H.Perm (nI L)) (hw : Wait E s L) (he : e ∈ L) (h6 : ((e : Int) :: H6).Perm H) (hh : HeapN H6 H6.length) (hc : candB E s e = false) : BurnI E lit n q s H6 := by
  obtain ⟨h1, h2⟩ := pop_perm h6 hp he
  exact ⟨⟨_, h1, hw.stale h2 hc⟩, hh, h.run, h.nodup, h.lt⟩
section
variable {E : List (Nat × Nat)} {lit : Nat → Nat → Int → Bool} {n q e v : Nat} {s : FireS} {H H6 : List Int} {L : List Nat}
theorem BurnI.fi (h : BurnI E lit n q s H) (hb : BdP n E) (hq : q < n) : FI E n q s := by
  obtain ⟨k, _, rfl⟩ := h.run
  exact run_inv (fun _ _ h hn => h.one hb hn) _ _ (.start hq)
theorem BurnI.next (hw : Wait E s L) (hp : H.Perm (nI L)) (he : e ∈ L) (hm : ∀ y ∈ H, (e : Int) ≤ y) (hc : candB E s e = true) : nextF E s = some e := by
  rcases hw.least he (fun f hf => by have := hm f (hp.mem_iff.2 (List.mem_map.2 ⟨f, hf, rfl⟩)); omega) with ⟨_, _, h⟩ | h
  · rw [h] at hc; cases hc
  · exact h
theorem BurnI.run1 (h : BurnI E lit n q s H) (hb : BdP n E) (hq : q < n) (hn : nextF E s = some e) : ∃ k, k ≤ E.length ∧ burnOne lit s e (leadV E s e) = runF E lit k (fire1 n q) := by
  obtain ⟨k, hk, rfl⟩ := h.run
  refine ⟨k + 1, ?_, by rw [runF_succ, run_next hn]⟩
  rcases Nat.lt_or_ge k E.length with h1 | h1
  · exact h1
  · obtain rfl : k = E.length := by omega
    rw [(FI.run (lit := lit) hb hq).2] at hn; cases hn
theorem BurnI.one (h : BurnI E lit n q s H) (hb : BdP n E) (hq : q < n) (hn : nextF E s = some e) (hw : ∃ L, H6.Perm (nI L) ∧ Wait E (burnOne lit s e (leadV E s e)) L) (hh : HeapN H6 H6.length) : BurnI E lit n q (burnOne lit s e (leadV E s e)) H6 := by
  have hf := (h.fi hb hq).one (lit := lit) hb hn
  exact ⟨hw, hh, h.run1 hb hq hn, hf.ond, hf.olt⟩
theorem BurnI.dark (h : BurnI E lit n q s H) (hb : BdP n E) (hq : q < n) (hp : H.Perm (nI L)) (hw : Wait E s L) (he : e ∈ L) (h6 : ((e : Int) :: H6).Perm H) (hm : ∀ y ∈ H, (e : Int) ≤ y) (hh : HeapN H6 H6.length) (hc : candB E s e = true) (hv : leadV E s e = v) (hl : lit v e (s.times.getD v 0) = false) :
    BurnI E lit n q ({ steps := s.steps ++ [e], order := s.order, tree := s.tree, times := s.times.set v (s.times.getD v 0 + 1) } : FireS) H6 := by
  have hn := BurnI.next hw hp he hm hc
  obtain ⟨h1, h2⟩ := pop_perm h6 hp he
  subst hv
  have := h.one hb hq hn ⟨_, h1, hw.dark h2 hc hl⟩ hh
  have e1 : burnOne lit s e (leadV E s e) = { steps := s.steps ++ [e], order := s.order, tree := s.tree, times := s.times.set (leadV E s e) (s.times.getD (leadV E s e) 0 + 1) } := by unfold burnOne; rw [hl, if_neg (by decide)]
  rw [e1] at this
  exact this
theorem BurnI.light {H7 : List Int} (h : BurnI E lit n q s H) (hb : BdP n E) (hq : q < n) (hp : H.Perm (nI L)) (hw : Wait E s L) (he : e ∈ L) (h6 : ((e : Int) :: H6).Perm H) (hm : ∀ y ∈ H, (e : Int) ≤ y) (hc : candB E s e = true) (hv : leadV E s e = v) (hl : lit v e (s.times.getD v 0) = true)
    (h7 : H7.Perm (H6 ++ nI (newL E (s.order ++ [v]) v E.length))) (hh : HeapN H7 H7.length) :
    BurnI E lit n q ({ steps := s.steps ++ [e], order := s.order ++ [v], tree := s.tree ++ [e], times := s.times } : FireS) H7 := by
  have hn := BurnI.next hw hp he hm hc
  obtain ⟨h1, h2⟩ := pop_perm h6 hp he
  subst hv
  have hnd := h2.nodup_iff.2 hw.nodup
  rw [List.nodup_cons] at hnd
  have e1 : burnOne lit s e (leadV E s e) = { steps := s.steps ++ [e], order := s.order ++ [leadV E s e], tree := s.tree ++ [e], times := s.times } := by unfold burnOne; rw [hl, if_pos rfl]
  have hok := hw.ok.one (lit := lit) (v := leadV E s e) (hw.lt e he) hc
  have := h.one hb hq hn ⟨L.erase e ++ newL E (s.order ++ [leadV E s e]) (leadV E s e) E.length, by
    refine h7.trans ?_
    have : nI (L.erase e ++ newL E (s.order ++ [leadV E s e]) (leadV E s e) E.length) = nI (L.erase e) ++ nI (newL E (s.order ++ [leadV E s e]) (leadV E s e) E.length) := List.map_append
    rw [this]
    exact h1.append_right _, ?_⟩ hh
  · rw [e1] at this; exact this
  · -- the state in between: e among the steps
    rw [e1] at hok ⊢
    refine Wait.take (s := { steps := s.steps ++ [e], order := s.order, tree := s.tree, times := s.times }) (s2 := { steps := s.steps ++ [e], order := s.order ++ [leadV E s e], tree := s.tree ++ [e], times := s.times }) rfl rfl hok (show leadV E s e ∉ s.order from lead_new hc) hnd.2
      (fun f hf => hw.lt f (h2.mem_iff.1 (by simp [hf]))) (fun f hf => ?_) (fun f hf => hw.ends f (h2.mem_iff.1 (by simp [hf]))) (fun f hf hcf => ?_) (fun f hf => ?_) (List.Perm.refl _)
    · intro h3
      rcases List.mem_append.1 h3 with h3 | h3
      · exact hw.new f (h2.mem_iff.1 (by simp [hf])) h3
      · rw [List.mem_singleton] at h3; subst h3; exact hnd.1 hf
    · obtain ⟨c1, c2⟩ := cand_iff.1 hcf
      have hcf' : candB E s f = true := cand_iff.2 ⟨fun h => c1 (List.mem_append_left _ h), c2⟩
      rcases List.mem_cons.1 (h2.mem_iff.2 (hw.all f hf hcf')) with rfl | h3
      · exact absurd (by simp) c1
      · exact h3
    · rcases List.mem_append.1 hf with hf | hf
      · exact hw.ok.ends f hf
      · rw [List.mem_singleton] at hf; subst hf; exact cand_end (s := s) hc
theorem BurnI.done (h : BurnI E lit n q s []) : runF E lit E.length (fire1 n q) = s := by
  obtain ⟨L, hp, hw⟩ := h.wait
  have hL : L = [] := by
    have := hp.length_eq
    rw [nI, List.length_map] at this
    exact List.eq_nil_of_length_eq_zero this.symm
  subst hL
  obtain ⟨k, hk, hs⟩ := h.run
  exact run_all hs hk hw.end_
end
end Go.Proofs.YtnbikkcalcpedaaGreatDoor
namespace Go.Proofs.YtnbikkcalcpedaaGreatDoor
open Go.RowKit
end Go.Proofs.YtnbikkcalcpedaaGreatDoor
namespace Go.Proofs.YtnbikkcalcpedaaGreatDoor
open Go.RowKit
set_option maxHeartbeats 400000 in
theorem rvertex_any (n v : Int) (A : Option Addr) (k c : Nat) (w : World) :
    Calls Tryz.prog 151 #[.agg #[.int .i64 n, .slice A k c], .int .i64 v] w fun e w' => e = .returned (.bool (vertB n v)) ∧ w.alloc (.cells #[.int .i64 n, .slice A k c] 24) = w' := by
  go_enter Tryz.func151, Tryz.ntmps151
  go_wp2
  all_goals (go_ret; exact ⟨by simp only [vertB]; simp [*]; try omega, rfl⟩)
theorem redge_cases (n : Int) (p : Option E3) (e : E3) :
    (vertB n e.1 = false ∧ edgeErr n p e = 2) ∨ (vertB n e.1 = true ∧ vertB n e.2.1 = false ∧ edgeErr n p e = 2) ∨
    (vertB n e.1 = true ∧ vertB n e.2.1 = true ∧ e.2.2 < 1 ∧ edgeErr n p e = 2) ∨ (vertB n e.1 = true ∧ vertB n e.2.1 = true ∧ 50 < e.2.2 ∧ ¬ e.2.2 < 1 ∧ edgeErr n p e = 2) ∨
    (vertB n e.1 = true ∧ vertB n e.2.1 = true ∧ ¬ e.2.2 < 1 ∧ ¬ 50 < e.2.2 ∧ e.2.1 < e.1 ∧ edgeErr n p e = 9) ∨
    (vertB n e.1 = true ∧ vertB n e.2.1 = true ∧ ¬ e.2.2 < 1 ∧ ¬ 50 < e.2.2 ∧ ¬ e.2.1 < e.1 ∧ edgeErr n p e = match p with | none => 0 | some y => if e.1 < y.1 ∨ (e.1 = y.1 ∧ e.2.1 ≤ y.2.1) then 9 else 0) := by
  have v1 := vertB_true (n := n) (v := e.1)
  have v2 := vertB_true (n := n) (v := e.2.1)
  cases g1 : vertB n e.1
  · refine .inl ⟨rfl, ?_⟩
    rw [vertB_false] at g1
    unfold edgeErr; rw [if_pos (by omega)]
  rw [g1] at v1
  have v1 := v1.1 rfl
  cases g2 : vertB n e.2.1
  · refine .inr (.inl ⟨rfl, rfl, ?_⟩)
    rw [vertB_false] at g2
    unfold edgeErr; rw [if_pos (by omega)]
  rw [g2] at v2
  have v2 := v2.1 rfl
  by_cases h1 : e.2.2 < 1
  · refine .inr (.inr (.inl ⟨rfl, rfl, h1, ?_⟩))
    unfold edgeErr; rw [if_pos (by omega)]
  by_cases h2 : 50 < e.2.2
  · refine .inr (.inr (.inr (.inl ⟨rfl, rfl, h2, h1, ?_⟩)))
    unfold edgeErr; rw [if_pos (by omega)]
  by_cases h4 : e.2.1 < e.1
  · refine .inr (.inr (.inr (.inr (.inl ⟨rfl, rfl, h1, h2, h4, ?_⟩))))
    unfold edgeErr; rw [if_neg (by omega), if_pos h4]
  · refine .inr (.inr (.inr (.inr (.inr ⟨rfl, rfl, h1, h2, h4, ?_⟩))))
    unfold edgeErr; rw [if_neg (by omega), if_neg h4]; cases p <;> rfl
set_option maxRecDepth 100000 in
set_option maxHeartbeats 4000000 in
theorem redge_any (n : Int) (A : Option Addr) (c : Nat) (es : List E3) (hn : es.length ≤ 1048576) (k : Nat) (e : E3) (hx : es[k]? = some e) (w : World) (h : Reads w w.heap.size 3 A es.length (edgeCells es)) :
    Calls Tryz.prog 162 #[.agg #[.int .i64 n, .slice A es.length c], .int .i64 k] w fun e' w' => e' = .returned (.int .i64 (edgeErr n (prevOf es k) e)) ∧ Below w.heap.size w w' := by
  have hcs := redge_cases n (prevOf es k) e
  have hlt := (List.getElem?_eq_some_iff.1 hx).1
  obtain ⟨r, hr⟩ : ∃ r, edgeErr n (prevOf es k) e = r := ⟨_, rfl⟩
  rw [hr] at hcs ⊢
  have HR := Lib.hid hr
  clear hr
  obtain ⟨a, b, m⟩ := e
  obtain ⟨bb, off, rfl, hb, q1, q2, q3⟩ := h.edge hx
  have HX := Lib.hid hx
  have H := Lib.hid h
  have hi : (k : Int) < (es.length : Int) := by omega
  dsimp only at hcs q1 q2 q3
  clear hx h
  rcases hcs with ⟨v1, rfl⟩ | ⟨v1, v2, rfl⟩ | ⟨v1, v2, h3, rfl⟩ | ⟨v1, v2, h3, h4, rfl⟩ | ⟨v1, v2, h3, h4, h5, rfl⟩ | ⟨v1, v2, h3, h4, h5, hE⟩
  · go_enter Tryz.func162, Tryz.ntmps162
    go_wp2_with (go_at_call 151; refine (rvertex_any _ _ _ _ _ _).mono ?_; rintro e w' ⟨rfl, rfl⟩)
    go_ret
    refine ⟨rfl, ?_⟩
    repeat first | exact Below.refl _ _ | refine Below.alloc ?_ (by first | exact Nat.le_refl _ | (simp; done) | (simp; omega)) _
  · go_enter Tryz.func162, Tryz.ntmps162
    go_wp2_with (go_at_call 151; refine (rvertex_any _ _ _ _ _ _).mono ?_; rintro e w' ⟨rfl, rfl⟩)
    go_ret
    refine ⟨rfl, ?_⟩
    repeat first | exact Below.refl _ _ | refine Below.alloc ?_ (by first | exact Nat.le_refl _ | (simp; done) | (simp; omega)) _
  · go_enter Tryz.func162, Tryz.ntmps162
    go_wp2_with (go_at_call 151; refine (rvertex_any _ _ _ _ _ _).mono ?_; rintro e w' ⟨rfl, rfl⟩)
    go_ret
    refine ⟨rfl, ?_⟩
    repeat first | exact Below.refl _ _ | refine Below.alloc ?_ (by first | exact Nat.le_refl _ | (simp; done) | (simp; omega)) _
  · go_enter Tryz.func162, Tryz.ntmps162
    go_wp2_with (go_at_call 151; refine (rvertex_any _ _ _ _ _ _).mono ?_; rintro e w' ⟨rfl, rfl⟩)
    go_ret
    refine ⟨rfl, ?_⟩
    repeat first | exact Below.refl _ _ | refine Below.alloc ?_ (by first | exact Nat.le_refl _ | (simp; done) | (simp; omega)) _
  · go_enter Tryz.func162, Tryz.ntmps162
    go_wp2_with (go_at_call 151; refine (rvertex_any _ _ _ _ _ _).mono ?_; rintro e w' ⟨rfl, rfl⟩)
    go_ret
    refine ⟨rfl, ?_⟩
    repeat first | exact Below.refl _ _ | refine Below.alloc ?_ (by first | exact Nat.le_refl _ | (simp; done) | (simp; omega)) _
  · rcases k with _ | k
    · have hE' : r = 0 := by rw [hE]; simp [prevOf]
      subst hE'
      clear hE
      rw [show ((0 : Nat) : Int) = 0 from rfl] at hi ⊢
      simp only [Nat.zero_mul, Nat.add_zero] at q1 q2 q3
      go_enter Tryz.func162, Tryz.ntmps162
      go_wp2_with (go_at_call 151; refine (rvertex_any _ _ _ _ _ _).mono ?_; rintro e w' ⟨rfl, rfl⟩)
      go_ret
      refine ⟨rfl, ?_⟩
      repeat first | exact Below.refl _ _ | refine Below.alloc ?_ (by first | exact Nat.le_refl _ | (simp; done) | (simp; omega)) _
    · obtain ⟨⟨a1, b1, m1⟩, hy⟩ := get_of_lt (xs := es) (k := k) (by omega)
      obtain ⟨bb', off', hA', hb', p1, p2, p3⟩ := H.out.edge hy
      injection hA' with hA'; injection hA' with e1 e2; subst e1 e2
      have hE' : r = if a < a1 ∨ (a = a1 ∧ b ≤ b1) then 9 else 0 := by rw [hE, prevOf_succ, hy]
      rw [show ((k + 1 : Nat) : Int) = (k : Int) + 1 from by omega] at hi ⊢
      have hk1 : ((k : Int) + 1 - 1) = (k : Int) := by omega
      have hk2 : 0 < (k : Int) + 1 := by omega
      have hk3 : (k : Int) < (es.length : Int) := by omega
      have h6 : (a = a1 ↔ a = a1) := Iff.rfl
      clear hE hy H h6
      dsimp only at p1 p2 p3
      have hb4 : Below w.heap.size w ((((w.alloc (.cells #[.int .i64 n, .slice (some ⟨bb, off, none⟩) es.length c] 24)).alloc (.cells #[.int .i64 a, .int .i64 b, .int .i64 m] 107)).alloc (.cells #[.int .i64 n, .slice (some ⟨bb, off, none⟩) es.length c] 24)).alloc (.cells #[.int .i64 n, .slice (some ⟨bb, off, none⟩) es.length c] 24)) :=
        ((((Below.refl _ _).alloc (Nat.le_refl _) _).alloc (by simp) _).alloc (by simp; omega) _).alloc (by simp; omega) _
      have P1 := (hb4.cell (p := ⟨bb, off + k * 3, none⟩) hb').trans p1
      have P2 := (hb4.cell (p := ⟨bb, off + k * 3 + 1, none⟩) hb').trans p2
      have P3 := (hb4.cell (p := ⟨bb, off + k * 3 + 1 + 1, none⟩) hb').trans p3
      clear hb4
      by_cases g1 : a < a1
      · rw [if_pos (.inl g1)] at hE'
        subst hE'
        have hd1 : decide (a < a1) = true := decide_eq_true g1
        go_enter Tryz.func162, Tryz.ntmps162
        go_wp2_with (go_at_call 151; refine (rvertex_any _ _ _ _ _ _).mono ?_; rintro e w' ⟨rfl, rfl⟩)
        go_ret
        refine ⟨rfl, ?_⟩
        repeat first | exact Below.refl _ _ | refine Below.alloc ?_ (by first | exact Nat.le_refl _ | (simp; done) | (simp; omega)) _
      · have hd1 : decide (a < a1) = false := decide_eq_false g1
        by_cases g2 : a = a1
        · subst g2
          have hd2 : (a == a) = true := by simp
          by_cases g3 : b ≤ b1
          · rw [if_pos (.inr ⟨rfl, g3⟩)] at hE'
            subst hE'
            have hd3 : decide (b ≤ b1) = true := decide_eq_true g3
            go_enter Tryz.func162, Tryz.ntmps162
            go_wp2_with (go_at_call 151; refine (rvertex_any _ _ _ _ _ _).mono ?_; rintro e w' ⟨rfl, rfl⟩)
            go_ret
            refine ⟨rfl, ?_⟩
            repeat first | exact Below.refl _ _ | refine Below.alloc ?_ (by first | exact Nat.le_refl _ | (simp; done) | (simp; omega)) _
          · rw [if_neg (by omega)] at hE'
            subst hE'
            have hd3 : decide (b ≤ b1) = false := decide_eq_false g3
            go_enter Tryz.func162, Tryz.ntmps162
            go_wp2_with (go_at_call 151; refine (rvertex_any _ _ _ _ _ _).mono ?_; rintro e w' ⟨rfl, rfl⟩)
            go_ret
            refine ⟨rfl, ?_⟩
            repeat first | exact Below.refl _ _ | refine Below.alloc ?_ (by first | exact Nat.le_refl _ | (simp; done) | (simp; omega)) _
        · have hd2 : (a == a1) = false := by simpa using g2
          rw [if_neg (by omega)] at hE'
          subst hE'
          clear g2
          go_enter Tryz.func162, Tryz.ntmps162
          go_wp2_with (go_at_call 151; refine (rvertex_any _ _ _ _ _ _).mono ?_; rintro e w' ⟨rfl, rfl⟩)
          go_ret
          refine ⟨rfl, ?_⟩
          repeat first | exact Below.refl _ _ | refine Below.alloc ?_ (by first | exact Nat.le_refl _ | (simp; done) | (simp; omega)) _
set_option maxRecDepth 100000 in
set_option maxHeartbeats 2000000 in
theorem rgcheck_any (n : Int) (A : Option Addr) (c : Nat) (es : List E3) (hn : es.length ≤ 1048576) (w : World) (h : Reads w w.heap.size 3 A es.length (edgeCells es)) :
    Calls Tryz.prog 107 #[.agg #[.int .i64 n, .slice A es.length c]] w fun e w' => e = .returned (.int .i64 (checkG n es)) ∧ Below w.heap.size w w' := by
  by_cases h1 : n < 1
  · have hd : checkG n es = 2 := by unfold checkG; rw [if_pos (.inl h1)]
    rw [hd]
    go_enter Tryz.func107, Tryz.ntmps107
    go_wp2
    go_ret
    exact ⟨rfl, (Below.refl _ _).alloc (Nat.le_refl _) _⟩
  by_cases h2 : 12 < n
  · have hd : checkG n es = 2 := by unfold checkG; rw [if_pos (.inr h2)]
    rw [hd]
    go_enter Tryz.func107, Tryz.ntmps107
    go_wp2
    go_ret
    exact ⟨rfl, (Below.refl _ _).alloc (Nat.le_refl _) _⟩
  have hd : checkG n es = edgesErr n none es := by unfold checkG; rw [if_neg (by omega)]
  rw [hd]
  obtain ⟨r, hr⟩ : ∃ r, edgesErr n none es = r := ⟨_, rfl⟩
  rw [hr]
  have HR := Lib.hid hr
  clear hr hd
  go_enter Tryz.func107, Tryz.ntmps107
  go_wp2
  go_loopw [3] (fun i wr => ∃ k : Nat, k ≤ es.length ∧ i = .int .i64 k ∧ Below w.heap.size w wr ∧ Blk wr w.heap.size 24 #[.int .i64 n, .slice A es.length c] ∧ Hid (edgesErr n none es = edgesErr n (prevOf es k) (es.drop k))) (fun i _ => es.length - (intOf i).toNat)
  case atStart => exact ⟨0, by omega, rfl, (Below.refl _ _).alloc (Nat.le_refl _) _, Blk.new _ _ _, by simp [Hid, prevOf]⟩
  case round =>
    obtain ⟨k, hk, rfl, hbel, g1, HS⟩ := hrel
    have c0 := g1.cell 0
    have c1 := g1.cell 1
    have hsz := hbel.size
    by_cases hlt : k < es.length
    · obtain ⟨e, hx⟩ := get_of_lt hlt
      have hi : (k : Int) < (es.length : Int) := by omega
      have HE := Lib.hid (redge_any n A c es hn k e hx wr ((h.below hbel).more hsz))
      have HX := Lib.hid hx
      have HB := Lib.hid hbel
      clear hx h hbel
      by_cases h0 : edgeErr n (prevOf es k) e = 0
      · have HN := Lib.hid (edgesErr_go HX.out h0 HS.out)
        rw [h0] at HE
        clear h0
        go_wp2_with (go_at_call 162; refine (HE.out).mono ?_; rintro e' w' ⟨rfl, hb'⟩)
        go_roundw
        case rel => exact ⟨k + 1, by omega, by go_num, HB.out.trans (hb'.mono hsz), g1.next hb', HN.out⟩
        case measure => simp [intOf]; omega
      · have HN := Lib.hid (edgesErr_stop HX.out rfl h0 HS.out)
        obtain ⟨q, hq⟩ : ∃ q, edgeErr n (prevOf es k) e = q := ⟨_, rfl⟩
        rw [hq] at HE HN h0
        have hb0 : (q != 0) = true := by simpa using h0
        clear hq h0
        go_wp2_with (go_at_call 162; refine (HE.out).mono ?_; rintro e' w' ⟨rfl, hb'⟩)
        go_ret
        exact ⟨ret_int (by rw [← HR.out, HN.out]), HB.out.trans (hb'.mono hsz)⟩
    · go_wp2
      go_ret
      refine ⟨ret_int ?_, hbel⟩
      have e : edgesErr n none es = 0 := by rw [HS.out, List.drop_eq_nil_of_le (by omega)]; rfl
      rw [← HR.out, e]
end Go.Proofs.YtnbikkcalcpedaaGreatDoor
