/-
  Texts of this claim, put together: HeapX, TreeP, TreeQ.
-/
import Derived.Test.YtghigdcpinengaaGreatK04
/-! container/heap: Push and Pop over treebijection.queue. -/
namespace Go.Proofs.YtghigdcpinengaaGreat
open Go.RowKit

theorem own_lenH {w : World} {base : Nat} {A : Option Addr} {c : Nat} {xs : List Int} {n : Nat} (h : OwnI w base A c xs) (hn : xs.length = n) : w.ownsRow base 3 1 (.slice A n c) n (ints xs) := by subst hn; exact h
theorem UpI.push {H : List Int} {x : Int} {n : Nat} (hl : H.length = n) (h : HeapN H n) : UpI (H ++ [x]) (n + 1) n := by subst hl; exact UpI.start h

theorem assert_int (x : Int) (w : World) : (Instr.typeAssert (.iface 3 (.int .i64 x)) 20 3 false).run Tryz.prog w = .ok (.int .i64 x) w := by kernel_rfl
set_option maxHeartbeats 4000000 in
set_option maxRecDepth 100000 in
theorem qpush_any (b o base : Nat) (T : TypeId) (hT : 3 ≠ T) (cs : Array Value) (A : Option Addr) (c : Nat) (H : List Int) (n : Nat) (hn : H.length = n) (hn1 : n ≤ 1000) (x : Int) (w : World) (hO : OwnI w base A c H) (hbase : base ≤ w.heap.size) (hblk : Blk w b T cs) (hcs : cs[o]? = some (.slice A n c)) :
    Calls Tryz.prog 213 #[.pointer (some ⟨b, o, none⟩), .iface 3 (.int .i64 x)] w fun e w' => e = .returned (.tuple #[]) ∧ ∃ A' c', OwnI w' base A' c' (H ++ [x]) ∧ Blk w' b T (cs.setIfInBounds o (.slice A' (n + 1) c')) ∧ Only (fun k => ofA A k ∨ k = b) w w' ∧ (∀ k, ofA A' k → ofA A k ∨ w.heap.size ≤ k) := by
  have kc := (hblk.cell o).trans hcs
  have hfz := hblk.frozen o
  have hown := own_lenH hO hn
  have hblt := hblk.lt
  have hnb : ∀ k, blockOf A k → k ≠ b := fun k hk => own_blk hown hblk hT hk
  go_enter Tryz.func213, Tryz.ntmps213
  go_wp2_with fail
  have hta := fun w => assert_int x w
  have hol := hown.alloc (.cells #[.int .i64 x] 3)
  have kc1 : (w.alloc (.cells #[.int .i64 x] 3)).cell? ⟨b, o, none⟩ = some (.slice A n c) := ((hblk.alloc _).cell o).trans hcs
  go_region_law (refine append_step2 rfl (.tmp 7) (.tmp 10) _ _ rfl base 3 3 Tryz.underlying87 Tryz.underlying87 info_int rfl (by omega) A c n (ints H) rfl ?_ (w.heap.size + 1) [.int .i64 x] rfl ?_ (by simp [Value.oneCell']) (by omega) ?_ ?_
                 · exact hol
                 · exact Reads.box w _ _
                 · exact Nat.le_trans hbase (by simp)
                 intro A5 c5 w5 hown5 hg5 hb5 hd5
                 have b5 : Blk w5 b T cs := (hg5.block b (by simp; omega) (fun e => hnb b (blockOf_own.1 e.symm) rfl)).trans (hblk.alloc _)
                 have kc5 := (b5.cell o).trans hcs
                 have fz5 := b5.frozen o)
  all_goals (
    have O5 : Hid (OwnI (w5.setCell ⟨b, o, none⟩ (.slice A5 (n + 1) c5)) base A5 c5 (H ++ [x])) := by
      have h6 : OwnI w5 base A5 c5 (H ++ [x]) := by unfold OwnI; rw [List.length_append, hn, ints_snoc]; exact hown5
      exact own_kept h6 fun k hk => Below.heap_setCell w5 ⟨b, o, none⟩ _ k (own_blk h6 b5 hT hk)
    have D5 : Hid (∀ k, ofA A5 k → ofA A k ∨ w.heap.size ≤ k) := by
      intro k hk
      have hk2 : (Value.slice A5 (n + 1) c5).ownBlock = some k := blockOf_own.2 hk
      rcases hd5 with hd5 | hd5
      · rw [hd5] at hk2; exact .inl (blockOf_own.1 hk2)
      · rw [hd5] at hk2; injection hk2 with hk2; subst hk2; exact .inr (by simp)
    have W5 : Hid (Only (fun k => ofA A k ∨ k = b) w (w5.setCell ⟨b, o, none⟩ (.slice A5 (n + 1) c5))) := by
      have hz : w.heap.size + 1 ≤ w5.heap.size := Nat.le_trans (by simp) hg5.size
      refine ⟨hg5.os, hg5.tape, hg5.output, ?_, fun k hk hC => ?_⟩
      · show w.heap.size ≤ (w5.setCell ⟨b, o, none⟩ (.slice A5 (n + 1) c5)).heap.size
        simp only [World.setCell, Array.size_modify]; omega
      · refine (Below.heap_setCell w5 ⟨b, o, none⟩ _ k (fun e => hC (.inr e))).trans ((hg5.block k (by simp; omega) (fun e => hC (.inl (blockOf_own.1 e.symm)))).trans ?_)
        exact Below.heap_alloc w _ k hk
    go_wp2
    exact bodyPost_end (results_none rfl _ _ _) rfl ⟨rfl, A5, c5, O5.out, b5.set_ o _, W5.out, D5.out⟩)

theorem Only.trans2 {C D : Nat → Prop} {w w1 w2 : World} (h1 : Only C w w1) (h2 : Only D w1 w2) (hD : ∀ k, k < w.heap.size → D k → C k) : Only C w w2 :=
  ⟨h2.os.trans h1.os, h2.tape.trans h1.tape, h2.output.trans h1.output, Nat.le_trans h1.size h2.size, fun k hk hC => (h2.block k (Nat.lt_of_lt_of_le hk h1.size) (fun hd => hC (hD k hk hd))).trans (h1.block k hk hC)⟩

theorem qlen_any (A : Option Addr) (n c : Nat) (w : World) : Calls Tryz.prog 140 #[.slice A n c] w fun e w' => e = .returned (.int .i64 n) ∧ w = w' := by
  go_enter Tryz.func140, Tryz.ntmps140
  go_wp2
  go_ret
  exact ⟨rfl, rfl⟩
set_option maxHeartbeats 4000000 in
set_option maxRecDepth 100000 in
theorem hpush_any (b o base : Nat) (T : TypeId) (hT : 3 ≠ T) (cs : Array Value) (hos : o < cs.size) (A : Option Addr) (c : Nat) (H : List Int) (n : Nat) (hn : H.length = n) (hn1 : n ≤ 900) (hH : HeapN H n) (x : Int) (w : World) (hO : OwnI w base A c H) (hbase : base ≤ w.heap.size) (hblk : Blk w b T cs) (hcs : cs[o]? = some (.slice A n c)) :
    Calls Tryz.prog 157 #[.iface 179 (.pointer (some ⟨b, o, none⟩)), .iface 3 (.int .i64 x)] w fun e w' => e = .returned (.tuple #[]) ∧ ∃ A' c' H', H'.length = n + 1 ∧ H'.Perm (x :: H) ∧ HeapN H' (n + 1) ∧ OwnI w' base A' c' H' ∧ Blk w' b T (cs.setIfInBounds o (.slice A' (n + 1) c')) ∧ Only (fun k => ofA A k ∨ k = b) w w' ∧ (∀ k, ofA A' k → ofA A k ∨ w.heap.size ≤ k) := by
  have mP : ∀ k, (method (k + 1) 179 (.pointer (some ⟨b, o, none⟩)) "Push").run Tryz.prog w = .ok (213, .pointer (some ⟨b, o, none⟩)) w := fun k => run_method_own ml_push Tryz.underlying179 k _ _
  have PC := Lib.hid (qpush_any b o base T hT cs A c H n hn (by omega) x w hO hbase hblk hcs)
  have HUP := Lib.hid (UpI.push (x := x) hn hH)
  have HL : Hid ((H ++ [x]).length = n + 1) := by rw [Hid, List.length_append, hn]; rfl
  have HPM : Hid ((H ++ [x]).Perm (x :: H)) := List.perm_append_comm
  have HBL := Lib.hid hblk.lt
  have HOS := Lib.hid hos
  clear hH hn hO hblk hcs
  go_enter Tryz.func157, Tryz.ntmps157
  go_wp2_with fail
  refine (PC.out).mono ?_
  rintro e w1 ⟨rfl, A1, c1, o1, b1, W1, D1⟩
  have hc1 : (cs.setIfInBounds o (.slice A1 (n + 1) c1))[o]? = some (.slice A1 (n + 1) c1) := by
    rw [Array.getElem?_setIfInBounds, if_pos rfl, if_pos HOS.out]
  have kc := (b1.cell o).trans hc1
  have hba : ¬ ofA A1 b := fun hk => own_blk (own_lenH o1 HL.out) b1 hT hk rfl
  have mN : ∀ k, (method (k + 1) 179 (.pointer (some ⟨b, o, none⟩)) "Len").run Tryz.prog w1 = .ok (140, .slice A1 (n + 1) c1) w1 := fun k => run_method_ptr ml_len Tryz.underlying179 ml_agg k _ _ _ kc
  have hw1 : IntKind.i64.wrap ((n : Int) + 1 - 1) = (n : Int) := by rw [IntWalk.i64_in _ (by omega)]; omega
  have hw2 : ((n : Int) + 1 - 1) = (n : Int) := by omega
  have UC := Lib.hid (up_any b o base T (cs.setIfInBounds o (.slice A1 (n + 1) c1)) A1 c1 (H ++ [x]) (n + 1) HL.out (by omega) n HUP.out w1 o1 b1 hc1 hba)
  have B1 := Lib.hid b1
  have D1 := Lib.hid D1
  have W1 := Lib.hid W1
  clear mP kc b1 hc1
  go_wp2_with fail
  refine (qlen_any _ _ _ _).mono ?_
  rintro e w9 ⟨rfl, rfl⟩
  go_wp2_with fail
  refine (UC.out).mono ?_
  rintro e w2 ⟨rfl, H2, l2, p2, h2, o2, W2⟩
  have HF : Hid (Blk w2 b T (cs.setIfInBounds o (.slice A1 (n + 1) c1)) ∧ Only (fun k => ofA A k ∨ k = b) w w2) := ⟨B1.out.only W2 hba, W1.out.trans2 W2 fun k hk hd => by
    rcases D1.out k hd with h | h
    · exact .inl h
    · omega⟩
  go_wp2
  exact bodyPost_end (results_none rfl _ _ _) rfl ⟨rfl, A1, c1, H2, l2, p2.trans HPM.out, h2, o2, HF.out.1, HF.out.2, D1.out⟩

set_option maxHeartbeats 4000000 in
set_option maxRecDepth 100000 in
theorem qpop_any (b o base : Nat) (T : TypeId) (hT : 3 ≠ T) (cs : Array Value) (A : Option Addr) (c : Nat) (H : List Int) (n : Nat) (hn : H.length = n + 1) (hn1 : n ≤ 1000) (w : World) (hO : OwnI w base A c H) (hblk : Blk w b T cs) (hcs : cs[o]? = some (.slice A (n + 1) c)) :
    Calls Tryz.prog 212 #[.pointer (some ⟨b, o, none⟩)] w fun e w' => e = .returned (.iface 3 (.int .i64 (hp H n))) ∧ OwnI w' base A c (H.take n) ∧ Blk w' b T (cs.setIfInBounds o (.slice A n c)) ∧ Only (fun k => k = b) w w' := by
  obtain ⟨g, hA, hg, hfr, hce⟩ := hO.block (by omega)
  subst hA
  have hcap := hO.cap
  have kc := (hblk.cell o).trans hcs
  have fz := hblk.frozen o
  have cn := hce n _ (hp_at (by omega))
  have hgb : g ≠ b := own_blk (own_lenH hO hn) hblk hT ⟨_, rfl, rfl⟩
  have hw1 : IntKind.i64.wrap (((n + 1 : Nat) : Int) - 1) = (n : Int) := by rw [IntWalk.i64_in _ (by omega)]; omega
  have hw2 : IntKind.i64.wrap ((n : Int) + 1 - 1) = (n : Int) := by rw [IntWalk.i64_in _ (by omega)]; omega
  have hn0 : (0 : Int) ≤ (n : Int) := by omega
  have hn2 : (n : Int) < (n : Int) + 1 := by omega
  have hn3 : (n : Int) ≤ (c : Int) := by omega
  have hc0 : ¬ c = 0 := by omega
  have HO := Lib.hid (hO.cut n (by omega))
  have HBK := Lib.hid hblk
  obtain ⟨y, hy⟩ : ∃ y, hp H n = y := ⟨_, rfl⟩
  rw [hy] at cn ⊢
  clear hfr hce hy hO hblk hcs hcap hn
  go_enter Tryz.func212, Tryz.ntmps212
  go_wp2
  go_ret
  exact ⟨rfl, own_kept HO.out fun k hk => Below.heap_setCell w ⟨b, o, none⟩ _ k (by obtain ⟨a, ha, hk⟩ := hk; injection ha with ha; subst ha; subst hk; exact hgb), HBK.out.set_ o _, Only.setCell (C := fun k => k = b) (Only.refl _ w) (p := ⟨b, o, none⟩) (.inl rfl) _⟩

set_option maxHeartbeats 4000000 in
set_option maxRecDepth 100000 in
theorem hpop_any (b o base : Nat) (T : TypeId) (hT : 3 ≠ T) (cs : Array Value) (A : Option Addr) (c : Nat) (H : List Int) (n : Nat) (hn : H.length = n + 1) (hn1 : n ≤ 900) (hH : HeapN H (n + 1)) (w : World) (hO : OwnI w base A c H) (hblk : Blk w b T cs) (hcs : cs[o]? = some (.slice A (n + 1) c)) :
    Calls Tryz.prog 141 #[.iface 179 (.pointer (some ⟨b, o, none⟩))] w fun e w' => ∃ (x : Int) (H' : List Int), e = .returned (.iface 3 (.int .i64 x)) ∧ H'.length = n ∧ (x :: H').Perm H ∧ (∀ y ∈ H, x ≤ y) ∧ HeapN H' n ∧ OwnI w' base A c H' ∧ Blk w' b T (cs.setIfInBounds o (.slice A n c)) ∧ Only (fun k => ofA A k ∨ k = b) w w' := by
  have kc := (hblk.cell o).trans hcs
  have hba : ¬ ofA A b := fun hk => own_blk (own_lenH hO hn) hblk hT hk rfl
  have hw1 : IntKind.i64.wrap (((n + 1 : Nat) : Int) - 1) = (n : Int) := by rw [IntWalk.i64_in _ (by omega)]; omega
  have hw2 : IntKind.i64.wrap ((n : Int) + 1 - 1) = (n : Int) := by rw [IntWalk.i64_in _ (by omega)]; omega
  have hw3 : (n : Int) + 1 - 1 = (n : Int) := by omega
  have SC := Lib.hid (qswap_any base A c H (n + 1) hn 0 n (by omega) (by omega) w hO)
  have mN : ∀ k, (method (k + 1) 179 (.pointer (some ⟨b, o, none⟩)) "Len").run Tryz.prog w = .ok (140, .slice A (n + 1) c) w := fun k => run_method_ptr ml_len Tryz.underlying179 ml_agg k _ _ _ kc
  have mS : ∀ k, (method (k + 1) 179 (.pointer (some ⟨b, o, none⟩)) "Swap").run Tryz.prog w = .ok (211, .slice A (n + 1) c) w := fun k => run_method_ptr ml_swap Tryz.underlying179 ml_agg k _ _ _ kc
  have HDN := Lib.hid (DnI.start hH hn)
  have HSL : Hid ((swp H 0 n).length = n + 1) := by rw [Hid, swp_length, hn]
  have HSP := Lib.hid (swp_perm (H := H) (i := 0) (j := n) (by omega) (by omega))
  have HSN : Hid (hp (swp H 0 n) n = hp H 0) := by rw [Hid, hp_swp (by omega) (by omega), if_pos rfl]
  have HMN : Hid (∀ y ∈ H, hp H 0 ≤ y) := fun y hy => by
    obtain ⟨k, hk⟩ := List.getElem?_of_mem hy
    have hkl := (List.getElem?_eq_some_iff.1 hk).1
    have h1 := heap_min hH k (by omega)
    rw [hp_at hkl] at hk
    injection hk with hk
    omega
  have HCS := Lib.hid hcs
  clear hH hn hO kc hcs
  go_enter Tryz.func141, Tryz.ntmps141
  go_wp2_with fail
  refine (qlen_any _ _ _ _).mono ?_
  rintro e w9 ⟨rfl, rfl⟩
  go_wp2_with fail
  refine (SC.out).mono ?_
  rintro e w1 ⟨rfl, o1, W1⟩
  have b1 := hblk.only W1 hba
  have DC := Lib.hid (down_any b o base T cs A c (swp H 0 n) (n + 1) n HSL.out (by omega) (by omega) HDN.out w1 o1 b1 HCS.out hba)
  have W1 := Lib.hid W1
  clear mN mS
  go_wp2_with fail
  refine (DC.out).mono ?_
  rintro e w2 ⟨bb, rfl, H2, l2, p2, h2, o2, W2, t2⟩
  have b2 := b1.only W2 hba
  have QC := Lib.hid (qpop_any b o base T hT cs A c H2 n l2 (by omega) w2 o2 b2 HCS.out)
  have mP : ∀ k, (method (k + 1) 179 (.pointer (some ⟨b, o, none⟩)) "Pop").run Tryz.prog w2 = .ok (212, .pointer (some ⟨b, o, none⟩)) w2 := fun k => run_method_own ml_pop Tryz.underlying179 k _ _
  have HX : Hid (hp H2 n = hp H 0) := (t2 n (Nat.le_refl _)).trans HSN.out
  have HPM : Hid ((hp H 0 :: H2.take n).Perm H) := by
    have e1 : H2 = H2.take n ++ [hp H2 n] := by
      have := List.take_append_drop n H2
      have hd : H2.drop n = [hp H2 n] := by
        rw [List.drop_eq_getElem_cons (by omega), List.drop_eq_nil_of_le (by omega)]
        unfold hp; rw [List.getD_eq_getElem?_getD, List.getElem?_eq_getElem (by omega)]; rfl
      rw [hd] at this; exact this.symm
    have h3 : (hp H2 n :: H2.take n).Perm H2 := by
      conv => rhs; rw [e1]
      exact (List.perm_append_singleton _ _).symm
    rw [HX.out] at h3
    exact h3.trans (p2.trans HSP.out)
  have HHP : Hid (HeapN (H2.take n) n) := heap_take h2 (by omega)
  have HTL : Hid ((H2.take n).length = n) := by rw [Hid, List.length_take]; omega
  have W2 := Lib.hid (W1.out.trans W2)
  clear l2 p2 h2 t2 o2
  go_wp2_with fail
  refine (QC.out).mono ?_
  rintro e w3 ⟨rfl, o3, b3, W3⟩
  have HW3 : Hid (Only (fun k => ofA A k ∨ k = b) w w3) := (W2.out.mono fun _ _ h => .inl h).trans2 W3 fun k _ hk => .inr hk
  go_wp2
  go_ret
  exact ⟨hp H 0, H2.take n, by rw [← HX.out]; rfl, HTL.out, HPM.out, HMN.out, HHP.out, o3, b3, HW3.out⟩
end Go.Proofs.YtghigdcpinengaaGreat

/-! Plain laws of forests and spanning trees: single edges as a list of pairs; which vertices they connect, into how many parts; when they have no cycle. No program is in sight. -/
namespace Go.Proofs.YtghigdcpinengaaGreat

/-- Two vertices that pairs connect. -/
inductive Cn (ps : List (Nat × Nat)) (a : Nat) : Nat → Prop
  | refl : Cn ps a a
  | step {b c : Nat} : Cn ps a b → ((b, c) ∈ ps ∨ (c, b) ∈ ps) → Cn ps a c
/-- All ends are below n. -/
def BdP (n : Nat) (ps : List (Nat × Nat)) : Prop := ∀ p ∈ ps, p.1 < n ∧ p.2 < n
section
variable {ps qs : List (Nat × Nat)} {a b c n : Nat}
theorem Cn.trans (h : Cn ps a b) (h' : Cn ps b c) : Cn ps a c := by
  induction h' with
  | refl => exact h
  | step _ hs ih => exact ih.step hs
theorem Cn.symm (h : Cn ps a b) : Cn ps b a := by
  induction h with
  | refl => exact .refl
  | step _ hs ih => exact (Cn.refl.step hs.symm).trans ih
theorem Cn.mono (h : Cn ps a b) (hs : ∀ p ∈ ps, p ∈ qs) : Cn qs a b := by
  induction h with
  | refl => exact .refl
  | step _ he ih => exact ih.step (he.imp (hs _) (hs _))
theorem Cn.pair {p : Nat × Nat} (h : p ∈ ps) : Cn ps p.1 p.2 := Cn.refl.step (.inl h)
theorem cn_nil (h : Cn [] a b) : a = b := by
  induction h with
  | refl => rfl
  | step _ hs _ => simp at hs
theorem cn_same (h : ∀ p, p ∈ ps ↔ p ∈ qs) : Cn ps a b ↔ Cn qs a b := ⟨fun x => x.mono fun p => (h p).1, fun x => x.mono fun p => (h p).2⟩
theorem cn_cons (p : Nat × Nat) : Cn (p :: ps) a b ↔ Cn ps a b ∨ (Cn ps a p.1 ∧ Cn ps p.2 b) ∨ (Cn ps a p.2 ∧ Cn ps p.1 b) := by
  constructor
  · intro h
    induction h with
    | refl => exact .inl .refl
    | step h0 hs ih =>
      rename_i x y
      have key : ∀ {u v : Nat}, (u, v) ∈ p :: ps → (Cn ps a u ∨ (Cn ps a p.1 ∧ Cn ps p.2 u) ∨ (Cn ps a p.2 ∧ Cn ps p.1 u)) → (Cn ps a v ∨ (Cn ps a p.1 ∧ Cn ps p.2 v) ∨ (Cn ps a p.2 ∧ Cn ps p.1 v)) := by
        intro u v huv ih
        rcases List.mem_cons.1 huv with rfl | huv
        · rcases ih with h | ⟨h1, h2⟩ | ⟨h1, h2⟩
          · exact .inr (.inl ⟨h, .refl⟩)
          · exact .inr (.inl ⟨h1, .refl⟩)
          · exact .inl h1
        · have e : Cn ps u v := Cn.pair huv
          rcases ih with h | ⟨h1, h2⟩ | ⟨h1, h2⟩
          · exact .inl (h.trans e)
          · exact .inr (.inl ⟨h1, h2.trans e⟩)
          · exact .inr (.inr ⟨h1, h2.trans e⟩)
      have key2 : ∀ {u v : Nat}, (v, u) ∈ p :: ps → (Cn ps a u ∨ (Cn ps a p.1 ∧ Cn ps p.2 u) ∨ (Cn ps a p.2 ∧ Cn ps p.1 u)) → (Cn ps a v ∨ (Cn ps a p.1 ∧ Cn ps p.2 v) ∨ (Cn ps a p.2 ∧ Cn ps p.1 v)) := by
        intro u v huv ih
        rcases List.mem_cons.1 huv with rfl | huv
        · rcases ih with h | ⟨h1, h2⟩ | ⟨h1, h2⟩
          · exact .inr (.inr ⟨h, .refl⟩)
          · exact .inl h1
          · exact .inr (.inr ⟨h1, .refl⟩)
        · have e : Cn ps u v := (Cn.pair huv).symm
          rcases ih with h | ⟨h1, h2⟩ | ⟨h1, h2⟩
          · exact .inl (h.trans e)
          · exact .inr (.inl ⟨h1, h2.trans e⟩)
          · exact .inr (.inr ⟨h1, h2.trans e⟩)
      rcases hs with hs | hs
      · exact key hs ih
      · exact key2 hs ih
  · have m : ∀ {u v}, Cn ps u v → Cn (p :: ps) u v := fun h => h.mono fun q hq => by simp [hq]
    have e : Cn (p :: ps) p.1 p.2 := Cn.pair (by simp)
    rintro (h | ⟨h1, h2⟩ | ⟨h1, h2⟩)
    · exact m h
    · exact ((m h1).trans e).trans (m h2)
    · exact ((m h1).trans e.symm).trans (m h2)
theorem cn_cons_of {p : Nat × Nat} (hp : Cn ps p.1 p.2) : Cn (p :: ps) a b ↔ Cn ps a b := by
  rw [cn_cons]
  constructor
  · rintro (h | ⟨h1, h2⟩ | ⟨h1, h2⟩)
    · exact h
    · exact (h1.trans hp).trans h2
    · exact (h1.trans hp.symm).trans h2
  · exact .inl
theorem Cn.lt (hb : BdP n ps) (ha : a < n) (h : Cn ps a b) : b < n := by
  induction h with
  | refl => exact ha
  | step _ hs _ =>
    rcases hs with hs | hs
    · exact (hb _ hs).2
    · exact (hb _ hs).1
theorem BdP.cons {p : Nat × Nat} (h : BdP n (p :: ps)) : (p.1 < n ∧ p.2 < n) ∧ BdP n ps := ⟨h p (by simp), fun q hq => h q (by simp [hq])⟩
end

theorem filter_less {l : List Nat} (hn : l.Nodup) {x : Nat} (hx : x ∈ l) {P Q : Nat → Bool} (hP : P x = true) (hQ : ∀ v ∈ l, Q v = (P v && !decide (v = x))) : (l.filter Q).length + 1 = (l.filter P).length := by
  induction l with
  | nil => simp at hx
  | cons y l ih =>
    rw [List.nodup_cons] at hn
    rcases List.mem_cons.1 hx with rfl | hx
    · have e : l.filter Q = l.filter P := List.filter_congr fun v hv => by
        rw [hQ v (by simp [hv])]
        have : v ≠ x := fun h => hn.1 (h ▸ hv)
        simp [this]
      have hqx : Q x = false := by rw [hQ x (by simp)]; simp
      rw [List.filter_cons_of_neg (by simp [hqx]), List.filter_cons_of_pos hP, e]; rfl
    · have hyx : y ≠ x := fun h => hn.1 (h ▸ hx)
      have := ih hn.2 hx (fun v hv => hQ v (by simp [hv]))
      have hqy : Q y = P y := by rw [hQ y (by simp)]; simp [hyx]
      by_cases hp : P y = true
      · rw [List.filter_cons_of_pos hp, List.filter_cons_of_pos (by rw [hqy]; exact hp)]
        simp only [List.length_cons]; omega
      · rw [List.filter_cons_of_neg hp, List.filter_cons_of_neg (by rw [hqy]; exact hp)]
        exact this

theorem nodup_sub_le {α : Type} [DecidableEq α] : ∀ {l m : List α}, l.Nodup → (∀ x ∈ l, x ∈ m) → l.length ≤ m.length
  | [], _, _, _ => by simp
  | x :: l, m, hn, hs => by
    rw [List.nodup_cons] at hn
    have hx := hs x (by simp)
    have := nodup_sub_le (l := l) (m := m.erase x) hn.2 fun y hy => by
      have hyx : y ≠ x := fun h => hn.1 (h ▸ hy)
      exact (List.mem_erase_of_ne hyx).2 (hs y (by simp [hy]))
    have h1 := List.length_erase_of_mem hx
    have h2 : 0 < m.length := List.length_pos_of_mem hx
    simp only [List.length_cons]; omega

/-- The least vertex of the part of a vertex. -/
def labF : List (Nat × Nat) → Nat → Nat
  | [], v => v
  | p :: ps, v => if labF ps v = max (labF ps p.1) (labF ps p.2) then min (labF ps p.1) (labF ps p.2) else labF ps v
/-- The number of parts of n vertices. -/
def partsP (n : Nat) (ps : List (Nat × Nat)) : Nat := ((List.range n).filter fun v => decide (labF ps v = v)).length
section
variable {ps qs : List (Nat × Nat)} {n : Nat}
theorem lab_cn : ∀ {ps : List (Nat × Nat)} {u v : Nat}, Cn ps u v ↔ labF ps u = labF ps v
  | [], u, v => ⟨fun h => cn_nil h, fun h => by have h : u = v := h
                                                subst h; exact .refl⟩
  | p :: ps, u, v => by
    rw [cn_cons, lab_cn, lab_cn, lab_cn, lab_cn, lab_cn]
    simp only [labF]
    split <;> split <;> omega
instance cn_dec (ps : List (Nat × Nat)) (a b : Nat) : Decidable (Cn ps a b) := decidable_of_iff _ lab_cn.symm
theorem lab_fix : ∀ (ps : List (Nat × Nat)) (v : Nat), labF ps v ≤ v ∧ labF ps (labF ps v) = labF ps v
  | [], v => ⟨Nat.le_refl _, rfl⟩
  | p :: ps, v => by
    have h0 := lab_fix ps v
    have h1 := lab_fix ps p.1
    have h2 := lab_fix ps p.2
    have hm : labF ps (min (labF ps p.1) (labF ps p.2)) = min (labF ps p.1) (labF ps p.2) := by
      rcases Nat.le_total (labF ps p.1) (labF ps p.2) with h | h
      · rw [Nat.min_eq_left h]; exact h1.2
      · rw [Nat.min_eq_right h]; exact h2.2
    have hd : ∀ x, labF (p :: ps) x = if labF ps x = max (labF ps p.1) (labF ps p.2) then min (labF ps p.1) (labF ps p.2) else labF ps x := fun _ => rfl
    by_cases h : labF ps v = max (labF ps p.1) (labF ps p.2)
    · have e : labF (p :: ps) v = min (labF ps p.1) (labF ps p.2) := by rw [hd, if_pos h]
      rw [e, hd, hm]
      refine ⟨by omega, ?_⟩
      split <;> omega
    · have e : labF (p :: ps) v = labF ps v := by rw [hd, if_neg h]
      rw [e, hd, h0.2, if_neg h]; exact ⟨h0.1, rfl⟩
theorem lab_self (ps : List (Nat × Nat)) (v : Nat) : Cn ps (labF ps v) v := lab_cn.2 (lab_fix ps v).2
theorem lab_low {v : Nat} : labF ps v = v ↔ ∀ u, u < v → ¬ Cn ps u v := by
  constructor
  · intro h u hu hc
    have := lab_cn.1 hc
    have := (lab_fix ps u).1; omega
  · intro h
    have := (lab_fix ps v).1
    rcases Nat.lt_or_ge (labF ps v) v with hl | hl
    · exact absurd (lab_self ps v) (h _ hl)
    · omega
theorem partsP_nil (n : Nat) : partsP n [] = n := by
  unfold partsP
  rw [List.filter_eq_self.2]
  · simp
  · intro v _; simp [labF]
theorem partsP_congr (h : ∀ a b, Cn ps a b ↔ Cn qs a b) : partsP n ps = partsP n qs := by
  unfold partsP
  congr 1
  refine List.filter_congr fun v _ => ?_
  rw [Bool.eq_iff_iff, decide_eq_true_eq, decide_eq_true_eq, lab_low, lab_low]
  exact ⟨fun k u hu hc => k u hu ((h _ _).2 hc), fun k u hu hc => k u hu ((h _ _).1 hc)⟩
theorem partsP_in {p : Nat × Nat} (hp : Cn ps p.1 p.2) : partsP n (p :: ps) = partsP n ps := partsP_congr fun _ _ => cn_cons_of hp
theorem partsP_out {p : Nat × Nat} (h1 : p.1 < n) (h2 : p.2 < n) (hp : ¬ Cn ps p.1 p.2) : partsP n (p :: ps) + 1 = partsP n ps := by
  rw [lab_cn] at hp
  have k1 := lab_fix ps p.1
  have k2 := lab_fix ps p.2
  unfold partsP
  have hM : labF ps (max (labF ps p.1) (labF ps p.2)) = max (labF ps p.1) (labF ps p.2) := by
    rcases Nat.le_total (labF ps p.1) (labF ps p.2) with h | h
    · rw [Nat.max_eq_right h]; exact k2.2
    · rw [Nat.max_eq_left h]; exact k1.2
  have hm : labF ps (min (labF ps p.1) (labF ps p.2)) = min (labF ps p.1) (labF ps p.2) := by
    rcases Nat.le_total (labF ps p.1) (labF ps p.2) with h | h
    · rw [Nat.min_eq_left h]; exact k1.2
    · rw [Nat.min_eq_right h]; exact k2.2
  refine filter_less List.nodup_range (x := max (labF ps p.1) (labF ps p.2)) (by rw [List.mem_range]; omega) (by rw [decide_eq_true_eq]; exact hM) ?_
  intro v _
  rw [Bool.eq_iff_iff]
  simp only [Bool.and_eq_true, Bool.not_eq_true', decide_eq_true_eq, decide_eq_false_iff_not]
  rw [labF]
  split
  · rename_i h
    constructor
    · intro he
      rw [he] at hm; omega
    · rintro ⟨e1, e2⟩; omega
  · rename_i h
    constructor
    · intro he; exact ⟨he, fun e => h (by omega)⟩
    · exact fun h => h.1
theorem partsP_pos (hn : 0 < n) : 1 ≤ partsP n ps := by
  unfold partsP
  apply List.length_pos_of_mem (a := 0)
  rw [List.mem_filter, List.mem_range, decide_eq_true_eq]
  have := (lab_fix ps 0).1
  exact ⟨hn, by omega⟩
theorem partsP_one (hn : 0 < n) : partsP n ps = 1 ↔ ∀ v, v < n → Cn ps 0 v := by
  have h00 : labF ps 0 = 0 := by have := (lab_fix ps 0).1; omega
  constructor
  · intro h v hv
    rw [lab_cn, h00]
    have hf := lab_fix ps v
    by_cases h0 : labF ps v = 0
    · exact h0.symm
    · exfalso
      have : ([0, labF ps v] : List Nat).length ≤ partsP n ps := by
        unfold partsP
        refine nodup_sub_le ?_ ?_
        · simp; omega
        · intro x hx
          rw [List.mem_filter, List.mem_range, decide_eq_true_eq]
          simp only [List.mem_cons, List.not_mem_nil, or_false] at hx
          rcases hx with rfl | rfl
          · exact ⟨hn, h00⟩
          · exact ⟨by omega, hf.2⟩
      simp at this; omega
  · intro h
    unfold partsP
    have e : (List.range n).filter (fun v => decide (labF ps v = v)) = (List.range n).filter (fun v => decide (v = 0)) := by
      refine List.filter_congr fun v hv => ?_
      rw [List.mem_range] at hv
      have := lab_cn.1 (h v hv)
      rw [h00] at this
      rw [← this, Bool.eq_iff_iff]
      simp only [decide_eq_true_eq]; omega
    rw [e]
    obtain ⟨m, rfl⟩ : ∃ m, n = m + 1 := ⟨n - 1, by omega⟩
    rw [List.range_succ_eq_map, List.filter_cons_of_pos (by simp), List.filter_eq_nil_iff.2]
    · rfl
    · intro x hx
      obtain ⟨y, _, rfl⟩ := List.mem_map.1 hx
      simp

/-- A list of pairs without a cycle. -/
def Fo : List (Nat × Nat) → Prop
  | [] => True
  | p :: ps => Fo ps ∧ ¬ Cn ps p.1 p.2
/-- .. as a bool. -/
def foB : List (Nat × Nat) → Bool
  | [] => true
  | p :: ps => foB ps && !decide (Cn ps p.1 p.2)
theorem foB_iff : ∀ {ps : List (Nat × Nat)}, foB ps = true ↔ Fo ps
  | [] => by simp [foB, Fo]
  | p :: ps => by rw [foB, Bool.and_eq_true, foB_iff, Bool.not_eq_true', decide_eq_false_iff_not]; rfl
theorem fo_parts : ∀ {ps : List (Nat × Nat)}, BdP n ps → n ≤ partsP n ps + ps.length ∧ (Fo ps ↔ partsP n ps + ps.length = n)
  | [], _ => by rw [partsP_nil]; simp [Fo]
  | p :: ps, hb => by
    obtain ⟨⟨h1, h2⟩, hb'⟩ := hb.cons
    obtain ⟨i1, i2⟩ := fo_parts hb'
    rw [List.length_cons]
    by_cases hc : Cn ps p.1 p.2
    · rw [partsP_in hc]
      refine ⟨by omega, ⟨fun h => absurd hc h.2, fun h => by omega⟩⟩
    · have := partsP_out h1 h2 hc
      refine ⟨by omega, ⟨fun h => ?_, fun h => ⟨i2.2 (by omega), hc⟩⟩⟩
      have := i2.1 h.1; omega
theorem fo_mem (hb : BdP n ps) (hb' : BdP n qs) (hl : ps.length = qs.length) (h : ∀ p, p ∈ ps ↔ p ∈ qs) : Fo ps ↔ Fo qs := by
  rw [(fo_parts hb).2, (fo_parts hb').2, partsP_congr (fun _ _ => cn_same h), hl]
theorem BdP.perm (h : BdP n ps) (hp : ps.Perm qs) : BdP n qs := fun p hq => h p (hp.mem_iff.2 hq)
theorem fo_perm (hb : BdP n ps) (hp : ps.Perm qs) : Fo ps ↔ Fo qs := fo_mem hb (hb.perm hp) hp.length_eq fun _ => hp.mem_iff
theorem Fo.sub (h : Fo ps) (hs : qs.Sublist ps) : Fo qs := by
  induction hs with
  | slnil => exact h
  | cons p _ ih => exact ih h.1
  | cons_cons p hs ih => exact ⟨ih h.1, fun hc => h.2 (hc.mono fun q hq => hs.subset hq)⟩
/-- Any two of: no cycle; one part; as many pairs as vertices but one. -/
theorem tree_of_fo (hb : BdP n ps) (h : Fo ps) : partsP n ps = 1 ↔ ps.length + 1 = n := by
  have := (fo_parts hb).2.1 h; omega
theorem tree_of_len (hb : BdP n ps) (hl : ps.length + 1 = n) : partsP n ps = 1 ↔ Fo ps := by
  rw [(fo_parts hb).2]; omega
end
end Go.Proofs.YtghigdcpinengaaGreat

/-! Plain laws of spanning trees as sets of single edges: what a single edge separates, paths, exchanges. No program is in sight. -/
namespace Go.Proofs.YtghigdcpinengaaGreat

/-- The ends of some single edges. -/
def pk (E : List (Nat × Nat)) (t : List Nat) : List (Nat × Nat) := t.map fun e => E.getD e (0, 0)
/-- A list without a number. -/
def lessL (t : List Nat) (e : Nat) : List Nat := t.filter fun x => !decide (x = e)
/-- A set of numbers below m, ascending. -/
def SetN (m : Nat) (t : List Nat) : Prop := t.Pairwise (· < ·) ∧ ∀ e ∈ t, e < m
/-- Single edges without a cycle, each once. -/
structure FoE (n : Nat) (E : List (Nat × Nat)) (t : List Nat) : Prop where
  bd : BdP n E
  nodup : t.Nodup
  lt : ∀ e ∈ t, e < E.length
  fo : Fo (pk E t)

section
variable {E : List (Nat × Nat)} {t u : List Nat} {n e f a b : Nat}
theorem SetN.nodup {m : Nat} (h : SetN m t) : t.Nodup := h.1.imp fun h => by omega
theorem mem_pk {p : Nat × Nat} : p ∈ pk E t ↔ ∃ e ∈ t, E.getD e (0, 0) = p := by simp [pk]
theorem pk_length : (pk E t).length = t.length := by simp [pk]
theorem getD_bd (hb : BdP n E) (he : e < E.length) : (E.getD e (0, 0)).1 < n ∧ (E.getD e (0, 0)).2 < n := by
  have : E.getD e (0, 0) ∈ E := by
    rw [List.getD_eq_getElem?_getD, List.getElem?_eq_getElem he]; exact List.getElem_mem he
  exact hb _ this
theorem bd_pk (hb : BdP n E) (h : ∀ e ∈ t, e < E.length) : BdP n (pk E t) := by
  intro p hp
  obtain ⟨e, he, rfl⟩ := mem_pk.1 hp
  exact getD_bd hb (h e he)
theorem mem_less {x : Nat} : x ∈ lessL t e ↔ x ∈ t ∧ x ≠ e := by simp [lessL]
theorem less_sub : (lessL t e).Sublist t := List.filter_sublist
theorem less_nodup (h : t.Nodup) : (lessL t e).Nodup := h.sublist less_sub
theorem pk_perm (h : t.Perm u) : (pk E t).Perm (pk E u) := h.map _
theorem pk_sub (h : t.Sublist u) : (pk E t).Sublist (pk E u) := h.map _
theorem cn_sub (h : ∀ x ∈ t, x ∈ u) (hc : Cn (pk E t) a b) : Cn (pk E u) a b := hc.mono fun p hp => by
  obtain ⟨e, he, rfl⟩ := mem_pk.1 hp
  exact mem_pk.2 ⟨e, h e he, rfl⟩
theorem FoE.less (h : FoE n E t) (e : Nat) : FoE n E (lessL t e) := ⟨h.bd, less_nodup h.nodup, fun x hx => h.lt x (mem_less.1 hx).1, h.fo.sub (pk_sub less_sub)⟩
theorem FoE.add (h : FoE n E t) (he : e < E.length) (hn : e ∉ t) (hc : ¬ Cn (pk E t) (E.getD e (0, 0)).1 (E.getD e (0, 0)).2) : FoE n E (e :: t) :=
  ⟨h.bd, List.nodup_cons.2 ⟨hn, h.nodup⟩, fun x hx => (List.mem_cons.1 hx).elim (fun h => h ▸ he) (h.lt x), ⟨h.fo, hc⟩⟩
theorem FoE.perm (h : FoE n E t) (hp : t.Perm u) : FoE n E u := ⟨h.bd, hp.nodup_iff.1 h.nodup, fun x hx => h.lt x (hp.mem_iff.2 hx), (fo_perm (bd_pk h.bd h.lt) (pk_perm hp)).1 h.fo⟩
/-- The other end of a single edge. -/
def oth (p : Nat × Nat) (v : Nat) : Nat := if p.1 = v then p.2 else p.1
/-- A single edge touches a vertex. -/
def Inc (E : List (Nat × Nat)) (e v : Nat) : Prop := (E.getD e (0, 0)).1 = v ∨ (E.getD e (0, 0)).2 = v
instance inc_dec (E : List (Nat × Nat)) (e v : Nat) : Decidable (Inc E e v) := inferInstanceAs (Decidable (_ ∨ _))
theorem inc_cases {v : Nat} (h : Inc E e v) : ((E.getD e (0, 0)).1 = v ∧ (E.getD e (0, 0)).2 = oth (E.getD e (0, 0)) v) ∨ ((E.getD e (0, 0)).2 = v ∧ (E.getD e (0, 0)).1 = oth (E.getD e (0, 0)) v) := by
  unfold oth
  by_cases h1 : (E.getD e (0, 0)).1 = v
  · exact .inl ⟨h1, by rw [if_pos h1]⟩
  · rcases h with h | h
    · exact absurd h h1
    · exact .inr ⟨h, by rw [if_neg h1]⟩
/-- Where a single edge is present, its ends are connected. -/
theorem inc_cn {v : Nat} (he : e ∈ t) (h : Inc E e v) : Cn (pk E t) v (oth (E.getD e (0, 0)) v) := by
  have hp : Cn (pk E t) (E.getD e (0, 0)).1 (E.getD e (0, 0)).2 := Cn.pair (mem_pk.2 ⟨e, he, rfl⟩)
  rcases inc_cases h with ⟨h1, h2⟩ | ⟨h1, h2⟩
  · rw [h1, h2] at hp; exact hp
  · rw [h1, h2] at hp; exact hp.symm
/-- A single edge that separates two vertices in a tree. -/
def Sep (E : List (Nat × Nat)) (t : List Nat) (a b e : Nat) : Prop := ¬ Cn (pk E (lessL t e)) a b
instance sep_dec (E : List (Nat × Nat)) (t : List Nat) (a b e : Nat) : Decidable (Sep E t a b e) := inferInstanceAs (Decidable (¬ _))
theorem Sep.symm (h : Sep E t a b e) : Sep E t b a e := fun hc => h hc.symm
end
end Go.Proofs.YtghigdcpinengaaGreat

