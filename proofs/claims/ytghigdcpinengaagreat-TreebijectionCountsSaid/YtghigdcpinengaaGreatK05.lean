/-
  Texts of this claim, put together: DelF, HeapX.
-/
import Derived.Test.YtghigdcpinengaaGreatK03
import Derived.Test.YtghigdcpinengaaGreatK04
import Derived.Lib.SliceRun
import Derived.WalkKit
/-! slices.DeleteFunc on ints, with a function that has captured one variable: the row of the call's own is cut to what is kept. -/
namespace Go.Proofs.YtghigdcpinengaaGreat
open Go.RowKit

theorem OwnI.cut {w : World} {base c g : Nat} {xs : List Int} (h : OwnI w base (some ⟨g, 0, none⟩) c xs) (k : Nat) (hk : k ≤ xs.length) : OwnI w base (some ⟨g, 0, none⟩) c (xs.take k) := by
  obtain ⟨h1, h2⟩ := h
  have e : (xs.take k).length = k := by simp; omega
  rcases h2 with ⟨h2, h3⟩ | ⟨g', cap, cur, hv, hg, hh, r1, r2, r3, r4⟩
  · simp at h2
  · injection hv with hv1 hv2 hv3
    refine ⟨by rw [ints_length]; simp, .inr ⟨g', cap, cur, by rw [hv1, hv3], hg, hh, by omega, r2, r3, ?_⟩⟩
    rw [e, Nat.mul_one]
    rw [Nat.mul_one] at r4
    have : (cur.toList.take xs.length).take k = (ints xs).take k := by rw [r4]
    rw [List.take_take, Nat.min_eq_left hk] at this
    rw [this]; simp [ints, List.map_take]
theorem OwnI.zero {base c g : Nat} {xs : List Int} : ∀ (n o : Nat) {w : World}, OwnI w base (some ⟨g, 0, none⟩) c xs → xs.length ≤ o → OwnI (w.setCells g o (List.replicate n (.int .i64 0))) base (some ⟨g, 0, none⟩) c xs
  | 0, _, _, h, _ => h
  | n + 1, o, w, h, ho => by
    rw [List.replicate_succ]
    refine OwnI.zero n (o + 1) (w := w.setCell ⟨g, o, none⟩ (.int .i64 0)) ?_ (by omega)
    have := h.put o 0
    rw [List.set_eq_of_length_le ho] at this
    exact this
theorem OwnI.cap {w : World} {base c g : Nat} {xs : List Int} (h : OwnI w base (some ⟨g, 0, none⟩) c xs) : xs.length ≤ c := by
  obtain ⟨h1, h2⟩ := h
  rcases h2 with ⟨h2, h3⟩ | ⟨g', cap, cur, hv, hg, hh, r1, r2, r3, r4⟩
  · simp at h2
  · injection hv with hv1 hv2 hv3
    omega

/-- The filter's own invariant: i elements are kept out of the first j. -/
def Kept (p : Int → Bool) (xs ks : List Int) (i j : Nat) : Prop := ks.length = xs.length ∧ i < j ∧ j ≤ xs.length ∧ ks.take i = (xs.take j).filter (fun x => !p x) ∧ ∀ q, j ≤ q → ks[q]? = xs[q]?
theorem Kept.start {p : Int → Bool} {xs : List Int} {k : Nat} {x : Int} (h1 : xs[k]? = some x) (h2 : p x = true) (h3 : ∀ x ∈ xs.take k, p x = false) : Kept p xs xs k (k + 1) := by
  obtain ⟨hk, e⟩ := List.getElem?_eq_some_iff.1 h1
  refine ⟨rfl, by omega, by omega, ?_, fun _ _ => rfl⟩
  rw [take_snoc h1, List.filter_append]
  have : (xs.take k).filter (fun x => !p x) = xs.take k := List.filter_eq_self.2 fun x hx => by simp [h3 x hx]
  rw [this]; simp [h2]
theorem Kept.skip {p : Int → Bool} {xs ks : List Int} {i j : Nat} {x : Int} (h : Kept p xs ks i j) (h1 : xs[j]? = some x) (h2 : p x = true) : Kept p xs ks i (j + 1) := by
  obtain ⟨hk, e⟩ := List.getElem?_eq_some_iff.1 h1
  obtain ⟨a, b, c, d, f⟩ := h
  refine ⟨a, by omega, by omega, ?_, fun q hq => f q (by omega)⟩
  rw [take_snoc h1, List.filter_append, d]; simp [h2]
theorem Kept.keep {p : Int → Bool} {xs ks : List Int} {i j : Nat} {x : Int} (h : Kept p xs ks i j) (h1 : xs[j]? = some x) (h2 : p x = false) : Kept p xs (ks.set i x) (i + 1) (j + 1) := by
  obtain ⟨hk, e⟩ := List.getElem?_eq_some_iff.1 h1
  obtain ⟨a, b, c, d, f⟩ := h
  refine ⟨by simpa using a, by omega, by omega, ?_, fun q hq => ?_⟩
  · have hs : (ks.set i x)[i]? = some x := by rw [List.getElem?_set_self (by omega)]
    rw [take_snoc hs, List.take_set_of_le (Nat.le_refl _), d, take_snoc h1, List.filter_append]; simp [h2]
  · rw [List.getElem?_set_ne (by omega)]; exact f q (by omega)
theorem Kept.done {p : Int → Bool} {xs ks : List Int} {i : Nat} (h : Kept p xs ks i xs.length) : ks.take i = xs.filter (fun x => !p x) := by
  obtain ⟨a, b, c, d, f⟩ := h
  rw [d, List.take_length]
end Go.Proofs.YtghigdcpinengaaGreat

/-! container/heap: Push and Pop over treebijection.queue. -/
namespace Go.Proofs.YtghigdcpinengaaGreat
open Go.RowKit

theorem own_lenH {w : World} {base : Nat} {A : Option Addr} {c : Nat} {xs : List Int} {n : Nat} (h : OwnI w base A c xs) (hn : xs.length = n) : w.ownsRow base 3 1 (.slice A n c) n (ints xs) := by subst hn; exact h
theorem UpI.push {H : List Int} {x : Int} {n : Nat} (hl : H.length = n) (h : HeapN H n) : UpI (H ++ [x]) (n + 1) n := by subst hl; exact UpI.start h

theorem assert_int (x : Int) (w : World) : (Instr.typeAssert (.iface 3 (.int .i64 x)) 20 3 false).run Tryz.prog w = .ok (.int .i64 x) w := by kernel_rfl
set_option maxHeartbeats 4000000 in
set_option maxRecDepth 100000 in
theorem qpush_any (b o base : Nat) (T : TypeId) (hT : 3 ≠ T) (cs : Array Value) (A : Option Addr) (c : Nat) (H : List Int) (n : Nat) (hn : H.length = n) (hn1 : n ≤ 1000) (x : Int) (w : World) (hO : OwnI w base A c H) (hbase : base ≤ w.heap.size) (hblk : Blk w b T cs) (hcs : cs[o]? = some (.slice A n c)) :
    Calls Tryz.prog 213 #[.pointer (some ⟨b, o, none⟩), .iface 3 (.int .i64 x)] w fun e w' => e = .returned (.tuple #[]) ∧ ∃ A' c', OwnI w' base A' c' (H ++ [x]) ∧ Blk w' b T (cs.setIfInBounds o (.slice A' (n + 1) c')) ∧ Only (fun k => ofA A k ∨ k = b) w w' ∧ (∀ k, ofA A' k → ofA A k ∨ w.heap.size ≤ k) := by
  have kc := (hblk.cell o).trans hcs
  have hfz := hblk.frozen o
  have hown := own_lenH hO hn
  have hblt := hblk.lt
  have hnb : ∀ k, blockOf A k → k ≠ b := fun k hk => own_blk hown hblk hT hk
  go_enter Tryz.func213, Tryz.ntmps213
  go_wp2_with fail
  have hta := fun w => assert_int x w
  have hol := hown.alloc (.cells #[.int .i64 x] 3)
  have kc1 : (w.alloc (.cells #[.int .i64 x] 3)).cell? ⟨b, o, none⟩ = some (.slice A n c) := ((hblk.alloc _).cell o).trans hcs
  go_region_law (refine append_step2 rfl (.tmp 7) (.tmp 10) _ _ rfl base 3 3 Tryz.underlying87 Tryz.underlying87 info_int rfl (by omega) A c n (ints H) rfl ?_ (w.heap.size + 1) [.int .i64 x] rfl ?_ (by simp [Value.oneCell']) (by omega) ?_ ?_
                 · exact hol
                 · exact Reads.box w _ _
                 · exact Nat.le_trans hbase (by simp)
                 intro A5 c5 w5 hown5 hg5 hb5 hd5
                 have b5 : Blk w5 b T cs := (hg5.block b (by simp; omega) (fun e => hnb b (blockOf_own.1 e.symm) rfl)).trans (hblk.alloc _)
                 have kc5 := (b5.cell o).trans hcs
                 have fz5 := b5.frozen o)
  all_goals (
    have O5 : Hid (OwnI (w5.setCell ⟨b, o, none⟩ (.slice A5 (n + 1) c5)) base A5 c5 (H ++ [x])) := by
      have h6 : OwnI w5 base A5 c5 (H ++ [x]) := by unfold OwnI; rw [List.length_append, hn, ints_snoc]; exact hown5
      exact own_kept h6 fun k hk => Below.heap_setCell w5 ⟨b, o, none⟩ _ k (own_blk h6 b5 hT hk)
    have D5 : Hid (∀ k, ofA A5 k → ofA A k ∨ w.heap.size ≤ k) := by
      intro k hk
      have hk2 : (Value.slice A5 (n + 1) c5).ownBlock = some k := blockOf_own.2 hk
      rcases hd5 with hd5 | hd5
      · rw [hd5] at hk2; exact .inl (blockOf_own.1 hk2)
      · rw [hd5] at hk2; injection hk2 with hk2; subst hk2; exact .inr (by simp)
    have W5 : Hid (Only (fun k => ofA A k ∨ k = b) w (w5.setCell ⟨b, o, none⟩ (.slice A5 (n + 1) c5))) := by
      have hz : w.heap.size + 1 ≤ w5.heap.size := Nat.le_trans (by simp) hg5.size
      refine ⟨hg5.os, hg5.tape, hg5.output, ?_, fun k hk hC => ?_⟩
      · show w.heap.size ≤ (w5.setCell ⟨b, o, none⟩ (.slice A5 (n + 1) c5)).heap.size
        simp only [World.setCell, Array.size_modify]; omega
      · refine (Below.heap_setCell w5 ⟨b, o, none⟩ _ k (fun e => hC (.inr e))).trans ((hg5.block k (by simp; omega) (fun e => hC (.inl (blockOf_own.1 e.symm)))).trans ?_)
        exact Below.heap_alloc w _ k hk
    go_wp2
    exact bodyPost_end (results_none rfl _ _ _) rfl ⟨rfl, A5, c5, O5.out, b5.set_ o _, W5.out, D5.out⟩)

theorem Only.trans2 {C D : Nat → Prop} {w w1 w2 : World} (h1 : Only C w w1) (h2 : Only D w1 w2) (hD : ∀ k, k < w.heap.size → D k → C k) : Only C w w2 :=
  ⟨h2.os.trans h1.os, h2.tape.trans h1.tape, h2.output.trans h1.output, Nat.le_trans h1.size h2.size, fun k hk hC => (h2.block k (Nat.lt_of_lt_of_le hk h1.size) (fun hd => hC (hD k hk hd))).trans (h1.block k hk hC)⟩

theorem qlen_any (A : Option Addr) (n c : Nat) (w : World) : Calls Tryz.prog 140 #[.slice A n c] w fun e w' => e = .returned (.int .i64 n) ∧ w = w' := by
  go_enter Tryz.func140, Tryz.ntmps140
  go_wp2
  go_ret
  exact ⟨rfl, rfl⟩
set_option maxHeartbeats 4000000 in
set_option maxRecDepth 100000 in
theorem hpush_any (b o base : Nat) (T : TypeId) (hT : 3 ≠ T) (cs : Array Value) (hos : o < cs.size) (A : Option Addr) (c : Nat) (H : List Int) (n : Nat) (hn : H.length = n) (hn1 : n ≤ 900) (hH : HeapN H n) (x : Int) (w : World) (hO : OwnI w base A c H) (hbase : base ≤ w.heap.size) (hblk : Blk w b T cs) (hcs : cs[o]? = some (.slice A n c)) :
    Calls Tryz.prog 157 #[.iface 179 (.pointer (some ⟨b, o, none⟩)), .iface 3 (.int .i64 x)] w fun e w' => e = .returned (.tuple #[]) ∧ ∃ A' c' H', H'.length = n + 1 ∧ H'.Perm (x :: H) ∧ HeapN H' (n + 1) ∧ OwnI w' base A' c' H' ∧ Blk w' b T (cs.setIfInBounds o (.slice A' (n + 1) c')) ∧ Only (fun k => ofA A k ∨ k = b) w w' ∧ (∀ k, ofA A' k → ofA A k ∨ w.heap.size ≤ k) := by
  have mP : ∀ k, (method (k + 1) 179 (.pointer (some ⟨b, o, none⟩)) "Push").run Tryz.prog w = .ok (213, .pointer (some ⟨b, o, none⟩)) w := fun k => run_method_own ml_push Tryz.underlying179 k _ _
  have PC := Lib.hid (qpush_any b o base T hT cs A c H n hn (by omega) x w hO hbase hblk hcs)
  have HUP := Lib.hid (UpI.push (x := x) hn hH)
  have HL : Hid ((H ++ [x]).length = n + 1) := by rw [Hid, List.length_append, hn]; rfl
  have HPM : Hid ((H ++ [x]).Perm (x :: H)) := List.perm_append_comm
  have HBL := Lib.hid hblk.lt
  have HOS := Lib.hid hos
  clear hH hn hO hblk hcs
  go_enter Tryz.func157, Tryz.ntmps157
  go_wp2_with fail
  refine (PC.out).mono ?_
  rintro e w1 ⟨rfl, A1, c1, o1, b1, W1, D1⟩
  have hc1 : (cs.setIfInBounds o (.slice A1 (n + 1) c1))[o]? = some (.slice A1 (n + 1) c1) := by
    rw [Array.getElem?_setIfInBounds, if_pos rfl, if_pos HOS.out]
  have kc := (b1.cell o).trans hc1
  have hba : ¬ ofA A1 b := fun hk => own_blk (own_lenH o1 HL.out) b1 hT hk rfl
  have mN : ∀ k, (method (k + 1) 179 (.pointer (some ⟨b, o, none⟩)) "Len").run Tryz.prog w1 = .ok (140, .slice A1 (n + 1) c1) w1 := fun k => run_method_ptr ml_len Tryz.underlying179 ml_agg k _ _ _ kc
  have hw1 : IntKind.i64.wrap ((n : Int) + 1 - 1) = (n : Int) := by rw [IntWalk.i64_in _ (by omega)]; omega
  have hw2 : ((n : Int) + 1 - 1) = (n : Int) := by omega
  have UC := Lib.hid (up_any b o base T (cs.setIfInBounds o (.slice A1 (n + 1) c1)) A1 c1 (H ++ [x]) (n + 1) HL.out (by omega) n HUP.out w1 o1 b1 hc1 hba)
  have B1 := Lib.hid b1
  have D1 := Lib.hid D1
  have W1 := Lib.hid W1
  clear mP kc b1 hc1
  go_wp2_with fail
  refine (qlen_any _ _ _ _).mono ?_
  rintro e w9 ⟨rfl, rfl⟩
  go_wp2_with fail
  refine (UC.out).mono ?_
  rintro e w2 ⟨rfl, H2, l2, p2, h2, o2, W2⟩
  have HF : Hid (Blk w2 b T (cs.setIfInBounds o (.slice A1 (n + 1) c1)) ∧ Only (fun k => ofA A k ∨ k = b) w w2) := ⟨B1.out.only W2 hba, W1.out.trans2 W2 fun k hk hd => by
    rcases D1.out k hd with h | h
    · exact .inl h
    · omega⟩
  go_wp2
  exact bodyPost_end (results_none rfl _ _ _) rfl ⟨rfl, A1, c1, H2, l2, p2.trans HPM.out, h2, o2, HF.out.1, HF.out.2, D1.out⟩

set_option maxHeartbeats 4000000 in
set_option maxRecDepth 100000 in
theorem qpop_any (b o base : Nat) (T : TypeId) (hT : 3 ≠ T) (cs : Array Value) (A : Option Addr) (c : Nat) (H : List Int) (n : Nat) (hn : H.length = n + 1) (hn1 : n ≤ 1000) (w : World) (hO : OwnI w base A c H) (hblk : Blk w b T cs) (hcs : cs[o]? = some (.slice A (n + 1) c)) :
    Calls Tryz.prog 212 #[.pointer (some ⟨b, o, none⟩)] w fun e w' => e = .returned (.iface 3 (.int .i64 (hp H n))) ∧ OwnI w' base A c (H.take n) ∧ Blk w' b T (cs.setIfInBounds o (.slice A n c)) ∧ Only (fun k => k = b) w w' := by
  obtain ⟨g, hA, hg, hfr, hce⟩ := hO.block (by omega)
  subst hA
  have hcap := hO.cap
  have kc := (hblk.cell o).trans hcs
  have fz := hblk.frozen o
  have cn := hce n _ (hp_at (by omega))
  have hgb : g ≠ b := own_blk (own_lenH hO hn) hblk hT ⟨_, rfl, rfl⟩
  have hw1 : IntKind.i64.wrap (((n + 1 : Nat) : Int) - 1) = (n : Int) := by rw [IntWalk.i64_in _ (by omega)]; omega
  have hw2 : IntKind.i64.wrap ((n : Int) + 1 - 1) = (n : Int) := by rw [IntWalk.i64_in _ (by omega)]; omega
  have hn0 : (0 : Int) ≤ (n : Int) := by omega
  have hn2 : (n : Int) < (n : Int) + 1 := by omega
  have hn3 : (n : Int) ≤ (c : Int) := by omega
  have hc0 : ¬ c = 0 := by omega
  have HO := Lib.hid (hO.cut n (by omega))
  have HBK := Lib.hid hblk
  obtain ⟨y, hy⟩ : ∃ y, hp H n = y := ⟨_, rfl⟩
  rw [hy] at cn ⊢
  clear hfr hce hy hO hblk hcs hcap hn
  go_enter Tryz.func212, Tryz.ntmps212
  go_wp2
  go_ret
  exact ⟨rfl, own_kept HO.out fun k hk => Below.heap_setCell w ⟨b, o, none⟩ _ k (by obtain ⟨a, ha, hk⟩ := hk; injection ha with ha; subst ha; subst hk; exact hgb), HBK.out.set_ o _, Only.setCell (C := fun k => k = b) (Only.refl _ w) (p := ⟨b, o, none⟩) (.inl rfl) _⟩

set_option maxHeartbeats 4000000 in
set_option maxRecDepth 100000 in
theorem hpop_any (b o base : Nat) (T : TypeId) (hT : 3 ≠ T) (cs : Array Value) (A : Option Addr) (c : Nat) (H : List Int) (n : Nat) (hn : H.length = n + 1) (hn1 : n ≤ 900) (hH : HeapN H (n + 1)) (w : World) (hO : OwnI w base A c H) (hblk : Blk w b T cs) (hcs : cs[o]? = some (.slice A (n + 1) c)) :
    Calls Tryz.prog 141 #[.iface 179 (.pointer (some ⟨b, o, none⟩))] w fun e w' => ∃ (x : Int) (H' : List Int), e = .returned (.iface 3 (.int .i64 x)) ∧ H'.length = n ∧ (x :: H').Perm H ∧ (∀ y ∈ H, x ≤ y) ∧ HeapN H' n ∧ OwnI w' base A c H' ∧ Blk w' b T (cs.setIfInBounds o (.slice A n c)) ∧ Only (fun k => ofA A k ∨ k = b) w w' := by
  have kc := (hblk.cell o).trans hcs
  have hba : ¬ ofA A b := fun hk => own_blk (own_lenH hO hn) hblk hT hk rfl
  have hw1 : IntKind.i64.wrap (((n + 1 : Nat) : Int) - 1) = (n : Int) := by rw [IntWalk.i64_in _ (by omega)]; omega
  have hw2 : IntKind.i64.wrap ((n : Int) + 1 - 1) = (n : Int) := by rw [IntWalk.i64_in _ (by omega)]; omega
  have hw3 : (n : Int) + 1 - 1 = (n : Int) := by omega
  have SC := Lib.hid (qswap_any base A c H (n + 1) hn 0 n (by omega) (by omega) w hO)
  have mN : ∀ k, (method (k + 1) 179 (.pointer (some ⟨b, o, none⟩)) "Len").run Tryz.prog w = .ok (140, .slice A (n + 1) c) w := fun k => run_method_ptr ml_len Tryz.underlying179 ml_agg k _ _ _ kc
  have mS : ∀ k, (method (k + 1) 179 (.pointer (some ⟨b, o, none⟩)) "Swap").run Tryz.prog w = .ok (211, .slice A (n + 1) c) w := fun k => run_method_ptr ml_swap Tryz.underlying179 ml_agg k _ _ _ kc
  have HDN := Lib.hid (DnI.start hH hn)
  have HSL : Hid ((swp H 0 n).length = n + 1) := by rw [Hid, swp_length, hn]
  have HSP := Lib.hid (swp_perm (H := H) (i := 0) (j := n) (by omega) (by omega))
  have HSN : Hid (hp (swp H 0 n) n = hp H 0) := by rw [Hid, hp_swp (by omega) (by omega), if_pos rfl]
  have HMN : Hid (∀ y ∈ H, hp H 0 ≤ y) := fun y hy => by
    obtain ⟨k, hk⟩ := List.getElem?_of_mem hy
    have hkl := (List.getElem?_eq_some_iff.1 hk).1
    have h1 := heap_min hH k (by omega)
    rw [hp_at hkl] at hk
    injection hk with hk
    omega
  have HCS := Lib.hid hcs
  clear hH hn hO kc hcs
  go_enter Tryz.func141, Tryz.ntmps141
  go_wp2_with fail
  refine (qlen_any _ _ _ _).mono ?_
  rintro e w9 ⟨rfl, rfl⟩
  go_wp2_with fail
  refine (SC.out).mono ?_
  rintro e w1 ⟨rfl, o1, W1⟩
  have b1 := hblk.only W1 hba
  have DC := Lib.hid (down_any b o base T cs A c (swp H 0 n) (n + 1) n HSL.out (by omega) (by omega) HDN.out w1 o1 b1 HCS.out hba)
  have W1 := Lib.hid W1
  clear mN mS
  go_wp2_with fail
  refine (DC.out).mono ?_
  rintro e w2 ⟨bb, rfl, H2, l2, p2, h2, o2, W2, t2⟩
  have b2 := b1.only W2 hba
  have QC := Lib.hid (qpop_any b o base T hT cs A c H2 n l2 (by omega) w2 o2 b2 HCS.out)
  have mP : ∀ k, (method (k + 1) 179 (.pointer (some ⟨b, o, none⟩)) "Pop").run Tryz.prog w2 = .ok (212, .pointer (some ⟨b, o, none⟩)) w2 := fun k => run_method_own ml_pop Tryz.underlying179 k _ _
  have HX : Hid (hp H2 n = hp H 0) := (t2 n (Nat.le_refl _)).trans HSN.out
  have HPM : Hid ((hp H 0 :: H2.take n).Perm H) := by
    have e1 : H2 = H2.take n ++ [hp H2 n] := by
      have := List.take_append_drop n H2
      have hd : H2.drop n = [hp H2 n] := by
        rw [List.drop_eq_getElem_cons (by omega), List.drop_eq_nil_of_le (by omega)]
        unfold hp; rw [List.getD_eq_getElem?_getD, List.getElem?_eq_getElem (by omega)]; rfl
      rw [hd] at this; exact this.symm
    have h3 : (hp H2 n :: H2.take n).Perm H2 := by
      conv => rhs; rw [e1]
      exact (List.perm_append_singleton _ _).symm
    rw [HX.out] at h3
    exact h3.trans (p2.trans HSP.out)
  have HHP : Hid (HeapN (H2.take n) n) := heap_take h2 (by omega)
  have HTL : Hid ((H2.take n).length = n) := by rw [Hid, List.length_take]; omega
  have W2 := Lib.hid (W1.out.trans W2)
  clear l2 p2 h2 t2 o2
  go_wp2_with fail
  refine (QC.out).mono ?_
  rintro e w3 ⟨rfl, o3, b3, W3⟩
  have HW3 : Hid (Only (fun k => ofA A k ∨ k = b) w w3) := (W2.out.mono fun _ _ h => .inl h).trans2 W3 fun k _ hk => .inr hk
  go_wp2
  go_ret
  exact ⟨hp H 0, H2.take n, by rw [← HX.out]; rfl, HTL.out, HPM.out, HMN.out, HHP.out, o3, b3, HW3.out⟩
end Go.Proofs.YtghigdcpinengaaGreat

