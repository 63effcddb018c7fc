/-
  The lists of parking functions: listed, All, Primitive.
-/
import Derived.Test.YtjeggocindcgaaaFns2
namespace Go.Proofs.Ytjeggocindcgaaa
open Go.RowKit Go.Shelf
attribute [local go_sem] Oper.semAt_some

set_option maxHeartbeats 400000 in
theorem listed_bad (lf : Nat) (n : Int) (hc : carsB n = false) (w : World) :
    Calls Try.prog 49 #[.int .i64 n, .func (.func lf) #[] #[]] w fun e w' =>
      e = .returned (.tuple #[.slice none 0 0, .int .i64 2]) ∧ Below w.heap.size w w' := by
  go_enter Try.func49, Try.ntmps49
  go_wp2_with (go_at_call 47; refine (cars_any _ _).mono ?_; rintro e w' ⟨rfl, rfl⟩)
  refine bodyPost_ret (v := .tuple #[.slice none 0 0, .int .i64 2]) (by simp [results, Try.results49, go_sem]) rfl ⟨rfl, ?_⟩
  exact ((Below.refl _ _).alloc (Nat.le_refl _) _).alloc (by simp) _
set_option maxHeartbeats 1000000 in
theorem listed_any (lf : Nat) (least : List Int → Int) (hlf : LeastOK lf least) (n : Nat) (hc : carsB n = true) (xss : List (List Int)) (hx : pfl n least n [] = xss) (hlen : xss.length ≤ 16384) (w : World) :
    Calls Try.prog 49 #[.int .i64 n, .func (.func lf) #[] #[]] w fun e w' =>
      ∃ A c vs, e = .returned (.tuple #[.slice A xss.length c, .int .i64 0]) ∧ OwnRows w' w.heap.size A c vs xss ∧ Below w.heap.size w w' := by
  have hle := carsB_le hc
  have HX := Lib.hid hx
  clear hx
  refine (callsIn_wide (n := 3)).1 ?_
  refine callsIn_of_wp_marks Try.func49 rfl trivial ?_
  simp only [Try.ntmps49, List.size_toArray, List.length_cons, List.length_nil, Nat.reduceAdd, Nat.reduceSub, Array.replicate_succ, Array.replicate_zero, List.push_toArray, List.append_toArray, List.nil_append, List.cons_append]
  gi_wp2_with fail
  refine ⟨trivial, ?_⟩
  refine (inW (cars_any n _)).mono ?_
  rintro e w1 ⟨rfl, hw1⟩
  gi_wp2_with fail
  refine ⟨trivial, ?_⟩
  refine (inW (functions_any n none 0 0 lf _)).mono ?_
  rintro e w2 ⟨rfl, hw2⟩
  gi_wp2_with fail
  have hs1 : w1.heap.size = w.heap.size + 2 := by rw [← hw1]; simp
  have hs2 : w2.heap.size = w.heap.size + 6 := by rw [← hw2]; simp [hs1]
  have r4 : Blk w1 w.heap.size 38 #[.slice none 0 0] := by rw [← hw1]; exact (Blk.new _ _ _).alloc _
  have r5 : Blk w1 (w.heap.size + 1) 24 #[.int .i64 0] := by rw [← hw1]; have := Blk.new (w.alloc (.cells #[.slice none 0 0] 38)) 24 #[.int .i64 0]; simpa using this
  have h12 : Below w1.heap.size w1 w2 := by rw [← hw2]; exact ((((Below.refl _ _).alloc (Nat.le_refl _) _).alloc (by simp) _).alloc (by simp; omega) _).alloc (by simp; omega) _
  have hw01 : Below w.heap.size w w1 := by rw [← hw1]; exact ((Below.refl _ _).alloc (Nat.le_refl _) _).alloc (by simp) _
  have r6 : Blk w2 (w.heap.size + 2) 38 #[.slice none 0 0] := by rw [← hw2, ← hs1]; exact (((Blk.new _ _ _).alloc _).alloc _).alloc _
  have q2 : Blk w2 (w.heap.size + 3) 3 #[.int .i64 n] := by rw [← hw2]; have := ((Blk.new (w1.alloc (.cells #[.slice none 0 0] 38)) 3 #[.int .i64 n]).alloc (.cells #[.slice none 0 0] 22)).alloc (.cells #[.func (.func lf) #[] #[]] 43); simpa [hs1] using this
  have q1 : Blk w2 (w.heap.size + 4) 22 #[.slice none 0 0] := by rw [← hw2]; have := (Blk.new ((w1.alloc (.cells #[.slice none 0 0] 38)).alloc (.cells #[.int .i64 n] 3)) 22 #[.slice none 0 0]).alloc (.cells #[.func (.func lf) #[] #[]] 43); simpa [hs1] using this
  have q3 : Blk w2 (w.heap.size + 5) 43 #[.func (.func lf) #[] #[]] := by rw [← hw2]; have := Blk.new (((w1.alloc (.cells #[.slice none 0 0] 38)).alloc (.cells #[.int .i64 n] 3)).alloc (.cells #[.slice none 0 0] 22)) 43 #[.func (.func lf) #[] #[]]; simpa [hs1] using this
  have r4' := r4.next h12
  have r5' := r5.next h12
  have hw02 : Below w.heap.size w w2 := hw01.trans (h12.mono (by omega))
  clear hw1 hw2 r4 r5 h12 hw01
  have HLF := Lib.hid hlf
  clear hlf
  refine range_outer (n := 3) (gf := 93) (lb := #[.pointer (some ⟨w1.heap.size + 1 + 1, 0, none⟩), .pointer (some ⟨w1.heap.size + 1, 0, none⟩), .pointer (some ⟨w1.heap.size + 1 + 1 + 1, 0, none⟩)]) rfl (enters_of Try.func93 (by kernel_rfl) rfl)
    (K := fun k => k = w.heap.size + 4 ∨ k = w.heap.size + 3 ∨ k = w.heap.size + 5 ∨ blockOf none k) (xs := xss)
    (by rw [hs1, ← HX.out]; exact functions_iter lf least HLF.out n (by omega) n [] (by simp) (by simp) (w.heap.size + 4) (w.heap.size + 3) (w.heap.size + 5) none 0 w2 q1 q2 q3 Reads.nil_ (by rintro k ⟨a, h, _⟩; cases h)) ?hK (fun k => k = w.heap.size + 2) ?hC
    (fun pre C W => ∃ A c vs, Blk W (w.heap.size + 2) 38 #[.slice A pre.length c] ∧ OwnRows W w.heap.size A c vs pre ∧ C (w.heap.size + 2) ∧ (∀ k, rowBlock A vs k → C k) ∧ Below w.heap.size w W ∧
      Blk W w.heap.size 38 #[.slice none 0 0] ∧ Blk W (w.heap.size + 1) 24 #[.int .i64 0] ∧ (∀ k, C k → k = w.heap.size + 2 ∨ w.heap.size + 6 ≤ k))
    (fun _ _ _ _ => False) ?hI (fun _ _ _ _ _ h _ => h) ?h0 ?hps ?round ?done (fun _ _ _ _ _ h => h.elim)
  case hK =>
    rintro k (rfl | rfl | rfl | ⟨a, h, _⟩)
    · omega
    · omega
    · omega
    · cases h
  case hC =>
    rintro k rfl
    refine ⟨by omega, ?_⟩
    rintro (e | e | e | ⟨a, h, _⟩)
    · omega
    · omega
    · omega
    · cases h
  case hI =>
    rintro pre C a b ⟨A, c, vs, i1, i2, i3, i4, i5, i6, i7, i8⟩ hst
    refine ⟨A, c, vs, i1.stays hst (.inl i3), i2.kept fun k hk => hst.block k (i2.lt hk).2 (.inl (i4 k hk)), i3, i4, i5.trans (hst.below (fun k hk => .inr ⟨by omega, id⟩) i5.size), i6.stays hst (.inr ⟨by omega, id⟩), i7.stays hst (.inr ⟨by omega, id⟩), i8⟩
  case h0 => exact ⟨none, 0, [], r6, OwnRows.nil_ _ _, rfl, (by rintro k (⟨a, h, _⟩ | ⟨v, h, _⟩) <;> cases h), hw02, r4', r5', fun k hk => .inl hk⟩
  case hps => rintro x' args O W' ⟨A', c', rfl, _⟩; rfl
  case round =>
    intro l pre x args C O W hpre hI hl hC hO harg hlW hnC hnO T hT
    obtain ⟨A, c, vs, i1, i2, i3, i4, i5, i6, i7, i8⟩ := hI
    obtain ⟨A8, c8, rfl, hown8, hO8⟩ := harg
    have hown8' : OwnI W w.heap.size A8 c8 x := own_rebase hown8 fun k hk => by have := (hO k (hO8 k hk)).2.2; omega
    have hpl : pre.length < 16384 := by
      obtain ⟨z, hz⟩ := hpre
      have := congrArg List.length hz
      simp at this
      omega
    clear hown8
    gi_wp2
    refine hT _ _ (Only.refl _ _) ?_
    intro w5 h5 _
    have hl5 : ∀ k, C k → k ≠ l := fun k hk e => hnC (e ▸ hk)
    have j1 : Blk w5 (w.heap.size + 2) 38 #[.slice A pre.length c] := i1.only h5 (by omega)
    have j2 : OwnRows w5 w.heap.size A c vs pre := i2.kept fun k hk => h5.block k (i2.lt hk).2 (hl5 k (i4 k hk))
    have j5 : Below w.heap.size w w5 := i5.trans (h5.below (fun k hk e => by omega) i5.size)
    have j6 := i6.only h5 (by omega)
    have j7 := i7.only h5 (by omega)
    have j8 : OwnI w5 w.heap.size A8 c8 x := own_kept hown8' fun k hk => h5.block k (own_lt hown8' hk).2 fun e => hnO (e ▸ hO8 k hk)
    have e1 := j1.cell 0
    have hC5 : ∀ k, C k → k < w5.heap.size := fun k hk => Nat.lt_of_lt_of_le (hC k hk) h5.size
    have hO5 : ∀ k, O k → w.heap.size + 6 ≤ k ∧ k < w5.heap.size := fun k hk => ⟨by have := (hO k hk).2.2; omega, Nat.lt_of_lt_of_le (hO k hk).2.1 h5.size⟩
    clear i1 i2 i5 i6 i7 hown8' hC hO
    gi_wp2_with (gi_at_builtin; refine append_gi rfl (.tmp 18) (.tmp 20) _ rfl w.heap.size 22 Try.underlying38 info_row rfl (by omega) A c pre.length vs rfl (World.ownsRow.alloc j2.1 _) _ [.slice A8 x.length c8] rfl (Reads.box _ _ _) (by simp [Value.oneCell']) (by omega) (by have := j5.size; simp; omega) ?_; intro A6 c6 w6 hown6 hg6 hb6 hw6; have k1 := (j1.alloc (.cells #[.slice A8 x.length c8] 22)).grown hg6 (own_blk_ne j2.1 j1 (by decide)); have e2 := k1.cell 0; have f2 := k1.frozen 0)
    have k2 : OwnRows w6 w.heap.size A6 c6 (vs ++ [.slice A8 x.length c8]) (pre ++ [x]) := OwnRows.push (j2.kept fun k hk => Below.heap_alloc _ _ _ (j2.lt hk).2) (OwnI.alloc j8 _) hown6 hg6
    have k3 : Only (fun k => C k ∨ O k) w5 w6 := ((Only.refl _ w5).alloc _).grown hg6 fun k hk => .inl (.inl (i4 k (.inl (blockOf_own.1 hk))))
    refine ⟨fun k => C k ∨ O k ∨ (w5.heap.size ≤ k ∧ k < w6.heap.size), k3.setCell (.inl (.inl i3)) _, fun k hk => ?_, A6, c6, vs ++ [.slice A8 x.length c8], ?_, ?_, .inl i3, ?_, ?_, ?_, ?_, ?_⟩
    · simpa [World.setCell] using hk
    · have := k1.set_ 0 (.slice A6 (pre.length + 1) c6)
      simpa using this
    · exact k2.set_blk k1 (by decide) (by decide) _ _
    · rintro k (hk | ⟨v, hv, hk⟩)
      · rcases hw6 with e | e
        · rw [blockOf_own.2 hk] at e
          exact .inl (i4 k (.inl (blockOf_own.1 e.symm)))
        · rw [blockOf_own.2 hk] at e
          injection e with e
          have hlt := (own_lt hown6 hk).2
          exact .inr (.inr ⟨by rw [e]; simp, hlt⟩)
      · rcases List.mem_append.1 hv with hv | hv
        · exact .inl (i4 k (.inr ⟨v, hv, hk⟩))
        · rw [List.mem_singleton.1 hv] at hk
          exact .inr (.inl (hO8 k (blockOf_own.1 hk)))
    · exact (j5.trans (k3.below (fun k hk e => by
        rcases e with e | e
        · have := i8 k e; omega
        · have := (hO5 k e).1; omega) j5.size)).setCell (by simp) _
    · exact (j6.only k3 (fun e => by
        rcases e with e | e
        · have := i8 _ e; omega
        · have := (hO5 _ e).1; omega)).far (by simp) _
    · exact (j7.only k3 (fun e => by
        rcases e with e | e
        · have := i8 _ e; omega
        · have := (hO5 _ e).1; omega)).far (by simp) _
    · rintro k (hk | hk | hk)
      · exact i8 k hk
      · exact .inr (hO5 k hk).1
      · exact .inr (by have := h5.size; omega)
  case done =>
    rintro C W ⟨A, c, vs, i1, i2, i3, i4, i5, i6, i7, i8⟩ hnD hD
    have e1 := i1.cell 0
    have e4 := i6.cell 0
    have e5 := i7.cell 0
    have f4 := i6.frozen 0
    have f5 := i7.frozen 0
    gi_wp2
    have g1 : Blk ((W.setCell ⟨w.heap.size, 0, none⟩ (.slice A xss.length c)).setCell ⟨w.heap.size + 1, 0, none⟩ (.int .i64 0)) w.heap.size 38 #[.slice A xss.length c] := by
      have := (i6.set_ 0 (.slice A xss.length c)).far (p := ⟨w.heap.size + 1, 0, none⟩) (by simp) (.int .i64 0)
      simpa using this
    have g2 : Blk ((W.setCell ⟨w.heap.size, 0, none⟩ (.slice A xss.length c)).setCell ⟨w.heap.size + 1, 0, none⟩ (.int .i64 0)) (w.heap.size + 1) 24 #[.int .i64 0] := by
      have := (i7.far (p := ⟨w.heap.size, 0, none⟩) (by simp) (.slice A xss.length c)).set_ 0 (.int .i64 0)
      simpa using this
    have g3 : OwnRows ((W.setCell ⟨w.heap.size, 0, none⟩ (.slice A xss.length c)).setCell ⟨w.heap.size + 1, 0, none⟩ (.int .i64 0)) w.heap.size A c vs xss :=
      (i2.set_blk i6 (by decide) (by decide) 0 _).set_blk (i7.far (p := ⟨w.heap.size, 0, none⟩) (by simp) _) (by decide) (by decide) 0 _
    have g4 : Below w.heap.size w ((W.setCell ⟨w.heap.size, 0, none⟩ (.slice A xss.length c)).setCell ⟨w.heap.size + 1, 0, none⟩ (.int .i64 0)) := (i5.setCell (Nat.le_refl _) _).setCell (by simp) _
    have g5 : ((W.setCell ⟨w.heap.size, 0, none⟩ (.slice A xss.length c)).setCell ⟨w.heap.size + 1, 0, none⟩ (.int .i64 0)).heap[w2.heap.size]? = some (.deferred (some [])) :=
      (Below.heap_setCell _ _ _ _ (by simp; omega)).trans ((Below.heap_setCell _ _ _ _ (by simp; omega)).trans hD)
    have g6 : ∀ k, rowBlock A vs k → k ≠ w2.heap.size := fun k hk e => hnD (e ▸ i4 k hk)
    obtain ⟨Wf, hWf⟩ : ∃ Wf, (W.setCell ⟨w.heap.size, 0, none⟩ (.slice A xss.length c)).setCell ⟨w.heap.size + 1, 0, none⟩ (.int .i64 0) = Wf := ⟨_, rfl⟩
    rw [hWf] at g1 g2 g3 g4 g5 ⊢
    have p1 := Only.put_one Wf w2.heap.size (.deferred none)
    have p2 := (g1.only p1 (by omega)).cell 0
    have p3 := (g2.only p1 (by omega)).cell 0
    refine end_mark (v := .tuple #[.slice A xss.length c, .int .i64 0]) g5 (by simp [results, Try.results49, go_sem, p2, p3]) ⟨A, c, vs, rfl, g3.kept fun k hk => p1.block k (g3.lt hk).2 (g6 k hk), g4.trans (p1.below (fun k hk e => by omega) g4.size)⟩

theorem least0_ok : LeastOK 50 (fun _ => 0) :=
  ⟨enters_of Try.func50 (by kernel_rfl) rfl, fun _ _ => Int.le_refl _, fun A c b w _ h => least0_any A c b w h⟩
theorem lastOr_nonneg (b : List Int) (h : ∀ x ∈ b, 0 ≤ x) : 0 ≤ lastOr b := by
  unfold lastOr
  rcases hb : b.getLast? with _ | x
  · simp
  · exact h x (List.mem_of_getLast? hb)
theorem least1_ok : LeastOK 51 lastOr :=
  ⟨enters_of Try.func51 (by kernel_rfl) rfl, lastOr_nonneg, fun A c b w hn h => least1_any A c b (by omega) w h⟩

set_option maxHeartbeats 400000 in
theorem pall_any (n : Nat) (hc : carsB n = true) (xss : List (List Int)) (hx : pfl n (fun _ => 0) n [] = xss) (hlen : xss.length ≤ 16384) (w : World) :
    Calls Try.prog 20 #[.int .i64 n] w fun e w' =>
      ∃ A c vs, e = .returned (.tuple #[.slice A xss.length c, .int .i64 0]) ∧ OwnRows w' w.heap.size A c vs xss ∧ Below w.heap.size w w' := by
  have H := Lib.hid (listed_any 50 (fun _ => 0) least0_ok n hc xss hx hlen w)
  clear hx hc
  go_enter Try.func20, Try.ntmps20
  go_wp2_with (go_at_call 49; refine (H.out).mono ?_; rintro e w' ⟨A, c, vs, rfl, h1, h2⟩)
  go_ret2
  exact ⟨A, c, vs, rfl, h1, h2⟩
set_option maxHeartbeats 400000 in
theorem pall_bad (n : Int) (hc : carsB n = false) (w : World) :
    Calls Try.prog 20 #[.int .i64 n] w fun e w' => e = .returned (.tuple #[.slice none 0 0, .int .i64 2]) ∧ Below w.heap.size w w' := by
  have H := Lib.hid (listed_bad 50 n hc w)
  clear hc
  go_enter Try.func20, Try.ntmps20
  go_wp2_with (go_at_call 49; refine (H.out).mono ?_; rintro e w' ⟨rfl, h2⟩)
  go_ret2
  exact ⟨rfl, h2⟩
set_option maxHeartbeats 400000 in
theorem pprim_any (n : Nat) (hc : carsB n = true) (xss : List (List Int)) (hx : pfl n lastOr n [] = xss) (hlen : xss.length ≤ 16384) (w : World) :
    Calls Try.prog 21 #[.int .i64 n] w fun e w' =>
      ∃ A c vs, e = .returned (.tuple #[.slice A xss.length c, .int .i64 0]) ∧ OwnRows w' w.heap.size A c vs xss ∧ Below w.heap.size w w' := by
  have H := Lib.hid (listed_any 51 lastOr least1_ok n hc xss hx hlen w)
  clear hx hc
  go_enter Try.func21, Try.ntmps21
  go_wp2_with (go_at_call 49; refine (H.out).mono ?_; rintro e w' ⟨A, c, vs, rfl, h1, h2⟩)
  go_ret2
  exact ⟨A, c, vs, rfl, h1, h2⟩
set_option maxHeartbeats 400000 in
theorem pprim_bad (n : Int) (hc : carsB n = false) (w : World) :
    Calls Try.prog 21 #[.int .i64 n] w fun e w' => e = .returned (.tuple #[.slice none 0 0, .int .i64 2]) ∧ Below w.heap.size w w' := by
  have H := Lib.hid (listed_bad 51 n hc w)
  clear hc
  go_enter Try.func21, Try.ntmps21
  go_wp2_with (go_at_call 49; refine (H.out).mono ?_; rintro e w' ⟨rfl, h2⟩)
  go_ret2
  exact ⟨rfl, h2⟩
end Go.Proofs.Ytjeggocindcgaaa
