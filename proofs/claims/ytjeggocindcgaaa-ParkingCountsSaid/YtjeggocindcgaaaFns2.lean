/-
  The enumeration of the parking functions: the iterator where cars are to come: it ranges over itself.
-/
import Derived.Test.YtjeggocindcgaaaFns
namespace Go.Proofs.Ytjeggocindcgaaa
open Go.RowKit Go.Shelf
attribute [local go_sem] Oper.semAt_some

/-- What holds between two rounds; B: a bound of the blocks that are spoken of. -/
structure FFacts (lf : Nat) (n : Nat) (begun : List Int) (bb bn bl : Nat) (A : Option Addr) (c l : Nat) (J : List (List Int) → (Nat → Prop) → World → Prop) (W : World) (pre : List (List Int)) (C : Nat → Prop) (ds : List Deferred) (B : Nat) (w : World) : Prop where
  sz : W.heap.size < B
  szw : B ≤ w.heap.size
  b1 : Blk w bb 22 #[.slice A begun.length c]
  b2 : Blk w bn 3 #[.int .i64 n]
  b3 : Blk w bl 43 #[.func (.func lf) #[] #[]]
  rd : Reads w W.heap.size 1 A begun.length (ints begun)
  yb : Blk w W.heap.size 34 #[.func (.yield l) #[] #[]]
  lt : bb < W.heap.size ∧ bn < W.heap.size ∧ bl < W.heap.size
  j : J pre C w
  cl : ∀ k, C k → k < w.heap.size ∧ ¬ (k = bb ∨ k = bn ∨ k = bl ∨ blockOf A k) ∧ k ≠ W.heap.size
  mks : MarksAt ds w
  md : ∀ D, ({ target := .collected D, args := #[] } : Deferred) ∈ ds → W.heap.size < D ∧ D < B ∧ ¬ C D

theorem blockOf_lt {w : World} {B n : Nat} {A : Option Addr} {xs : List Value} (h : Reads w B 1 A n xs) (hn : 0 < n) {k : Nat} (hk : blockOf A k) : k < B := by
  obtain ⟨b, off, rfl, hb, _⟩ := h.2 hn
  obtain ⟨a, e, rfl⟩ := hk
  cases e
  exact hb

theorem FFacts.stays {lf n : Nat} {begun : List Int} {bb bn bl : Nat} {A : Option Addr} {c l : Nat} {J : List (List Int) → (Nat → Prop) → World → Prop} {W : World} {pre : List (List Int)} {C : Nat → Prop} {ds : List Deferred} {B B' : Nat} {w w' : World}
    (h : FFacts lf n begun bb bn bl A c l J W pre C ds B w) (hJ : Bears W.heap.size (fun _ => False) J) (hB : B ≤ B') (hst : Stays B' (fun _ => False) C w w') : FFacts lf n begun bb bn bl A c l J W pre C ds B w' := by
  have hsz := h.sz
  have hszw := h.szw
  have hlt := h.lt
  refine ⟨h.sz, Nat.le_trans h.szw hst.size, h.b1.stays hst (.inr ⟨by omega, id⟩), h.b2.stays hst (.inr ⟨by omega, id⟩), h.b3.stays hst (.inr ⟨by omega, id⟩), ?_, h.yb.stays hst (.inr ⟨by omega, id⟩), h.lt, ?_, ?_, ?_, h.md⟩
  · exact hst.reads h.rd (fun k hk => .inr ⟨by omega, id⟩) (by omega)
  · exact hJ _ _ _ _ h.j (hst.mono fun k _ hk => hk.imp id fun hk => ⟨by omega, hk.2⟩)
  · intro k hk
    obtain ⟨h1, h2⟩ := h.cl k hk
    exact ⟨Nat.lt_of_lt_of_le h1 hst.size, h2⟩
  · refine h.mks.keep fun D hD => ?_
    have := h.md D hD
    exact hst.block D (by omega) (.inr ⟨by omega, id⟩)

def lenV : Value → Nat | .slice _ n _ => n | _ => 0
theorem FFacts.raise {lf n : Nat} {begun : List Int} {bb bn bl : Nat} {A : Option Addr} {c l : Nat} {J : List (List Int) → (Nat → Prop) → World → Prop} {W : World} {pre : List (List Int)} {C : Nat → Prop} {ds : List Deferred} {B B' : Nat} {w : World}
    (h : FFacts lf n begun bb bn bl A c l J W pre C ds B w) (hB : B ≤ B') (hw : B' ≤ w.heap.size) : FFacts lf n begun bb bn bl A c l J W pre C ds B' w :=
  { h with sz := Nat.lt_of_lt_of_le h.sz hB, szw := hw, md := fun D hD => ⟨(h.md D hD).1, Nat.lt_of_lt_of_le (h.md D hD).2.1 hB, (h.md D hD).2.2⟩ }

theorem FFacts.round {lf n : Nat} {begun : List Int} {bb bn bl : Nat} {A : Option Addr} {c l : Nat} {J : List (List Int) → (Nat → Prop) → World → Prop} {W : World} {pre pre' : List (List Int)} {C O C' : Nat → Prop} {ds : List Deferred} {B : Nat} {w w' : World}
    (h : FFacts lf n begun bb bn bl A c l J W pre C ds B w) (hnA : ∀ k, blockOf A k → k < W.heap.size) (ho : Only (fun k => C k ∨ O k) w w') (hg : Grows C O C' w w') (hO : ∀ k, O k → B ≤ k ∧ k < w.heap.size) (hj : J pre' C' w') : FFacts lf n begun bb bn bl A c l J W pre' C' ds B w' := by
  have hsz := h.sz
  have hszw := h.szw
  have hlt := h.lt
  have hnot : ∀ k, k < B → ¬ C k → ¬ (C k ∨ O k) := fun k hk hn hco => hco.elim hn fun hok => by have := (hO k hok).1; omega
  have hn1 := fun hc => (h.cl bb hc).2.1 (.inl rfl)
  have hn2 := fun hc => (h.cl bn hc).2.1 (.inr (.inl rfl))
  have hn3 := fun hc => (h.cl bl hc).2.1 (.inr (.inr (.inl rfl)))
  have hn4 := fun hc => (h.cl W.heap.size hc).2.2 rfl
  refine ⟨h.sz, Nat.le_trans h.szw ho.size, h.b1.only ho (hnot _ (by omega) hn1), h.b2.only ho (hnot _ (by omega) hn2), h.b3.only ho (hnot _ (by omega) hn3), ?_, h.yb.only ho (hnot _ (by omega) hn4), h.lt, hj, ?_, ?_, ?_⟩
  · exact reads_only h.rd ho (by omega) fun k hk => hnot k (by have := hnA k hk; omega) fun hc => (h.cl k hc).2.1 (.inr (.inr (.inr hk)))
  · intro k hk
    rcases hg k hk with hc | hc | hc
    · obtain ⟨q1, q2⟩ := h.cl k hc
      exact ⟨Nat.lt_of_lt_of_le q1 ho.size, q2⟩
    · have := hO k hc
      refine ⟨Nat.lt_of_lt_of_le this.2 ho.size, ?_, by omega⟩
      rintro (e | e | e | e)
      · omega
      · omega
      · omega
      · have := hnA k e; omega
    · refine ⟨hc.2, ?_, by omega⟩
      rintro (e | e | e | e)
      · omega
      · omega
      · omega
      · have := hnA k e; omega
  · refine h.mks.keep fun D hD => ?_
    have := h.md D hD
    exact ho.block D (by omega) (hnot D (by omega) this.2.2)
  · intro D hD
    have := h.md D hD
    refine ⟨this.1, this.2.1, fun hc => ?_⟩
    rcases hg D hc with q | q | q
    · exact this.2.2 q
    · have := (hO D q).1; omega
    · omega

theorem clone_len (A : Option Addr) (c : Nat) (xs : List Int) (m : Nat) (hm : xs.length = m) (hn : m ≤ 1048000) (w : World) (h : Reads w w.heap.size 1 A m (ints xs)) :
    Calls Try.prog 43 #[.slice A m c] w fun e w' =>
      ∃ A' c', e = .returned (.slice A' m c') ∧ OwnI w' w.heap.size A' c' xs ∧ Below w.heap.size w w' := by
  subst hm
  exact clone_any A c xs hn w h

set_option maxHeartbeats 1000000 in
/-- The iterator, where cars are to come. -/
theorem functions_iterS (lf : Nat) (least : List Int → Int) (hlf : LeastOK lf least) (n : Nat) (hn : n ≤ 12) (f : Nat)
    (ih : ∀ (begun : List Int) (_ : begun.length + f = n) (_ : ∀ x ∈ begun, 0 ≤ x) (bb bn bl : Nat) (A : Option Addr) (c : Nat) (W0 : World)
      (_ : Blk W0 bb 22 #[.slice A begun.length c]) (_ : Blk W0 bn 3 #[.int .i64 n]) (_ : Blk W0 bl 43 #[.func (.func lf) #[] #[]]) (_ : Reads W0 W0.heap.size 1 A begun.length (ints begun)) (_ : ∀ k, blockOf A k → k < W0.heap.size),
      Iter Try.prog 93 #[.pointer (some ⟨bb, 0, none⟩), .pointer (some ⟨bn, 0, none⟩), .pointer (some ⟨bl, 0, none⟩)] ArgI (fun k => k = bb ∨ k = bn ∨ k = bl ∨ blockOf A k) (fun _ => False) (pfl n least f begun) W0)
    (begun : List Int) (hb : begun.length + (f + 1) = n) (hb0 : ∀ x ∈ begun, 0 ≤ x) (bb bn bl : Nat) (A : Option Addr) (c : Nat) (W0 : World)
    (h1 : Blk W0 bb 22 #[.slice A begun.length c]) (h2 : Blk W0 bn 3 #[.int .i64 n]) (h3 : Blk W0 bl 43 #[.func (.func lf) #[] #[]]) (h4 : Reads W0 W0.heap.size 1 A begun.length (ints begun)) (h5 : ∀ k, blockOf A k → k < W0.heap.size) :
    Iter Try.prog 93 #[.pointer (some ⟨bb, 0, none⟩), .pointer (some ⟨bn, 0, none⟩), .pointer (some ⟨bl, 0, none⟩)] ArgI (fun k => k = bb ∨ k = bn ∨ k = bl ∨ blockOf A k) (fun _ => False) (pfl n least (f + 1) begun) W0 := by
  intro l J Jx C W hL hC hJ hJx hY h0
  have k1 : Blk W bb 22 #[.slice A begun.length c] := (hL.block bb h1.lt (.inl rfl)).trans h1
  have k2 : Blk W bn 3 #[.int .i64 n] := (hL.block bn h2.lt (.inr (.inl rfl))).trans h2
  have k3 : Blk W bl 43 #[.func (.func lf) #[] #[]] := (hL.block bl h3.lt (.inr (.inr (.inl rfl)))).trans h3
  have k4 : Reads W W.heap.size 1 A begun.length (ints begun) := ⟨h4.1, fun hn => by
    obtain ⟨b, off, rfl, hb, hc⟩ := h4.2 hn
    exact ⟨b, off, rfl, by have := hL.size; omega, fun j u hu => (World.cell?_of_block (w := W0) (hL.block b hb (.inr (.inr (.inr ⟨_, rfl, rfl⟩))))).trans (hc j u hu)⟩⟩
  obtain ⟨Wy, hWy⟩ : ∃ Wy, W.alloc (.cells #[.func (.yield l) #[] #[]] 34) = Wy := ⟨_, rfl⟩
  have y1 : Blk Wy bb 22 #[.slice A begun.length c] := by rw [← hWy]; exact k1.alloc _
  have y2 : Blk Wy bn 3 #[.int .i64 n] := by rw [← hWy]; exact k2.alloc _
  have y3 : Blk Wy bl 43 #[.func (.func lf) #[] #[]] := by rw [← hWy]; exact k3.alloc _
  have y4 : Reads Wy Wy.heap.size 1 A begun.length (ints begun) := by rw [← hWy]; exact (k4.alloc (Nat.le_refl _) _).more (by simp)
  have y5 : Blk Wy W.heap.size 34 #[.func (.yield l) #[] #[]] := by rw [← hWy]; exact Blk.new _ _ _
  have hoy : Only (fun _ => False) W Wy := by rw [← hWy]; exact (Only.refl _ _).alloc _
  have c1 := y1.cell 0
  have c2 := y2.cell 0
  have c3 := y3.cell 0
  have hne : ((begun.length : Int) == (n : Int)) = false := by simp; omega
  obtain ⟨eg, hl0, hleast⟩ := hlf
  have HLE := Lib.hid hleast
  have HB := Lib.hid hb
  clear hleast hb h1 h2 h3 h4
  have egl := eg
  refine (callsIn_wide (n := 3)).1 ?_
  refine callsIn_of_wp_marks Try.func93 rfl trivial ?_
  simp only [Try.ntmps93, List.size_toArray, List.length_cons, List.length_nil, Nat.reduceAdd, Nat.reduceSub, Array.replicate_succ, Array.replicate_zero, List.push_toArray, List.append_toArray, List.nil_append, List.cons_append]
  gi_wp2_with fail
  refine ⟨trivial, ?_⟩
  refine (inW (HLE.out A c begun Wy (by have := HB.out; omega) y4)).mono ?_
  rintro e w' ⟨rfl, rfl⟩
  gi_wp2_with fail
  have hlb := hl0 begun hb0
  obtain ⟨s0, hs0⟩ := Int.eq_ofNat_of_zero_le hlb
  have hpf : pfl n least (f + 1) begun = remL n least f begun s0 := by rw [pfl_succ, hs0]; rfl
  have HPF := Lib.hid hpf
  have HS0 := Lib.hid hs0
  clear hpf hlb hs0
  have hF0 : FFacts lf n begun bb bn bl A c l J W [] C [] Wy.heap.size Wy := by
    refine ⟨by rw [← hWy]; simp, Nat.le_refl _, y1, y2, y3, ?_, y5, ⟨k1.lt, k2.lt, k3.lt⟩, hJ _ _ _ _ h0 (Stays.of_only hoy (fun _ _ h => h.elim)), ?_, trivial, fun D hD => by cases hD⟩
    · exact k4.keep fun p hp => World.cell?_of_block (w := W) (hoy.block p.block hp id)
    · intro k hk
      obtain ⟨h1, h2⟩ := hC k hk
      exact ⟨by rw [← hWy]; simp; omega, h2, by omega⟩
  have hnA : ∀ k, blockOf A k → k < W.heap.size := fun k hk => Nat.lt_of_lt_of_le (h5 k hk) hL.size
  clear hC h0 k1 k2 k3 k4 y1 y2 y3 y4 y5 c1 c2 c3 hoy hWy hne
  refine wpIn_loop (fun a' w' => ∃ (x : Nat) (pre : List (List Int)) (C' : Nat → Prop) (ds : List Deferred) (B : Nat) (u6 u7 u8 u20 u21 u22 u23 u24 u25 u26 u27 u28 u29 u30 u31 u32 u33 u34 u35 u36 u37 u38 u39 u40 u41 u42 u43 u44 u45 u46 u47 u48 u49 u50 u51 u52 u53 : Value), FFacts lf n begun bb bn bl A c l J W pre C' ds B w' ∧ Hid (pfl n least (f + 1) begun = pre ++ remL n least f begun x) ∧
      a' = { tmps := #[.func (.yield l) #[] #[], .pointer (some ⟨bb, 0, none⟩), .pointer (some ⟨bn, 0, none⟩), .pointer (some ⟨bl, 0, none⟩), .pointer (some ⟨W.heap.size, 0, none⟩), .int .i64 x, u6, u7, u8, .slice A begun.length c, .int .i64 begun.length, .int .i64 n, .bool false, undef, undef, undef, undef, .func (.func lf) #[] #[], .slice A begun.length c, .int .i64 (least begun), u20, u21, u22, u23, u24, u25, u26, u27, u28, u29, u30, u31, u32, u33, u34, u35, u36, u37, u38, u39, u40, u41, u42, u43, u44, u45, u46, u47, u48, u49, u50, u51, u52, u53], defers := ds }) (fun a' _ => n - (intOf (a'.tmps.getD 5 undef)).toNat) ?_ ?_
  · exact ⟨s0, [], C, [], Wy.heap.size, _, _, _, _, _, _, _, _, _, _, _, _, _, _, _, _, _, _, _, _, _, _, _, _, _, _, _, _, _, _, _, _, _, _, _, _, _, hF0, by rw [Hid, HPF.out]; rfl, by rw [HS0.out]⟩
  · rintro a' wo ⟨x, pre, C', ds, B, u6, u7, u8, u20, u21, u22, u23, u24, u25, u26, u27, u28, u29, u30, u31, u32, u33, u34, u35, u36, u37, u38, u39, u40, u41, u42, u43, u44, u45, u46, u47, u48, u49, u50, u51, u52, u53, hF, HS, rfl⟩
    clear hF0
    have c1 := hF.b1.cell 0
    have c2 := hF.b2.cell 0
    have c3 := hF.b3.cell 0
    have hlen := HB.out
    by_cases hx : x < n
    · obtain ⟨next, hnext⟩ : ∃ next, begun ++ [(x : Int)] = next := ⟨_, rfl⟩
      have hnl : next.length = begun.length + 1 := by rw [← hnext]; simp
      have HN := Lib.hid hnext
      have HNL := Lib.hid hnl
      have hn0 : ∀ y ∈ next, 0 ≤ y := by
        intro y hy
        rw [← hnext] at hy
        rcases List.mem_append.1 hy with h | h
        · exact hb0 y h
        · simp at h; omega
      clear hnext hnl
      gi_wp2_with fail
      refine ⟨trivial, ?_⟩
      refine (inW (clone_any A c begun (by omega) wo (hF.rd.more (by have := hF.sz; have := hF.szw; omega)))).mono ?_
      rintro e w1 ⟨A1, c1', rfl, hown1, hb1⟩
      gi_wp2_with (gi_at_builtin; refine push_int_in rfl (.tmp 26) (.tmp 28) _ rfl Try.underlying22 wo.heap.size A1 c1' begun x rfl hown1 rfl rfl (by omega) hb1.size ?_; intro A2 c2' w2 hown2 _ hb2)
      have ho2 : Below wo.heap.size wo w2 := hb1.trans hb2
      rw [HN.out] at hown2
      refine ⟨trivial, ?_⟩
      refine (inW (clone_len A2 c2' next (begun.length + 1) HNL.out (by omega) w2 (by have := hown2.reads; rw [HNL.out] at this; exact this))).mono ?_
      rintro e w3 ⟨A3, c3', rfl, hown3, hb3⟩
      have ho3 : Below wo.heap.size wo w3 := ho2.trans (hb3.mono ho2.size)
      have hown2' : OwnI w3 wo.heap.size A2 c2' next := hown2.next hb3
      gi_wp2_with fail
      gi_loopw [7] (fun v wl => ∃ (r : List Int) (Ar : Option Addr) (cr : Nat), v = .slice Ar r.length cr ∧ r.length ≤ n ∧ OwnI wl w2.heap.size Ar cr r ∧ Below w2.heap.size w2 wl ∧ (∀ y ∈ r, 0 ≤ y) ∧ Hid (fillL least (n - r.length) r = fillL least (n - next.length) next)) (fun v _ => n - lenV v)
      case atStart => exact ⟨next, A3, c3', by rw [HNL.out], by rw [HNL.out]; omega, hown3, hb3, hn0, rfl⟩
      case round =>
        obtain ⟨r, Ar, cr, rfl, hrn, hownr, hbr, hr0, HR⟩ := hrel
        have hlt2 : wo.heap.size ≤ w2.heap.size := ho2.size
        have e1 := ((hF.b1.next ho2).next (hbr.mono (Nat.le_refl _))).cell 0
        have e2 := ((hF.b2.next ho2).next (hbr.mono (Nat.le_refl _))).cell 0
        have e3 := ((hF.b3.next ho2).next (hbr.mono (Nat.le_refl _))).cell 0
        clear c1 c2 c3
        by_cases hrl : r.length < n
        · gi_wp2_with fail
          refine ⟨trivial, ?_⟩
          refine (inW (HLE.out Ar cr r _ (by omega) hownr.reads)).mono ?_
          rintro e w' ⟨rfl, rfl⟩
          gi_wp2_with (gi_at_builtin; refine push_int_in rfl (.tmp 36) (.tmp 40) _ rfl Try.underlying22 w2.heap.size Ar cr r (least r) rfl hownr rfl rfl (by omega) hbr.size ?_; intro A4 c4' w4 hown4 _ hb4)
          go_roundw
          case rel =>
            refine ⟨r ++ [least r], A4, c4', by simp, by simp; omega, hown4, hbr.trans hb4, ?_, ?_⟩
            · intro y hy
              rcases List.mem_append.1 hy with h | h
              · exact hr0 y h
              · rw [List.mem_singleton.1 h]; exact hl0 r hr0
            · rw [Hid, ← HR.out, show n - r.length = (n - (r ++ [least r]).length) + 1 from by simp; omega]
              rfl
          case measure => simp [lenV]; omega
        · have hrn' : r.length = n := by omega
          have hfill : fillL least (n - next.length) next = r := by rw [← HR.out, hrn', Nat.sub_self]; rfl
          have hokP : okP n least next = decide ((parkedS r).length = r.length) := by unfold okP; rw [hfill]
          have HFILL := Lib.hid hokP
          clear hfill hokP hrn'
          have hnn : (begun ++ [(x : Int)]) = next := HN.out
          have ho4 : Below wo.heap.size wo wr := ho2.trans (hbr.mono hlt2)
          have hown2r : OwnI wr wo.heap.size A2 c2' next := hown2.below hbr (fun k hk => (hown2.lt k hk).2)
          gi_wp2_with fail
          refine ⟨trivial, ?_⟩
          refine (inW (all_any Ar cr r (by omega) hr0 wr hownr.reads)).mono ?_
          rintro e w5 ⟨rfl, hb5⟩
          have ho5 : Below wo.heap.size wo w5 := ho4.trans (hb5.mono ho4.size)
          have hown5 : OwnI w5 wo.heap.size A2 c2' next := hown2r.next hb5
          have e1 := (hF.b1.next ho5).cell 0
          have e2 := (hF.b2.next ho5).cell 0
          have e3 := (hF.b3.next ho5).cell 0
          have hF5 : FFacts lf n begun bb bn bl A c l J W pre C' ds B w5 := hF.stays hJ (Nat.le_refl _) (Stays.of_new ho5)
          cases hok : decide ((parkedS r).length = r.length)
          · gi_wp2_with fail
            refine end_marks ds _ hF5.mks fun w' ho => ⟨_, results_none rfl _ _ _, ⟨_, rfl⟩, C', .inl ?_⟩
            have e : pfl n least (f + 1) begun = pre := by rw [HS.out, remL_stop hx (by rw [hnn, HFILL.out]; exact hok), List.append_nil]
            rw [e]
            exact hJ _ _ _ _ hF5.j (Stays.of_only ho fun k _ hk => ⟨(hF.md k hk).2.2, .inl (by have := (hF.md k hk).1; omega)⟩)
          · have hspec : pfl n least (f + 1) begun = pre ++ (pfl n least f next ++ remL n least f begun (x + 1)) := by
              rw [HS.out, remL_step hx (by rw [hnn, HFILL.out]; exact hok), hnn]
            have HSP := Lib.hid hspec
            clear hspec hok
            gi_wp2_with fail
            refine ⟨trivial, ?_⟩
            refine (inW (functions_any n A2 (begun.length + 1) c2' lf w5)).mono ?_
            rintro e w6 ⟨rfl, hw6⟩
            have h56 : Below w5.heap.size w5 w6 := by rw [← hw6]; exact (((Below.refl _ _).alloc (Nat.le_refl _) _).alloc (by simp) _).alloc (by simp; omega) _
            have hs6 : w6.heap.size = w5.heap.size + 1 + 1 + 1 := by rw [← hw6]; simp
            have q2 : Blk w6 w5.heap.size 3 #[.int .i64 n] := by rw [← hw6]; exact ((Blk.new _ _ _).alloc _).alloc _
            have q1 : Blk w6 (w5.heap.size + 1) 22 #[.slice A2 next.length c2'] := by rw [← hw6, HNL.out]; exact (by have := (Blk.new (w5.alloc (.cells #[.int .i64 n] 3)) 22 #[.slice A2 (begun.length + 1) c2']).alloc (.cells #[.func (.func lf) #[] #[]] 43); simpa using this)
            have q3 : Blk w6 (w5.heap.size + 1 + 1) 43 #[.func (.func lf) #[] #[]] := by
              rw [← hw6]
              have := Blk.new ((w5.alloc (.cells #[.int .i64 n] 3)).alloc (.cells #[.slice A2 (begun.length + 1) c2'] 22)) 43 #[.func (.func lf) #[] #[]]
              simpa using this
            have hown6 : OwnI w6 wo.heap.size A2 c2' next := hown5.next h56
            have hF6 : FFacts lf n begun bb bn bl A c l J W pre C' ds w6.heap.size w6 := (hF5.stays hJ (Nat.le_refl _) (Stays.of_new h56)).raise (by have := hF5.szw; omega) (Nat.le_refl _)
            have hlt6 : wo.heap.size ≤ w5.heap.size := ho5.size
            have hCo := hF.cl
            have hA2 : ∀ k, blockOf A2 k → wo.heap.size ≤ k ∧ k < w6.heap.size := fun k hk => hown6.lt k (blockOf_own.2 hk)
            clear hw6 e1 e2 e3
            gi_wp2_with fail
            refine range_outer (n := 3) (gf := 93) (lb := #[.pointer (some ⟨w5.heap.size + 1, 0, none⟩), .pointer (some ⟨w5.heap.size, 0, none⟩), .pointer (some ⟨w5.heap.size + 1 + 1, 0, none⟩)]) rfl (enters_of Try.func93 (by kernel_rfl) rfl)
              (ih next (by have := HNL.out; omega) hn0 (w5.heap.size + 1) w5.heap.size (w5.heap.size + 1 + 1) A2 c2' w6 q1 q2 q3 hown6.reads (fun k hk => (hA2 k hk).2)) ?hK C' ?hC
              (fun pre' C1 w => FFacts lf n begun bb bn bl A c l J W (pre ++ pre') C1 ds w6.heap.size w)
              (fun cd pre' C1 w => cd = .ret ∧ Jx (pre ++ pre') C1 w ∧ MarksAt ds w ∧ (∀ D, ({ target := .collected D, args := #[] } : Deferred) ∈ ds → W.heap.size < D ∧ D < w6.heap.size ∧ ¬ C1 D) ∧ w6.heap.size ≤ w.heap.size) ?hI ?hIx ?h0 ?hps ?round ?done ?stop
            case hK =>
              rintro k (rfl | rfl | rfl | hk)
              · omega
              · omega
              · omega
              · exact (hA2 k hk).2
            case hC =>
              intro k hk
              have h1 := (hCo k hk).1
              refine ⟨by omega, ?_⟩
              rintro (e | e | e | e)
              · omega
              · omega
              · omega
              · have := (hA2 k e).1; omega
            case hI => intro pre' C1 wa wb h hst; exact h.stays hJ (Nat.le_refl _) hst
            case hIx =>
              rintro cd pre' C1 wa wb ⟨rfl, hj, hm, hd, hsz⟩ hst
              have := hF6.sz
              refine ⟨rfl, hJx _ _ _ _ hj (hst.mono fun k _ hk => hk.imp id fun hk => ⟨by omega, hk.2⟩), hm.keep fun D hD => hst.block D (by have := hd D hD; omega) (.inr ⟨(hd D hD).2.1, id⟩), hd, Nat.le_trans hsz hst.size⟩
            case h0 => simpa using hF6
            case hps => rintro x' args O W' ⟨A', c', rfl, _⟩; rfl
            case round =>
              intro l2 pre' x' args C1 O w7 hpre hI1 hl2 hC1 hO harg hl7 hnC hnO T hT
              obtain ⟨A8, c8, rfl, hown8, hO8⟩ := harg
              gi_wp2
              refine hT _ _ (Only.refl _ _) ?_
              intro w8 h8 hr8
              have hF8 := hI1.stays hJ (Nat.le_refl _) (Stays.of_only h8 (fun k _ hk => by subst hk; exact ⟨hnC, .inl (by omega)⟩))
              obtain ⟨fn, tmps, assign, body, hy, hR⟩ := hY (pre ++ pre') x' C1 w8 #[.slice A8 x'.length c8] O
                (by rw [HSP.out, List.append_assoc]; obtain ⟨z, hz⟩ := hpre; exact ⟨z ++ remL n least f begun (x + 1), by rw [← hz]; simp⟩) hF8.j (by have := hF8.sz; have := hF8.szw; omega)
                (fun k hk => Nat.lt_of_lt_of_le (hC1 k hk) h8.size) (fun k hk => ⟨(hO k hk).1, Nat.lt_of_lt_of_le (hO k hk).2.1 h8.size, by have := (hO k hk).2.2; have := hF6.sz; omega⟩)
                ⟨A8, c8, rfl, hown8.only h8 (fun k hk e => hnO (e ▸ hO8 k hk)), hO8⟩
              have e5 := hF8.yb.cell 0
              gi_wp2_with fail
              refine (roundIn_in hR).mono ?_
              rintro e w9 ⟨C9, b9, ho9, hg9, rfl, hj9, hx9⟩
              have hO9 : ∀ k, O k → w6.heap.size ≤ k ∧ k < w8.heap.size := fun k hk => ⟨(hO k hk).2.2, Nat.lt_of_lt_of_le (hO k hk).2.1 h8.size⟩
              cases b9
              · have hjx := hx9 rfl
                rw [List.append_assoc] at hjx
                clear hx9 hj9
                gi_wp2
                refine ⟨C9, ho9, hg9, rfl, hjx, ?_, ?_, ?_⟩
                · exact hF8.mks.keep fun D hD => by
                    have := hF8.md D hD
                    exact ho9.block D (by have := hF8.szw; omega) (fun h => h.elim this.2.2 fun h => by have := (hO9 D h).1; omega)
                · intro D hD
                  have := hF8.md D hD
                  refine ⟨this.1, this.2.1, fun hc => ?_⟩
                  rcases hg9 D hc with q | q | q
                  · exact this.2.2 q
                  · have := (hO9 D q).1; omega
                  · have := hF8.szw; omega
                · exact Nat.le_trans hF8.szw ho9.size
              · have h9 := hF8.round hnA ho9 hg9 hO9 (hj9 rfl)
                rw [List.append_assoc] at h9
                clear hx9 hj9
                gi_wp2
                exact ⟨C9, ho9, hg9, h9⟩
            case done =>
              intro C1 w9 hF9 hnD hD
              gi_wp2_with fail
              have hDl : w6.heap.size < w9.heap.size := (Array.getElem?_eq_some_iff.1 hD).1
              refine ⟨⟨x + 1, pre ++ pfl n least f next, C1, _, w9.heap.size, _, _, _, _, _, _, _, _, _, _, _, _, _, _, _, _, _, _, _, _, _, _, _, _, _, _, _, _, _, _, _, _, _, _, _, _, _, ?_, ?_, rfl⟩, ?_⟩
              · have h1 := hF9.raise (B' := w9.heap.size) (by omega) (Nat.le_refl _)
                refine { h1 with mks := ⟨w6.heap.size, rfl, hD, ?_, hF9.mks⟩, md := ?_ }
                · intro d' hd' e
                  subst e
                  have := (hF9.md _ hd').2.1
                  omega
                · intro D hDd
                  rcases List.mem_cons.1 hDd with e | e
                  · obtain rfl : D = w6.heap.size := by injection e with e; injection e
                    exact ⟨hF9.sz, hDl, hnD⟩
                  · exact ⟨(h1.md D e).1, (h1.md D e).2.1, (h1.md D e).2.2⟩
              · rw [Hid, HSP.out, List.append_assoc]
              · simp [intOf]; omega
            case stop =>
              rintro cd pre' C1 w9 hp ⟨rfl, hjx, hmk, hmd, hsz9⟩ hnD hD
              gi_wp2
              refine end_marks _ _ ⟨w6.heap.size, rfl, hD, ?_, hmk⟩ fun w' ho => ⟨_, results_none rfl _ _ _, ⟨_, rfl⟩, C1, .inr ⟨pre ++ pre', ?_, ?_⟩⟩
              · intro d' hd' e
                subst e
                have := (hmd _ hd').2.1
                omega
              · rw [HSP.out]
                obtain ⟨z, hz⟩ := hp
                exact ⟨z ++ remL n least f begun (x + 1), by rw [← hz]; simp⟩
              · refine hJx _ _ _ _ hjx (Stays.of_only ho fun k _ hk => ?_)
                rcases List.mem_cons.1 hk with e | e
                · obtain rfl : k = w6.heap.size := by injection e with e; injection e
                  exact ⟨hnD, .inl (by have := hF6.sz; omega)⟩
                · exact ⟨(hmd k e).2.2, .inl (by have := (hmd k e).1; omega)⟩
    · gi_wp2_with fail
      refine end_marks ds _ hF.mks fun w' ho => ⟨_, results_none rfl _ _ _, ⟨_, rfl⟩, C', .inl ?_⟩
      have e : pfl n least (f + 1) begun = pre := by rw [HS.out, remL_end (by omega), List.append_nil]
      rw [e]
      exact hJ _ _ _ _ hF.j (Stays.of_only ho fun k _ hk => ⟨(hF.md k hk).2.2, .inl (by have := (hF.md k hk).1; omega)⟩)

/-- The iterator of the parking functions that begin with some preferences. -/
theorem functions_iter (lf : Nat) (least : List Int → Int) (hlf : LeastOK lf least) (n : Nat) (hn : n ≤ 12) (f : Nat) : ∀ (begun : List Int) (_ : begun.length + f = n) (_ : ∀ x ∈ begun, 0 ≤ x) (bb bn bl : Nat) (A : Option Addr) (c : Nat) (W0 : World)
      (_ : Blk W0 bb 22 #[.slice A begun.length c]) (_ : Blk W0 bn 3 #[.int .i64 n]) (_ : Blk W0 bl 43 #[.func (.func lf) #[] #[]]) (_ : Reads W0 W0.heap.size 1 A begun.length (ints begun)) (_ : ∀ k, blockOf A k → k < W0.heap.size),
      Iter Try.prog 93 #[.pointer (some ⟨bb, 0, none⟩), .pointer (some ⟨bn, 0, none⟩), .pointer (some ⟨bl, 0, none⟩)] ArgI (fun k => k = bb ∨ k = bn ∨ k = bl ∨ blockOf A k) (fun _ => False) (pfl n least f begun) W0 := by
  induction f with
  | zero => exact fun begun hb _ bb bn bl A c W0 h1 h2 h3 h4 _ => functions_iter0 lf least n hn begun (by omega) bb bn bl A c W0 h1 h2 h3 h4
  | succ f ih => exact fun begun hb h0 bb bn bl A c W0 h1 h2 h3 h4 h5 => functions_iterS lf least hlf n hn f ih begun hb h0 bb bn bl A c W0 h1 h2 h3 h4 h5
end Go.Proofs.Ytjeggocindcgaaa
