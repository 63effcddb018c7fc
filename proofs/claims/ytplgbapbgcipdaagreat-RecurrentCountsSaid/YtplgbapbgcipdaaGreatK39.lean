/-
  Texts of this claim, put together: RMin.
-/
import Derived.Test.YtplgbapbgcipdaaGreatK38
import Derived.Deep.CutRange
import Derived.Deep.RegionHeld3
/-! Package recurrent: Minimal. -/
namespace Go.Proofs.YtplgbapbgcipdaaGreat
open Go.RowKit

/-- Is no recurrent configuration just below at the first k vertices? -/
def minTo (n : Nat) (es : List E3) (q : Nat) (cs : List Int) (k : Nat) : Bool := (List.range k).all fun v => decide (cs.getD v 0 = 0) || !recB n es (cs.set v (cs.getD v 0 - 1)) q
theorem minTo_succ (n : Nat) (es : List E3) (q : Nat) (cs : List Int) (k : Nat) : minTo n es q cs (k + 1) = (minTo n es q cs k && (decide (cs.getD k 0 = 0) || !recB n es (cs.set k (cs.getD k 0 - 1)) q)) := by simp [minTo, List.range_succ]
theorem minTo_false {n k m : Nat} {es : List E3} {q : Nat} {cs : List Int} (hk : k < m) (h0 : cs.getD k 0 ≠ 0) (h : recB n es (cs.set k (cs.getD k 0 - 1)) q = true) : minTo n es q cs m = false := by
  unfold minTo
  rw [List.all_eq_false]
  refine ⟨k, by simpa using hk, ?_⟩
  rw [decide_eq_false h0, h]
  simp
set_option maxRecDepth 100000 in
set_option maxHeartbeats 8000000 in
theorem min1_any (n : Nat) (A : Option Addr) (cA : Nat) (es : List E3) (q : Nat) (hq : q < n) (C : Option Addr) (cC : Nat) (cs : List Int) (hlen : es.length ≤ 10000) (hz : checkG n es = 0) (hcl : cs.length = n) (hcb : ∀ x ∈ cs, -1048575 ≤ x ∧ x ≤ 1048577) (bg bq : Nat) (w : World)
    (hg : Blk w bg 24 #[.int .i64 n, .slice A es.length cA]) (hbq : Blk w bq 3 #[.int .i64 q]) (h : Reads w w.heap.size 3 A es.length (edgeCells es)) (h' : Reads w w.heap.size 1 C n (ints cs)) :
    Calls Tryz.prog 55 #[.slice C n cC, .pointer (some ⟨bg, 0, none⟩), .pointer (some ⟨bq, 0, none⟩)] w fun e w' => e = .returned (.bool (minTo n es q cs n)) ∧ Below w.heap.size w w' := by
  have hn12 : n ≤ 12 := by have := (right_of hz).hi; omega
  have HRC := Lib.hid (fun (ds : List Int) (hl : ds.length = n) (hb : ∀ x ∈ ds, -1048576 ≤ x ∧ x ≤ 1048577) (B : Option Addr) (d : Nat) (W : World) (hB : Below w.heap.size w W) (hr : Reads W W.heap.size 1 B n (ints ds)) => recurs_any n A cA es q hq B d ds ⟨hlen, hz, hl, hb⟩ W ((h.below hB).more hB.size) hr)
  have DC := Lib.hid (fun (W : World) (hB : Below w.heap.size w W) => by have := dclone_any C cC cs (by omega) W (by rw [hcl]; exact (h'.below hB).more hB.size); rw [hcl] at this; exact this)
  have HCL := Lib.hid hcl
  have HCB := Lib.hid hcb
  clear hcl hcb hz
  go_enter Tryz.func55, Tryz.ntmps55
  go_wp2_with fail
  go_loopw [5, 6, 7, 10] (fun _ _ _ i wl => ∃ k : Nat, i = .int .i64 k ∧ k ≤ n ∧ Hid (minTo n es q cs k = true) ∧ Hid (Below w.heap.size w wl)) (fun _ _ _ i _ => n - (intOf i).toNat)
  case atStart => exact ⟨0, rfl, by omega, by simp [Hid, minTo], Below.refl _ _⟩
  case round =>
    obtain ⟨k, rfl, hk, HM, HB⟩ := hrel
    by_cases hlt : k < n
    · have hi : (k : Int) < (n : Int) := by omega
      obtain ⟨x, hx⟩ := get_of_lt (xs := cs) (k := k) (by rw [HCL.out]; exact hlt)
      obtain ⟨bB, oB, hA, hbB, hcell⟩ := (h'.below HB.out).at_ (ints_at hx)
      subst hA
      have hms := minTo_succ n es q cs k
      rw [HM.out, Bool.true_and, getD_at hx] at hms
      have hmf := fun h1 h2 => minTo_false (n := n) (es := es) (q := q) (cs := cs) hlt h1 h2
      rw [getD_at hx] at hmf
      have HMF := Lib.hid hmf
      have hxb := HCB.out x (List.mem_of_getElem? hx)
      have HX := Lib.hid hx
      clear hx hmf
      by_cases hx0 : x = 0
      · subst hx0
        rw [decide_eq_true rfl, Bool.true_or] at hms
        have HMS := Lib.hid hms
        clear hms
        go_wp2
        go_roundw
        case rel => exact ⟨k + 1, by go_num, by omega, HMS, HB⟩
        case measure => simp [intOf]; omega
      · have hne : (x == 0) = false := by simpa using hx0
        rw [decide_eq_false hx0, Bool.false_or] at hms
        have HMS := Lib.hid hms
        have g1 := hg.next HB.out
        have q1 := hbq.next HB.out
        have e0 := g1.cell 0
        have e1 := g1.cell 1
        have e2 := q1.cell 0
        have HBD : Hid (Below w.heap.size w wr.drew) := HB.out.drew
        have DC1 := Lib.hid (DC.out wr.drew HBD.out)
        have DC2 := Lib.hid (DC.out (wr.drew.alloc (.cells #[.int .i64 0, .slice none 0 0, .int .i64 0, .slice none 0 0] 80)) (HBD.out.alloc HBD.out.size _))
        clear hms
        go_upto_region 5 with fail
        have gZ : Hid (Blk (wr.drew.alloc (.cells #[.int .i64 0, .slice none 0 0, .int .i64 0, .slice none 0 0] 80)) wr.heap.size 80 #[.int .i64 0, .slice none 0 0, .int .i64 0, .slice none 0 0]) := Blk.new wr.drew 80 _
        have hle : Hid (wr.heap.size + 1 ≤ (wr.drew.alloc (.cells #[.int .i64 0, .slice none 0 0, .int .i64 0, .slice none 0 0] 80)).heap.size) := by unfold Hid; simp
        have hle0 : Hid (wr.heap.size ≤ (wr.drew.alloc (.cells #[.int .i64 0, .slice none 0 0, .int .i64 0, .slice none 0 0] 80)).heap.size) := by unfold Hid; simp
        have BZ : Hid (Below wr.heap.size wr (wr.drew.alloc (.cells #[.int .i64 0, .slice none 0 0, .int .i64 0, .slice none 0 0] 80))) := (Below.refl _ _).drew.alloc (Nat.le_refl _) _
        have BD : Hid (Below wr.heap.size wr wr.drew) := (Below.refl _ _).drew
        have hl1 : Hid (wr.heap.size < wr.heap.size + 1) := Nat.lt_succ_self _
        have hl2 : Hid (wr.heap.size ≤ wr.heap.size + 1) := Nat.le_succ _
        have hgl := g1.lt
        have hql := q1.lt
        have HGL := Lib.hid hgl
        have HQL := Lib.hid hql
        have hn1 : wr.heap.size ≠ bg := by omega
        have hn2 : wr.heap.size ≠ bq := by omega
        clear hgl hql
        go_cut [7] from 17 to 31 (fun p wx => ∃ (pb : Nat) (A1 : Option Addr) (c1 : Nat), p = .pointer (some ⟨pb, 0, none⟩) ∧ Blk wx pb 80 #[.int .i64 n, .slice A es.length cA, .int .i64 q, .slice A1 n c1] ∧ OwnI wx wr.heap.size A1 c1 cs ∧ wr.heap.size ≤ pb ∧ Below wr.heap.size wr wx)
        case first =>
          go_region_held3 (fun W => W.cell? ⟨bg, 0, none⟩ = some (.int .i64 n) ∧ W.cell? ⟨bg, 1, none⟩ = some (.slice A es.length cA) ∧ W.cell? ⟨bq, 0, none⟩ = some (.int .i64 q)) (go_keep)
            (first
              | (go_at_call 17; refine (DC1.out).mono ?_; rintro e w5 ⟨A1, c1, rfl, hown, hbel⟩
                 have HB2 := Lib.hid (BD.out.trans hbel)
                 have HO2 := Lib.hid hown
                 have k0 := (hbel.cell (p := ⟨bg, 0, none⟩) HGL.out).trans e0
                 have k1 := (hbel.cell (p := ⟨bg, 1, none⟩) HGL.out).trans e1
                 have k2 := (hbel.cell (p := ⟨bq, 0, none⟩) HQL.out).trans e2)
              | (go_at_call 17; refine (DC2.out).mono ?_; rintro e w5 ⟨A1, c1, rfl, hown, hbel⟩
                 have HB2 := Lib.hid (BZ.out.trans (hbel.mono hle0.out))
                 have HO2 := Lib.hid (hown.mono hle.out)
                 have g2 := gZ.out.next hbel
                 have z0 := g2.cell 0
                 have z1 := g2.cell 1
                 have z2 := g2.cell 2
                 have z3 := g2.cell 3
                 have f0 := g2.frozen 0
                 have f1 := g2.frozen 1
                 have f2 := g2.frozen 2
                 have f3 := g2.frozen 3
                 have k0 := (HB2.out.cell (p := ⟨bg, 0, none⟩) HGL.out).trans e0
                 have k1 := (HB2.out.cell (p := ⟨bg, 1, none⟩) HGL.out).trans e1
                 have k2 := (HB2.out.cell (p := ⟨bq, 0, none⟩) HQL.out).trans e2))
          all_goals
            go_wp2
            go_meet
            first
              | with_reducible exact leafA HO2.out HB2.out
              | with_reducible exact leafB hl1.out hl2.out g2 HO2.out HB2.out
        case rest =>
          obtain ⟨pb, A1, c1, rfl, P2, O2, hpb, B2⟩ := hcut
          obtain ⟨gA, hA1, hgA, hfr, hce⟩ := O2.block (by rw [HCL.out]; omega)
          subst hA1
          have c0 := hce k x HX.out
          have f0 := hfr k
          have p0 := P2.cell 0
          have p1 := P2.cell 1
          have p2 := P2.cell 2
          have p3 := P2.cell 3
          have hne2 : gA ≠ pb := own_blk O2 P2 (by decide) ⟨_, rfl, rfl⟩
          have hw1 : IntKind.i64.wrap (x - 1) = x - 1 := IntWalk.i64_in _ (by omega)
          have O3 := O2.put k (x - 1)
          have P3 := P2.far (p := ⟨gA, k, none⟩) (fun e => hne2 e.symm) (.int .i64 (x - 1))
          have B3 := HB.out.trans ((B2.setCell (p := ⟨gA, k, none⟩) hgA (.int .i64 (x - 1))).mono HB.out.size)
          have q0 := P3.cell 0
          have q1 := P3.cell 1
          have q2 := P3.cell 2
          have q3 := P3.cell 3
          have R3 := O3.reads
          have hsl : (cs.set k (x - 1)).length = n := by rw [List.length_set]; exact HCL.out
          rw [hsl] at R3
          have RC := HRC.out (cs.set k (x - 1)) hsl (fun y hy => by
            rcases List.mem_or_eq_of_mem_set hy with hy | rfl
            · have := HCB.out y hy; omega
            · omega) _ c1 _ B3 R3
          have HB3 := Lib.hid B3
          obtain ⟨bo, hbo⟩ : ∃ bo, recB n es (cs.set k (x - 1)) q = bo := ⟨_, rfl⟩
          rw [hbo] at RC HMS HMF
          have RC := Lib.hid RC
          simp only [pileV] at RC
          clear P2 O2 B2 O3 P3 B3 R3 hsl hce hfr hbo e0 e1 e2
          cases bo
          · have HM2 : Hid (minTo n es q cs (k + 1) = true) := HMS.out
            go_wp2_with fail
            refine (RC.out).mono ?_
            rintro e w6 ⟨rfl, b6⟩
            have HB6 := Lib.hid (HB3.out.trans (b6.mono HB3.out.size))
            go_wp2
            go_roundw
            case rel => exact ⟨k + 1, by go_num, by omega, HM2, HB6⟩
            case measure => simp [intOf]; omega
          · have HM2 : Hid (minTo n es q cs n = false) := HMF.out hx0 rfl
            go_wp2_with fail
            refine (RC.out).mono ?_
            rintro e w6 ⟨rfl, b6⟩
            have HB6 := Lib.hid (HB3.out.trans (b6.mono HB3.out.size))
            go_wp2
            go_ret
            exact ⟨by rw [HM2.out]; rfl, HB6.out⟩
    · obtain rfl : k = n := by omega
      have hB := HB.out
      go_wp2
      go_ret
      exact ⟨by rw [HM.out]; rfl, hB⟩

theorem filter_snoc {α : Type} {P : α → Bool} {xss : List α} {k : Nat} {x : α} (h : xss[k]? = some x) : (xss.take (k + 1)).filter P = (xss.take k).filter P ++ if P x then [x] else [] := by
  rw [List.take_add_one, h, List.filter_append]
  simp [List.filter_cons]
set_option maxRecDepth 100000 in
set_option maxHeartbeats 8000000 in
theorem filt_any (n : Nat) (A : Option Addr) (cA : Nat) (es : List E3) (q : Nat) (hq : q < n) (hlen : es.length ≤ 10000) (hz : checkG n es = 0) (bg bq : Nat) (A0 : Option Addr) (c0 : Nat) (xss : List (List Int)) (hxl : xss.length ≤ 1048000) (hxs : ∀ xs ∈ xss, xs.length = n ∧ ∀ x ∈ xs, -1048575 ≤ x ∧ x ≤ 1048577) (w : World)
    (hg : Blk w bg 24 #[.int .i64 n, .slice A es.length cA]) (hbq : Blk w bq 3 #[.int .i64 q]) (h : Reads w w.heap.size 3 A es.length (edgeCells es)) (hr : RowsR w w.heap.size A0 xss) :
    Calls Tryz.prog 54 #[.slice A0 xss.length c0, .func (.func 55) #[] #[.pointer (some ⟨bg, 0, none⟩), .pointer (some ⟨bq, 0, none⟩)]] w fun e w' => ∃ A' c', e = .returned (.slice A' (xss.filter fun xs => minTo n es q xs n).length c') ∧ RowsR w' w'.heap.size A' (xss.filter fun xs => minTo n es q xs n) ∧ Below w.heap.size w w' := by
  obtain ⟨vs, hv, hrow⟩ := hr
  have MC := Lib.hid (fun (xs : List Int) (hx : xs ∈ xss) (C : Option Addr) (cC : Nat) (W : World) (hB : Below w.heap.size w W) (hr : Reads W W.heap.size 1 C n (ints xs)) => min1_any n A cA es q hq C cC xs hlen hz (hxs xs hx).1 (hxs xs hx).2 bg bq W (hg.next hB) (hbq.next hB) ((h.below hB).more hB.size) hr)
  have HXS := Lib.hid hxs
  have HROW := Lib.hid hrow
  have HV := Lib.hid hv
  obtain ⟨P, hP⟩ : ∃ P : List Int → Bool, (fun xs => minTo n es q xs n) = P := ⟨_, rfl⟩
  have hPx : ∀ xs, minTo n es q xs n = P xs := fun xs => by rw [← hP]
  simp only [hPx] at MC ⊢
  clear hP hPx hxs hrow hv
  go_enter Tryz.func54, Tryz.ntmps54
  go_wp2_with fail
  go_loopw [5, 7, 10] (fun o _ i wl => ∃ (k : Nat) (A' : Option Addr) (c' : Nat) (vs' : List Value), i = .int .i64 k ∧ k ≤ xss.length ∧ o = .slice A' ((xss.take k).filter P).length c' ∧ Hid (((xss.take k).filter P).length ≤ k) ∧
    Hid (wl.ownsRow w.heap.size 26 1 (.slice A' ((xss.take k).filter P).length c') ((xss.take k).filter P).length vs') ∧ Hid (∀ (i : Nat) (xs : List Int), ((xss.take k).filter P)[i]? = some xs → ∃ A1 c1, vs'[i]? = some (.slice A1 xs.length c1) ∧ Reads w w.heap.size 1 A1 xs.length (ints xs)) ∧ Hid (Below w.heap.size w wl)) (fun _ _ i _ => xss.length - (intOf i).toNat)
  case atStart => exact ⟨0, none, 0, [], rfl, by omega, rfl, by simp [Hid], World.ownsRow_nil _ _ _ _, by simp [Hid], Below.refl _ _⟩
  case round =>
    obtain ⟨k, A', c', vs', rfl, hk, rfl, HLE, HO, HR, HB⟩ := hrel
    by_cases hlt : k < xss.length
    · have hi : (k : Int) < (xss.length : Int) := by omega
      obtain ⟨xs, hx⟩ := get_of_lt hlt
      obtain ⟨A1, c1, hvk, hr1⟩ := HROW.out k xs hx
      obtain ⟨b, off, hA0, hbb, hce⟩ := (HV.out.below HB.out).at_ hvk
      subst hA0
      have hfs := filter_snoc (P := P) hx
      have hxn := (HXS.out xs (List.mem_of_getElem? hx)).1
      have MC1 := MC.out xs (List.mem_of_getElem? hx) A1 c1 wr HB.out (by rw [← hxn]; exact (hr1.below HB.out).more HB.out.size)
      rw [← hxn] at MC1
      have MC1 := Lib.hid MC1
      have HR1 := Lib.hid hr1
      clear hx hvk hr1 hxn
      obtain ⟨bo, hbo⟩ : ∃ bo, P xs = bo := ⟨_, rfl⟩
      rw [hbo] at MC1 hfs
      have HFS := Lib.hid hfs
      clear hbo hfs
      go_wp2_with fail
      refine (MC1.out).mono ?_
      rintro e w5 ⟨rfl, b5⟩
      have B5 := HB.out.trans (b5.mono HB.out.size)
      have HB5 := Lib.hid B5
      have O5 : w5.ownsRow w.heap.size 26 1 (.slice A' ((xss.take k).filter P).length c') ((xss.take k).filter P).length vs' := own_kept HO.out fun kk hkk => b5.block kk (own_lt HO.out hkk).2
      have HO5 := Lib.hid O5
      clear B5 O5
      cases bo
      · have hf : (xss.take (k + 1)).filter P = (xss.take k).filter P := by rw [HFS.out]; simp
        have HF := Lib.hid hf
        clear hf
        go_wp2
        go_roundw
        case rel => exact ⟨k + 1, A', c', vs', by go_num, by omega, by rw [HF.out], by rw [HF.out]; have := HLE.out; show _ ≤ k + 1; omega, by rw [HF.out]; exact HO5, by rw [HF.out]; exact HR, HB5⟩
        case measure => simp [intOf]; omega
      · have hf : (xss.take (k + 1)).filter P = (xss.take k).filter P ++ [xs] := by rw [HFS.out]; simp
        have HF := Lib.hid hf
        clear hf
        have hl5 := HLE.out
        have hO5 := HO5.out
        have hsz5 := HB5.out.size
        go_wp2_with (at_builtin; refine append_go rfl (.tmp 17) (.tmp 19) _ rfl w.heap.size 26 Tryz.underlying46 info_divs rfl (by omega) A' c' ((xss.take k).filter P).length vs' rfl (World.ownsRow.alloc hO5 _) _ [.slice A1 xs.length c1] rfl (Reads.box _ _ _) (by simp [Value.oneCell']) (by omega) (by simp; omega) ?_; intro A6 c6 w6 hown6 hg6 hb6 hw6)
        have B6 := (HB5.out.alloc hsz5 (.cells #[.slice A1 xs.length c1] 26)).trans hb6
        have hln : ((xss.take (k + 1)).filter P).length = ((xss.take k).filter P).length + 1 := by rw [HF.out]; simp
        have hvl : vs'.length = ((xss.take k).filter P).length := by have := HO5.out.1; omega
        have HR6 : Hid (∀ (i : Nat) (ys : List Int), ((xss.take (k + 1)).filter P)[i]? = some ys → ∃ A1' c1', (vs' ++ [.slice A1 xs.length c1])[i]? = some (.slice A1' ys.length c1') ∧ Reads w w.heap.size 1 A1' ys.length (ints ys)) := by
          intro i ys hi
          rw [HF.out] at hi
          rcases Nat.lt_trichotomy i ((xss.take k).filter P).length with hc | hc | hc
          · rw [List.getElem?_append_left hc] at hi
            obtain ⟨a1, a2, a3, a4⟩ := HR.out i ys hi
            exact ⟨a1, a2, by rw [List.getElem?_append_left (by omega)]; exact a3, a4⟩
          · subst hc
            have : ys = xs := by simpa using hi.symm
            subst this
            exact ⟨A1, c1, by rw [← hvl]; simp, HR1.out⟩
          · rw [List.getElem?_eq_none (by simp; omega)] at hi; cases hi
        go_roundw
        case rel => exact ⟨k + 1, A6, c6, vs' ++ [.slice A1 xs.length c1], by go_num, by omega, by rw [hln], by show _ ≤ k + 1; omega, by rw [hln]; exact hown6, HR6, B6⟩
        case measure => simp [intOf]; omega
    · obtain rfl : k = xss.length := by omega
      have hB := HB.out
      have hO := HO.out
      have hR := HR.out
      rw [List.take_length] at hO hR
      have HR2 : Hid (RowsR wr wr.heap.size A' (xss.filter P)) := ⟨vs', Reads.of_own hO, fun i xs hi => by
        obtain ⟨a1, a2, a3, a4⟩ := hR i xs hi
        exact ⟨a1, a2, a3, (a4.below hB).more hB.size⟩⟩
      have hln : ((xss.take xss.length).filter P).length = (xss.filter P).length := by rw [List.take_length]
      have HLN := Lib.hid hln
      clear hO hR hln
      go_wp2
      go_ret
      exact ⟨A', c', by rw [← HLN.out]; rfl, HR2.out, hB⟩
end Go.Proofs.YtplgbapbgcipdaaGreat

