/-
  For every graph, sink and divisor the law TreebijectionGrows answers true: each vertex burns behind the next one on the way to the sink in the tree. There are no conditions.
-/
import Derived.Test.YtghigdcpinengaaGreatK47
import Derived.Test.YtghigdcpinengaaGreatK48
import Derived.Test.YtghigdcpinengaaGreatK49
import Derived.Test.YtghigdcpinengaaGreatK39
import Derived.Test.YtghigdcpinengaaGreatK29
import Derived.Test.YtghigdcpinengaaGreatK41
import Derived.Test.YtghigdcpinengaaGreatK43
import Derived.Test.YtghigdcpinengaaGreatK50
import Derived.Test.YtghigdcpinengaaGreatK52
namespace Go.Proofs.YtghigdcpinengaaGreat
open Go.RowKit
theorem grow_facts {m p : Nat} {es : List E3} {cs : List Int} (hz : cfgErr m es p cs = 0) :
    IsTr m (endsL es) (treeN (endsL es) m p cs) ∧ (fireC_ (endsL es) m p cs).order.length = m ∧ (fireC_ (endsL es) m p cs).order[0]? = some p ∧ (∀ (k v : Nat), (fireC_ (endsL es) m p cs).order[k]? = some v → v < m ∧ v ∉ (fireC_ (endsL es) m p cs).order.take k) ∧
    ∀ (k v : Nat), 0 < k → (fireC_ (endsL es) m p cs).order[k]? = some v → ∃ e : Nat, (parentsL m (endsL es) (treeN (endsL es) m p cs) p)[v]? = some (e : Int) ∧ e < (endsL es).length ∧ Inc (endsL es) e v ∧ oth ((endsL es).getD e (0, 0)) v ∈ (fireC_ (endsL es) m p cs).order.take k := by
  obtain ⟨_, hG, hp, hl, hnn, _, hb, _⟩ := cfg_facts hz
  have hbd := bd_ends hG
  have hfi : FI (endsL es) m p (fireC_ (endsL es) m p cs) := (FI.run (lit := ltC cs) hbd hp).1
  have hall := fire_of_burns hbd hp hnn hb
  have hpar := fire_par hbd hp hnn hb
  have hT := treeN_isTr hbd hp hnn hb
  obtain ⟨O, hO⟩ : ∃ O, (fireC_ (endsL es) m p cs).order = O := ⟨_, rfl⟩
  have hnd := hfi.ond
  have hlt := hfi.olt
  have hrt := hfi.root
  rw [hO] at hall hpar hnd hlt hrt ⊢
  have hl1 := nodup_sub_le hnd (m := List.range m) (fun x hx => List.mem_range.2 (hlt x hx))
  have hl2 := nodup_sub_le (l := List.range m) (m := O) List.nodup_range (fun x hx => hall x (List.mem_range.1 hx))
  rw [List.length_range] at hl1 hl2
  have h0 : O[0]? = some p := by rw [← List.head?_eq_getElem?]; exact hrt
  have hsp : ∀ (k v : Nat), O[k]? = some v → O = O.take k ++ v :: O.drop (k + 1) := by
    intro k v hk
    obtain ⟨hk1, hk2⟩ := List.getElem?_eq_some_iff.1 hk
    have h1 := List.take_append_drop k O
    rw [List.drop_eq_getElem_cons hk1, hk2] at h1
    exact h1.symm
  have hni : ∀ (k v : Nat), O[k]? = some v → v ∉ O.take k := by
    intro k v hk hm
    have h1 := hsp k v hk
    rw [h1, List.nodup_append] at hnd
    exact hnd.2.2 v hm v (by simp) rfl
  refine ⟨hT, by omega, h0, fun k v hk => ⟨hlt v (List.mem_of_getElem? hk), hni k v hk⟩, fun k v hk0 hk => ?_⟩
  have hvp : v ≠ p := by
    rintro rfl
    refine hni k v hk ?_
    rw [List.mem_take_iff_getElem]
    obtain ⟨a, b⟩ := List.getElem?_eq_some_iff.1 h0
    have := (List.getElem?_eq_some_iff.1 hk).1
    exact ⟨0, by omega, b⟩
  obtain ⟨e, he, hel, hin, hot⟩ := hpar _ _ _ (hsp k v hk) hvp
  refine ⟨e, ?_, hel, hin, hot⟩
  unfold parentsL
  rw [List.getElem?_map, List.getElem?_range (hlt v (List.mem_of_getElem? hk))]
  simp only [Option.map_some, if_neg hvp]
  rw [he]
theorem Reads.take30 {w : World} {B b off : Nat} {xs : List Int} (h : Reads w B 1 (some ⟨b, off, none⟩) xs.length (ints xs)) (k : Nat) (hk : k < xs.length) : Reads w B 1 (some ⟨b, off, none⟩) k (ints (xs.take k)) := by
  refine ⟨by simp [ints]; omega, fun _ => ?_⟩
  obtain ⟨b', off', hA, hb, hc⟩ := h.2 (by omega)
  injection hA with hA; injection hA with e1 e2; subst e1 e2
  refine ⟨b, off, rfl, hb, fun j v hv => hc j v ?_⟩
  have hj : j < k := by
    have := (List.getElem?_eq_some_iff.1 hv).1
    simp [ints] at this; omega
  rw [← hv]
  simp [ints, List.getElem?_take_of_lt hj]
theorem OwnI.some_ {w : World} {base : Nat} {A : Option Addr} {c : Nat} {xs : List Int} (h : OwnI w base A c xs) (hx : 0 < xs.length) : ∃ b, A = some ⟨b, 0, none⟩ ∧ xs.length ≤ c := by
  rcases h.2 with ⟨h1, h2⟩ | ⟨g, cap, cur, hv, _, _, hcap, _⟩
  · omega
  · injection hv with e1 e2 e3
    exact ⟨g, e1, by omega⟩

set_option maxRecDepth 100000 in
set_option maxHeartbeats 8000000 in
theorem treebijectionGrows_walk (w : World) (n : Int) (A : Option Addr) (c : Nat) (es : List E3) (_hm : es.length ≤ maxLen) (_hw : (Lit.int .i64 n).wf = true) (h : Reads w w.heap.size 3 A es.length (edgeCells es)) (q : Int) (_hq : (Lit.int .i64 q).wf = true)
    (B : Option Addr) (d : Nat) (xs : List Int) (_hm' : xs.length ≤ maxLen) (_hw' : ∀ x ∈ xs, (Lit.int .i64 x).wf = true) (h' : Reads w w.heap.size 1 B xs.length (ints xs)) :
    Calls Tryz.prog 7 #[.agg #[.int .i64 n, .slice A es.length c], .int .i64 q, .slice B xs.length d] w fun e w' => e = .returned (.bool true) ∧ Below w.heap.size w w' := by
  have RC := Lib.hid (fun w h => right30_any n A c es q w h)
  have AW := Lib.hid (fun w => awake30_any w)
  have g := Blk.new w 24 #[.int .i64 n, .slice A es.length c]
  have hB : Below w.heap.size w (w.alloc (.cells #[.int .i64 n, .slice A es.length c] 24)) := (Below.refl _ _).alloc (Nat.le_refl _) _
  have k0 := g.cell 0
  have k1 := g.cell 1
  by_cases hr : right30B n es q = true
  · rw [hr] at RC
    obtain ⟨m, p, rfl, rfl, hp, hm5, hlen, hm8, hG, hC, hck, hj, hroot⟩ := right30_parts hr
    by_cases hl : xs.length ≤ 40
    · have hlb : decide ((xs.length : Int) > 40) = false := decide_eq_false (by omega)
      have hl2 : ¬ 40 < xs.length := by omega
      have TC := Lib.hid (fun w h h' => rbcheck_any m A c es (by omega) p B d xs (by omega) w h h')
      by_cases hb0 : burnErr m es p xs = 0
      · rw [hb0] at TC
        obtain ⟨_, _, _, _, hcl, _⟩ := conf_zero (burn_zero hb0).1
        have hcl' : xs.length = m := by omega
        have hss := super_sets (cs := xs) hG hC hp
        have IC : Hid (∀ (w : World) (_ : Reads w w.heap.size 3 A es.length (edgeCells es)) (_ : Reads w w.heap.size 1 B xs.length (ints xs)), Calls Tryz.prog 36 #[.agg #[.int .i64 m, .slice A es.length c], .int .i64 p, .slice B xs.length d] w fun e w' => e = .returned (.bool (decide (restL m (burntL es xs m p) = []))) ∧ Below w.heap.size w w') := by
          intro w h h'
          have := ris_any m (by omega) A c es (by omega) hG p B d xs hcl' w h h'
          rw [hss]
          exact this
        by_cases hrs : restL m (burntL es xs m p) = []
        · rw [decide_eq_true hrs] at IC
          have hz : cfgErr m es p xs = 0 := cfg_iff.2 ⟨hb0, (fburns_iff hG hp xs).1 hrs⟩
          obtain ⟨hT, hol, ho0, hov, hop⟩ := grow_facts hz
          have htE : treeFE m es p xs = (nI (treeN (endsL es) m p xs), nI (fireC_ (endsL es) m p xs).order, 0) := by
            unfold treeFE; rw [if_pos hz]
            simp only [Int.toNat_natCast]
          have hpl : (parentsL m (endsL es) (treeN (endsL es) m p xs) p).length = m := by unfold parentsL; simp
          have hpE : parentsE m es (nI (treeN (endsL es) m p xs)) p = (parentsL m (endsL es) (treeN (endsL es) m p xs) p, 0) := by
            unfold parentsE
            rw [if_neg (fun hc => hc (tree_ok hj hT)), if_pos (by unfold vertB; simp; omega), toN_nI, Int.toNat_natCast, Int.toNat_natCast]
          have htl := treeN_len (n := m) (q := p) (es := es) (c := xs)
          have hel : (endsL es).length < 1000 := by omega
          have hbdE : ∀ e ∈ endsL es, e.1 < m ∧ e.2 < m := bd_ends hG
          obtain ⟨T, hTT⟩ : ∃ T, treeN (endsL es) m p xs = T := ⟨_, rfl⟩
          obtain ⟨O, hOO⟩ : ∃ O, (fireC_ (endsL es) m p xs).order = O := ⟨_, rfl⟩
          obtain ⟨P, hPP⟩ : ∃ P, parentsL m (endsL es) (treeN (endsL es) m p xs) p = P := ⟨_, rfl⟩
          rw [hPP] at hop hpl hpE
          rw [hTT] at hT htE hpE htl
          rw [hOO] at hol ho0 hov hop htE
          have T1 : Hid (∀ (w : World) (_ : Reads w w.heap.size 3 A es.length (edgeCells es)) (_ : Reads w w.heap.size 1 B xs.length (ints xs)), Calls Tryz.prog 14 #[.agg #[.int .i64 m, .slice A es.length c], .int .i64 p, .slice B xs.length d] w fun e w' => ∃ A1 c1 b2 c2, e = .returned (.tuple #[.slice A1 T.length c1, .slice (some ⟨b2, 0, none⟩) m c2, .int .i64 0]) ∧ Reads w' w'.heap.size 1 A1 T.length (ints (nI T)) ∧ Reads w' w'.heap.size 1 (some ⟨b2, 0, none⟩) m (ints (nI O)) ∧ m ≤ c2 ∧ Below w.heap.size w w') := by
            intro w h h'
            have := ttree30_any m p A c es (by omega) (fun _ => by omega) B d xs (by omega) w h h'
            rw [htE] at this
            refine this.mono ?_
            rintro e w' ⟨A1, c1, A2, c2, rfl, o1, o2, hb⟩
            dsimp only at o2 ⊢
            obtain ⟨b2, rfl, hc2⟩ := o2.some_ (by rw [nI_length]; omega)
            have hrd := o1.reads
            have hrd2 := o2.reads
            dsimp only at hrd ⊢
            rw [nI_length] at hrd hrd2 hc2 ⊢
            rw [nI_length, hol]
            rw [hol] at hrd2 hc2
            exact ⟨A1, c1, b2, c2, rfl, hrd, hrd2, hc2, hb⟩
          have P1 : Hid (∀ (B : Option Addr) (d : Nat) (w : World) (_ : Reads w w.heap.size 3 A es.length (edgeCells es)) (_ : Reads w w.heap.size 1 B T.length (ints (nI T))), Calls Tryz.prog 37 #[.agg #[.int .i64 m, .slice A es.length c], .slice B T.length d, .int .i64 p] w fun e w' => ∃ A1 c1, e = .returned (.tuple #[.slice A1 m c1, .int .i64 0]) ∧ Reads w' w'.heap.size 1 A1 m (ints P) ∧ Below w.heap.size w w') := by
            intro B d w h h'
            have := tparents_any m A c es (by omega) B d (nI T) (by rw [nI_length]; omega) p w h (by rw [nI_length]; exact h')
            rw [hpE, nI_length] at this
            refine this.mono ?_
            rintro e w' ⟨A1, c1, rfl, o1, hb⟩
            have hrd := o1.reads
            dsimp only at hrd ⊢
            rw [hpl] at hrd ⊢
            exact ⟨A1, c1, rfl, hrd, hb⟩
          have EC : Hid (∀ (w : World) (_ : Reads w w.heap.size 3 A es.length (edgeCells es)), Calls Tryz.prog 38 #[.agg #[.int .i64 m, .slice A es.length c]] w fun e w' => ∃ A' c', e = .returned (.slice A' (endsL es).length c') ∧ Reads w' w'.heap.size 2 A' (endsL es).length (pair2 (endsL es)) ∧ Below w.heap.size w w') := by
            intro w h
            refine (rendsC_any m A c es hlen m hG.ok w h).mono ?_
            rintro e w' ⟨A', c', rfl, o, hb⟩
            exact ⟨A', c', rfl, OwnQ.reads o, hb⟩
          have HC : Hid (∀ (b2 c2 k : Nat) (_ : k < m) (v : Int) (w : World) (_ : Reads w w.heap.size 1 (some ⟨b2, 0, none⟩) m (ints (nI O))), Calls Tryz.prog 33 #[.slice (some ⟨b2, 0, none⟩) k c2, .int .i64 v] w fun e w' => e = .returned (.bool (decide (v ∈ (nI O).take k))) ∧ w' = w) := by
            intro b2 c2 k hk v w h
            have hln : (nI O).length = m := by rw [nI_length]; exact hol
            have h2 := Reads.take30 (xs := nI O) (by rw [hln]; exact h) k (by omega)
            have hlk : ((nI O).take k).length = k := by rw [List.length_take]; omega
            have := contains_any (some ⟨b2, 0, none⟩) c2 ((nI O).take k) (by omega) v w (by rw [hlk]; exact h2)
            rw [hlk] at this
            exact this.mono fun _ _ h => ⟨h.1, h.2.symm⟩
          have hnt : ∀ k : Nat, (nI O).take k = nI (O.take k) := fun k => by unfold nI; rw [List.map_take]
          have FV : Hid (∀ k < m, ∃ v, O[k]? = some v ∧ v < m ∧ decide ((v : Int) ∈ (nI O).take k) = false ∧ (0 < k → ∃ (e a b o : Nat), P[v]? = some (e : Int) ∧ (endsL es)[e]? = some (a, b) ∧ e < (endsL es).length ∧ a < m ∧ b < m ∧ (a : Int) + b - v = o ∧ decide ((o : Int) ∈ (nI O).take k) = true)) := by
            intro k hk
            obtain ⟨v, hv⟩ := get_of_lt (xs := O) (k := k) (by omega)
            obtain ⟨h1, h2⟩ := hov k v hv
            refine ⟨v, hv, h1, decide_eq_false (by rw [hnt, mem_nI9]; exact h2), fun hk0 => ?_⟩
            obtain ⟨e, he, hel2, hin, hot⟩ := hop k v hk0 hv
            obtain ⟨ab, hab⟩ := get_of_lt (xs := endsL es) (k := e) hel2
            obtain ⟨a, b⟩ := ab
            have hgd : (endsL es).getD e (0, 0) = (a, b) := by rw [List.getD_eq_getElem?_getD, hab]; rfl
            have hb1 := hbdE _ (List.mem_of_getElem? hab)
            unfold Inc at hin
            rw [hgd] at hin hot
            refine ⟨e, a, b, oth (a, b) v, he, hab, hel2, hb1.1, hb1.2, ?_, decide_eq_true (by rw [hnt, mem_nI9]; exact hot)⟩
            unfold oth
            dsimp only at hin ⊢
            split <;> omega
          obtain ⟨E, hE⟩ : ∃ E, endsL es = E := ⟨_, rfl⟩
          rw [hE] at FV EC hel
          have HO0 := Lib.hid ho0
          clear hr hz htE hpE hpl htl hov hop hTT hOO hPP hT hol ho0 hbdE hb0 hrs hss hcl hcl' hG hC hck hj hroot hnt hE hm8
          go_enter Tryz.func7, Tryz.ntmps7
          go_wp2_with fail
          refine (RC.out _ ((h.below hB).more hB.size)).mono ?_
          rintro e wn ⟨rfl, hb⟩
          have g := g.next hb
          have hB := hB.trans (hb.mono hB.size)
          have k0 := g.cell 0
          have k1 := g.cell 1
          clear hb
          go_wp2_with fail
          refine (TC.out _ ((h.below hB).more hB.size) ((h'.below hB).more hB.size)).mono ?_
          rintro e wn ⟨rfl, hb⟩
          have g := g.next hb
          have hB := hB.trans (hb.mono hB.size)
          have k0 := g.cell 0
          have k1 := g.cell 1
          clear hb
          go_wp2_with fail
          refine (IC.out _ ((h.below hB).more hB.size) ((h'.below hB).more hB.size)).mono ?_
          rintro e wn ⟨rfl, hb⟩
          have g := g.next hb
          have hB := hB.trans (hb.mono hB.size)
          have k0 := g.cell 0
          have k1 := g.cell 1
          clear hb
          go_wp2_with fail
          refine (T1.out _ ((h.below hB).more hB.size) ((h'.below hB).more hB.size)).mono ?_
          rintro e wn ⟨A1, d1, b2, d2, rfl, q1, q2, hcp, hb⟩
          have g := g.next hb
          have hB := hB.trans (hb.mono hB.size)
          have k0 := g.cell 0
          have k1 := g.cell 1
          clear hb
          go_wp2_with fail
          refine (P1.out _ _ _ ((h.below hB).more hB.size) q1).mono ?_
          rintro e wn ⟨A3, d3, rfl, q3, hb⟩
          have q2 := q2.next hb
          have g := g.next hb
          have hB := hB.trans (hb.mono hB.size)
          have k0 := g.cell 0
          have k1 := g.cell 1
          clear hb
          obtain ⟨b0, f0, e0, hb0, z0⟩ := q2.at_ (ints_at (nI_at HO0.out))
          injection e0 with e0
          injection e0 with i1 i2
          subst i1 i2
          have hm0 : (0 : Int) < (m : Int) := by omega
          have hm1 : 0 < m := by omega
          go_wp2_with fail
          refine (EC.out _ ((h.below hB).more hB.size)).mono ?_
          rintro e wn ⟨A4, d4, rfl, q4, hb⟩
          have q2 := q2.next hb
          have q3 := q3.next hb
          have g := g.next hb
          have hB := hB.trans (hb.mono hB.size)
          have k0 := g.cell 0
          have k1 := g.cell 1
          clear hb
          obtain ⟨wo, rfl⟩ : ∃ wo : World, wo = wn := ⟨_, rfl⟩
          have HB := Lib.hid hB
          clear hb0 z0 RC TC IC T1 P1 EC HO0 h h' g hB
          go_wp2_with fail
          go_loopw [84] (fun i wr => ∃ (k nq : Nat), i = .int .i64 k ∧ k ≤ m ∧ wr = wo.drewN nq) (fun i _ => m - (intOf i).toNat)
          case atStart => exact ⟨0, 0, rfl, by omega, rfl⟩
          case round =>
            obtain ⟨k, nq, rfl, hk, rfl⟩ := hrel
            by_cases hlt : k < m
            · obtain ⟨v, hOv, hvm, hnot, hgo⟩ := FV.out k hlt
              obtain ⟨b5, f5, e5, hb5, z5⟩ := q2.at_ (ints_at (nI_at hOv))
              injection e5 with e5
              injection e5 with i1 i2
              subst i1 i2
              simp only [Nat.zero_add] at z5
              have hki : (k : Int) < (m : Int) := by omega
              have hvi : (v : Int) < (m : Int) := by omega
              have hv0 : decide ((v : Int) < 0) = false := decide_eq_false (by omega)
              have hv1 : decide ((v : Int) ≥ (m : Int)) = false := decide_eq_false (by omega)
              have hv2 : ¬ m ≤ v := by omega
              have hkc : (k : Int) ≤ (d2 : Int) := by omega
              have hkm : (k : Int) ≤ (m : Int) := by omega
              have hkc2 : k ≤ d2 := by omega
              have HN := Lib.hid (HC.out b2 d2 k hlt v (wo.drewN nq) (by exact q2))
              rw [hnot] at HN
              clear hnot hOv
              rcases Nat.eq_zero_or_pos k with hk0 | hk0
              · subst hk0
                clear hgo
                go_wp2_with fail
                refine (HN.out).mono ?_
                rintro en w5 ⟨rfl, rfl⟩
                go_wp2
                go_roundw
                case rel => exact ⟨1, _, by go_num, by omega, rfl⟩
                case measure => simp [intOf]; omega
              · obtain ⟨e, a, b, o, hPv, hEe, hel2, ha, hb, hab, hin⟩ := hgo hk0
                have hkz : ((k : Int) == 0) = false := by simp; omega
                have hkz2 : ¬ k = 0 := by omega
                obtain ⟨b6, f6, e6, hb6, z6⟩ := q3.at_ (ints_at hPv)
                subst e6
                obtain ⟨bE, oE, hAE, hbE, y0, y1⟩ := q4.pairAt hEe
                subst hAE
                have hei : (e : Int) < (E.length : Int) := by omega
                have he0 : decide ((e : Int) < 0) = false := decide_eq_false (by omega)
                have he1 : decide ((e : Int) ≥ (E.length : Int)) = false := decide_eq_false (by omega)
                have he2 : ¬ E.length ≤ e := by omega
                have hw1 : IntKind.i64.wrap ((a : Int) + (b : Int)) = (a : Int) + (b : Int) := IntWalk.i64_in _ (by omega)
                have hw2 : IntKind.i64.wrap ((a : Int) + (b : Int) - (v : Int)) = (o : Int) := by rw [IntWalk.i64_in _ (by omega)]; omega
                have HO : Hid (∀ n', Calls Tryz.prog 33 #[.slice (some ⟨b2, 0, none⟩) k d2, .int .i64 o] (wo.drewN n') fun e w' => e = .returned (.bool true) ∧ w' = wo.drewN n') := by
                  intro n'
                  have := HC.out b2 d2 k hlt o (wo.drewN n') (by exact q2)
                  rw [hin] at this
                  exact this
                clear hPv hEe hab hin hgo
                go_wp2_with fail
                refine (HN.out).mono ?_
                rintro en w5 ⟨rfl, rfl⟩
                go_wp2_with fail
                go_quiet ((with_reducible exact (HO.out _).mono fun _ _ h => ⟨h.1, _, h.2⟩))
                clear hw1 hw2
                go_wp2
                go_roundw
                case rel => exact ⟨k + 1, _, by go_num, by omega, rfl⟩
                case measure => simp [intOf]; omega
            · obtain rfl : k = m := by omega
              have hB : Below w.heap.size w (wo.drewN nq) := ⟨HB.out.os, HB.out.tape, HB.out.output, HB.out.size, HB.out.block⟩
              go_wp2_with fail
              refine (AW.out _).mono ?_
              rintro en wn ⟨rfl, hb⟩
              have hB := hB.trans (hb.mono hB.size)
              go_wp2
              go_ret
              exact ⟨rfl, hB⟩
        · rw [decide_eq_false hrs] at IC
          clear hr hrs hb0 hss hcl hcl' hG hC hck hj hroot
          go_enter Tryz.func7, Tryz.ntmps7
          go_wp2_with fail
          refine (RC.out _ ((h.below hB).more hB.size)).mono ?_
          rintro e wn ⟨rfl, hb⟩
          have g := g.next hb
          have hB := hB.trans (hb.mono hB.size)
          have k0 := g.cell 0
          have k1 := g.cell 1
          clear hb
          go_wp2_with fail
          refine (TC.out _ ((h.below hB).more hB.size) ((h'.below hB).more hB.size)).mono ?_
          rintro e wn ⟨rfl, hb⟩
          have g := g.next hb
          have hB := hB.trans (hb.mono hB.size)
          have k0 := g.cell 0
          have k1 := g.cell 1
          clear hb
          go_wp2_with fail
          refine (IC.out _ ((h.below hB).more hB.size) ((h'.below hB).more hB.size)).mono ?_
          rintro e wn ⟨rfl, hb⟩
          have g := g.next hb
          have hB := hB.trans (hb.mono hB.size)
          have k0 := g.cell 0
          have k1 := g.cell 1
          clear hb
          go_wp2_with fail
          refine (AW.out _).mono ?_
          rintro e wn ⟨rfl, hb⟩
          have hB := hB.trans (hb.mono hB.size)
          go_wp2
          go_ret
          exact ⟨rfl, hB⟩
      · obtain ⟨z, hz⟩ : ∃ z, burnErr m es p xs = z := ⟨_, rfl⟩
        rw [hz] at TC hb0
        have hzb : (z != 0) = true := by simpa using hb0
        clear hb0 hz hr
        go_enter Tryz.func7, Tryz.ntmps7
        go_wp2_with fail
        refine (RC.out _ ((h.below hB).more hB.size)).mono ?_
        rintro e wn ⟨rfl, hb⟩
        have g := g.next hb
        have hB := hB.trans (hb.mono hB.size)
        have k0 := g.cell 0
        have k1 := g.cell 1
        clear hb
        go_wp2_with fail
        refine (TC.out _ ((h.below hB).more hB.size) ((h'.below hB).more hB.size)).mono ?_
        rintro e wn ⟨rfl, hb⟩
        have g := g.next hb
        have hB := hB.trans (hb.mono hB.size)
        have k0 := g.cell 0
        have k1 := g.cell 1
        clear hb
        go_wp2_with fail
        refine (AW.out _).mono ?_
        rintro e wn ⟨rfl, hb⟩
        have hB := hB.trans (hb.mono hB.size)
        go_wp2
        go_ret
        exact ⟨rfl, hB⟩
    · have hlb : decide ((xs.length : Int) > 40) = true := decide_eq_true (by omega)
      have hl2 : (40 : Int) < (xs.length : Int) := by omega
      clear hr hl
      go_enter Tryz.func7, Tryz.ntmps7
      go_wp2_with fail
      refine (RC.out _ ((h.below hB).more hB.size)).mono ?_
      rintro e wn ⟨rfl, hb⟩
      have g := g.next hb
      have hB := hB.trans (hb.mono hB.size)
      have k0 := g.cell 0
      have k1 := g.cell 1
      clear hb
      go_wp2_with fail
      refine (AW.out _).mono ?_
      rintro e wn ⟨rfl, hb⟩
      have hB := hB.trans (hb.mono hB.size)
      go_wp2
      go_ret
      exact ⟨rfl, hB⟩
  · have hr : right30B n es q = false := by rw [← Bool.not_eq_true]; exact hr
    rw [hr] at RC
    clear hr
    go_enter Tryz.func7, Tryz.ntmps7
    go_wp2_with fail
    refine (RC.out _ ((h.below hB).more hB.size)).mono ?_
    rintro e wn ⟨rfl, hb⟩
    have g := g.next hb
    have hB := hB.trans (hb.mono hB.size)
    have k0 := g.cell 0
    have k1 := g.cell 1
    clear hb
    go_wp2_with fail
    refine (AW.out _).mono ?_
    rintro e wn ⟨rfl, hb⟩
    have hB := hB.trans (hb.mono hB.size)
    go_wp2
    go_ret
    exact ⟨rfl, hB⟩

namespace lawTreebijectionGrows
open Go.ChangeShapes Go.WideShapes Go.ChangeAt Go.RowKit
set_option linter.unusedVariables false
set_option maxRecDepth 100000 in
theorem lifted (os : Os) (started : os.Started) (H : Type) (enc : TypeId × Value → H) :
    ReturnsInHanded {} Tryz.checked os 7 .any (Rows.treebijectionGrowsSpec.pre6 enc Tryz.prog Tryz.f7 Rows.treebijectionGrowsRow.domain false) (Rows.treebijectionGrowsSpec.post enc Tryz.prog Tryz.f7 false true false false) := by
  refine returnsInHanded_of_change (C := Tryz.checked) own started (by kernel_rfl) Tryz.func7
    (ChangeSpec.witness6 (enc := enc) (C := Tryz.checked) false ⟨#[], #[.agg #[.int .i64 0, .slice none 0 0], .int .i64 0, .slice none 0 0], []⟩ 8 (by kernel_rfl) (by kernel_rfl) (by kernel_rfl) (by kernel_rfl)) ?_
  intro W base args ds gs before hval0 hW hcnd _
  have hval : ∀ (j : Nat) t v, Tryz.f7.params[j]? = some t → args[j]? = some v → Value.okWide Tryz.prog W .any base t v := hval0
  have hW' := hW
  obtain ⟨p, q, hA0, hV, rfl, hfz, hnd⟩ := hW
  have hA : DataW.TrodAll enc Tryz.prog W 0 (fun _ => true) true Tryz.f7.params.toList args.toList ds p := hA0
  rw [Tryz.params7] at hA hval
  obtain ⟨v0, vs0, d0, ds0, p0, q0, hargs, rfl, rfl, h0, r0⟩ := trodAll_cons hA
  obtain ⟨v1, vs1, d1, ds1, p1, q1, rfl, rfl, rfl, h1, r1⟩ := trodAll_cons r0
  obtain ⟨v2, vs2, d2, ds2, p2, q2, rfl, rfl, rfl, h2, r2⟩ := trodAll_cons r1
  obtain ⟨rfl, rfl, rfl⟩ := trodAll_nil r2
  obtain rfl : args = #[v0, v1, v2] := by cases args; simp_all
  obtain ⟨rfl, rfl⟩ := trodVars_none hV
  obtain ⟨cs0, rfl, _⟩ := okWide_struct Tryz.underlying24 (hval 0 24 v0 rfl rfl)
  have k0 := h0
  have lt0 : ∀ x ∈ p0, x.block < W.heap.size := by obtain ⟨m, hm⟩ := k0; exact DataW.trod_lt m _ _ _ hm
  obtain ⟨_, hf0⟩ := h0
  obtain ⟨n0, a0, cap0, xs0, hcs0, hm0, hr0, hw0⟩ := open_graph hf0
  obtain rfl : cs0 = #[.int .i64 n0, .slice a0 xs0.length cap0] := Array.toList_inj.1 hcs0
  obtain ⟨a1, rfl, rfl, rfl, w1⟩ := open_int Tryz.underlying3 (hval 1 3 v1 rfl rfl) h1
  obtain ⟨b2, len2, c2, rfl⟩ := okWide_slice Tryz.underlying26 (hval 2 26 v2 rfl rfl)
  have k2 := h2
  have lt2 : ∀ x ∈ p2, x.block < W.heap.size := by obtain ⟨m, hm⟩ := k2; exact DataW.trod_lt m _ _ _ hm
  obtain ⟨_, hf2⟩ := h2
  obtain ⟨a2, cap2, xs2, hcs2, hm2, hr2, hw2⟩ := open_row Tryz.underlying26 hf2
  obtain ⟨rfl, rfl, rfl⟩ : b2 = a2 ∧ len2 = xs2.length ∧ c2 = cap2 := by simpa [Value.cells] using hcs2
  clear hA0 hval0
  refine (treebijectionGrows_walk W n0 a0 cap0 xs0 hm0 hw0 hr0 a1 w1 b2 c2 xs2 hm2 hw2 hr2).mono fun e W' ⟨he, bel⟩ => ?_
  subst he
  exact ⟨_, rfl, _, _, _, [], _, [], hW', trodAll_mk1 (shut_bool Tryz.underlying4 _), (trodAll_cons_mk (Below.trod laidOut (by kernel_rfl) (of_decide_eq_true (by kernel_rfl)) k0 bel lt0) (trodAll_cons_mk (shut_int Tryz.underlying3 w1) (trodAll_cons_mk (Below.trod laidOut (by kernel_rfl) (of_decide_eq_true (by kernel_rfl)) k2 bel lt2) trodAll_mk0))), rfl, bel.frame _, fun h => by cases h⟩

theorem over : Rows.treebijectionGrowsRow.holds Tryz.pinned (OpenSpec.ofChange Rows.treebijectionGrowsSpec) :=
  OpenClaim.holds_of_wide 7 Tryz.f7 rfl rfl rfl rfl rfl rfl rfl ⟨rfl, rfl, rfl, rfl, rfl⟩ rfl rfl rfl rfl rfl (by kernel_rfl) Tryz.func7 (by kernel_rfl)
    (of_decide_eq_true (by kernel_rfl)) (by unfold Func.isWrapper; first | (rw [if_pos (by decide +kernel)]; kernel_rfl) | (rw [if_neg (by decide +kernel)]; exact ⟨rfl, rfl⟩))
    (fun os started H enc _ => lifted os started H enc)

/-- For every graph, sink and divisor the law answers true: each vertex burns behind the next one on the way to the sink in the tree. -/
theorem proved : Rows.TreebijectionGrowsSaid := over
#print axioms proved
end lawTreebijectionGrows
end Go.Proofs.YtghigdcpinengaaGreat
