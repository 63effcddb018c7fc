/-
  Texts of this claim, put together: WorstP, RBan.
-/
import Derived.Test.YtdnoeaoelgehcaaGreatK13
import Derived.Test.YtdnoeaoelgehcaaGreatK31
import Derived.Deep.RegionHeld3
/-! Plain: the greatest forbidden set, found among all sets, is what the fire leaves. -/
namespace Go.Proofs.YtdnoeaoelgehcaaGreat
open Go.RowKit

theorem flm_erase {es : List E3} {v : Nat} {l : List Nat} (h : l.Nodup) : ∀ k, flmTo es (l.erase v) v k = flmTo es l v k
  | 0 => rfl
  | k + 1 => by
    rw [flmTo, flmTo, flm_erase h k]
    by_cases hk : k = v
    · subst hk
      have h0 : tt es k k = 0 := by unfold tt; rw [if_pos rfl]
      rw [h0]; simp
    · congr 1
      have hm : k ∈ l.erase v ↔ k ∈ l := by rw [h.mem_erase_iff]; exact ⟨fun x => x.2, fun x => ⟨hk, x⟩⟩
      by_cases hl : k ∈ l
      · rw [if_pos hl, if_pos (hm.2 hl)]
      · rw [if_neg hl, if_neg (fun x => hl (hm.1 x))]
theorem ban_jn {n : Nat} {es : List E3} (hG : RightG n es) {S : List Nat} (hS : LOk n S) {v : Nat} (hv : v ∈ S) : joinsN es v S - btw es v v = jnE es S v := by
  rw [joinsN_erase es v v hv, jnE_flm hG, ← flm_erase hS.1, flm_joins (S.erase v) ⟨hS.1.erase v, fun u hu => hS.2 u (List.mem_of_mem_erase hu)⟩ (fun hc => (hS.1.mem_erase_iff.1 hc).1 rfl)]
  omega
/-- Has a vertex of a set too few chips? -/
def banT (es : List E3) (cs : List Int) (S : List Nat) (v : Nat) : Bool := !decide (joinsN es v S - btw es v v ≤ cs.getD v 0)
/-- Is a set forbidden? -/
def banB (es : List E3) (cs : List Int) (q : Nat) (S : List Nat) : Bool := !decide (S = []) && (!decide (q ∈ S) && S.all (banT es cs S))
theorem bits_ok (n D : Nat) : LOk n (bitsL n D) := ⟨List.Nodup.sublist List.filter_sublist List.nodup_range, bits_lt⟩
theorem rest_rest_bits (n D : Nat) : restL n (restL n (bitsL n D)) = bitsL n D := by
  have h : ∀ v, v < n → (v ∈ bitsL n D ↔ decide (D / 2 ^ v % 2 = 1) = true) := fun v hv => by
    unfold bitsL
    rw [List.mem_filter, List.mem_range]
    exact ⟨fun x => x.2, fun x => ⟨hv, x⟩⟩
  conv => rhs; unfold bitsL
  unfold restL
  refine List.filter_congr fun v hv => ?_
  have hv' := List.mem_range.1 hv
  have hm : v ∈ (List.range n).filter (fun v => !decide (v ∈ bitsL n D)) ↔ v ∉ bitsL n D := by
    rw [List.mem_filter]
    constructor
    · intro x; simpa using x.2
    · intro x; exact ⟨hv, by simpa using x⟩
  by_cases hb : v ∈ bitsL n D
  · rw [decide_eq_false (fun hc => (hm.1 hc) hb), (h v hv').1 hb]; rfl
  · rw [decide_eq_true (hm.2 hb)]
    have := mt (h v hv').2 hb
    rw [Bool.not_eq_true] at this
    rw [this]; rfl
/-- A forbidden set never burns. -/
theorem ban_sub {n q : Nat} {es : List E3} {cs : List Int} (hG : RightG n es) (hq : q < n) {D : Nat} (hb : banB es cs q (bitsL n D) = true) : ∀ v ∈ bitsL n D, v ∈ worstL n es cs q := by
  unfold banB at hb
  rw [Bool.and_eq_true, Bool.and_eq_true, List.all_eq_true] at hb
  obtain ⟨_, hqs, hall⟩ := hb
  have hqs : q ∉ bitsL n D := by simpa using hqs
  have hL : LOk n (restL n (bitsL n D)) := ⟨List.Nodup.sublist List.filter_sublist List.nodup_range, fun u hu => (mem_rest.1 hu).1⟩
  have hcl : ∀ v, v < n → catL es (dualL n es cs) (restL n (bitsL n D)) v = false := by
    intro v hv
    rw [cat_dual hG cs hL hv]
    by_cases hm : v ∈ bitsL n D
    · rw [← rest_catch hG, rest_rest_bits]
      have := hall v hm
      unfold banT at this
      rw [ban_jn hG (bits_ok n D) hm, Bool.not_eq_true'] at this
      rw [this, Bool.and_false]
    · rw [decide_eq_true (mem_rest.2 ⟨hv, hm⟩)]; rfl
  intro v hv
  refine mem_rest.2 ⟨bits_lt v hv, fun hc => ?_⟩
  have := burns_same (l := [q]) (l' := restL n (bitsL n D)) (by intro u hu; rw [List.mem_singleton.1 hu]; exact mem_rest.2 ⟨hq, hqs⟩) hcl hL (fun a b => (btw_bd hG.ok a b).1) n (lok_one hq) v hc
  exact (mem_rest.1 this).2 hv
/-- What the fire leaves is forbidden. -/
theorem worst_ban {n q : Nat} {es : List E3} {cs : List Int} (hG : RightG n es) (hq : q < n) (hne : worstL n es cs q ≠ []) : banB es cs q (worstL n es cs q) = true := by
  have hW : LOk n (worstL n es cs q) := ⟨List.Nodup.sublist List.filter_sublist List.nodup_range, fun u hu => (mem_rest.1 hu).1⟩
  unfold banB
  have hqW : q ∉ worstL n es cs q := fun hc => (mem_rest.1 hc).2 recL_sink
  rw [decide_eq_false hne, decide_eq_false hqW]
  rw [Bool.not_false, Bool.true_and, Bool.true_and, List.all_eq_true]
  intro v hv
  have hv' := mem_rest.1 hv
  have h2 := burnL_done (es := es) (c := dualL n es cs) (k := n) (lok_one hq) (by simp) v hv'.1
  change catL es (dualL n es cs) (recL n es cs q) v = false at h2
  rw [cat_dual hG cs (recL_ok hq) hv'.1, decide_eq_false hv'.2, Bool.not_false, Bool.true_and, ← rest_catch hG] at h2
  unfold banT
  rw [ban_jn hG hW hv, Bool.not_eq_true']
  exact h2
/-- Is a vertex in one of the first k sets, if this is forbidden? -/
def inBan (n : Nat) (es : List E3) (cs : List Int) (q k v : Nat) : Bool := (List.range k).any fun D => banB es cs q (bitsL n D) && decide (v ∈ bitsL n D)
theorem inBan_succ (n : Nat) (es : List E3) (cs : List Int) (q k v : Nat) : inBan n es cs q (k + 1) v = (inBan n es cs q k v || (banB es cs q (bitsL n k) && decide (v ∈ bitsL n k))) := by simp [inBan, List.range_succ]
theorem worst_sets {n q : Nat} {es : List E3} {cs : List Int} (hG : RightG n es) (hq : q < n) : (List.range n).filter (inBan n es cs q (2 ^ n)) = worstL n es cs q := by
  unfold worstL
  conv => rhs; unfold restL
  refine List.filter_congr fun v hv => ?_
  have hv' := List.mem_range.1 hv
  by_cases hm : v ∈ recL n es cs q
  · rw [decide_eq_true hm, Bool.not_true, ← Bool.not_eq_true]
    intro hc
    unfold inBan at hc
    obtain ⟨D, _, hD⟩ := List.any_eq_true.1 hc
    rw [Bool.and_eq_true] at hD
    exact (mem_rest.1 (ban_sub hG hq hD.1 v (of_decide_eq_true hD.2))).2 hm
  · rw [decide_eq_false hm, Bool.not_false]
    obtain ⟨D, hD, hb⟩ := bits_all (fun v => !decide (v ∈ recL n es cs q)) n
    have he : bitsL n D = worstL n es cs q := hb
    have hw : v ∈ worstL n es cs q := mem_rest.2 ⟨hv', hm⟩
    unfold inBan
    refine List.any_eq_true.2 ⟨D, List.mem_range.2 hD, ?_⟩
    rw [he, worst_ban hG hq (fun hc => by rw [hc] at hw; cases hw), decide_eq_true hw]
    rfl
end Go.Proofs.YtdnoeaoelgehcaaGreat

/-! ref24.Banned: is a set forbidden? -/
namespace Go.Proofs.YtdnoeaoelgehcaaGreat
open Go.RowKit

theorem joinsN_bd {N : Int} {es : List E3} (hok : ∀ e ∈ es, okE N e) (v : Nat) (l : List Nat) : 0 ≤ joinsN es v l ∧ joinsN es v l ≤ 50 * l.length := by
  induction l with
  | nil => simp [joinsN]
  | cons u l ih =>
    have := btw_bd hok v u
    rw [joinsN_cons, List.length_cons]; omega

set_option maxRecDepth 100000 in
set_option maxHeartbeats 4000000 in
theorem rban_any (n : Nat) (hn12 : n ≤ 12) (A : Option Addr) (c : Nat) (es : List E3) (hn : es.length ≤ 1048576) (hG : RightG n es) (q : Nat) (B : Option Addr) (d : Nat) (cs : List Int) (hcl : cs.length = n) (D : Option Addr) (f : Nat) (S : List Nat) (m : Nat) (hm : S.length = m) (hS : LOk n S) (w : World)
    (h : Reads w w.heap.size 3 A es.length (edgeCells es)) (h' : Reads w w.heap.size 1 B cs.length (ints cs)) (h'' : Reads w w.heap.size 1 D m (ints (natsI S))) :
    Calls Tryz.prog 103 #[.agg #[.int .i64 n, .slice A es.length c], .int .i64 q, .slice B cs.length d, .slice D m f] w fun e w' => e = .returned (.bool (banB es cs q S)) ∧ Below w.heap.size w w' := by
  subst hm
  have g0 := Blk.new w 24 #[.int .i64 n, .slice A es.length c]
  have hb0 : Below w.heap.size w (w.alloc (.cells #[.int .i64 n, .slice A es.length c] 24)) := (Below.refl _ _).alloc (Nat.le_refl _) _
  have hSl : S.length ≤ 12 := by have := nodup_len hS; omega
  have JC := Lib.hid (fun (v : Nat) w h h'' => jns_any n A c es hn n hG.ok v D f S (by omega) w h h'')
  have BC := Lib.hid (fun (v : Nat) w h => between_any n A c es hn v v w h)
  have HCL := Lib.hid hcl
  have HS := Lib.hid hS.2
  have HJB := Lib.hid (fun v : Nat => joinsN_bd hG.ok v S)
  have HBB := Lib.hid (fun v : Nat => btw_bd hG.ok v v)
  have hnl : (natsI S).length = S.length := natsI_length S
  have HK := holds_any D f (natsI S) (by omega) q _ (by rw [hnl]; exact (h''.below hb0).more hb0.size)
  rw [hnl] at HK
  have hmem : ((q : Int) ∈ natsI S) ↔ q ∈ S := natsI_mem
  clear hG hnl
  by_cases h0 : S = []
  · subst h0
    have hl : banB es cs q [] = false := rfl
    rw [hl]
    clear hl HK hS hmem hcl JC BC HJB HBB HS
    go_enter Tryz.func103, Tryz.ntmps103
    go_wp2
    go_ret
    exact ⟨rfl, hb0⟩
  · have hpos : 0 < S.length := List.length_pos_iff.2 h0
    have hi : (0 : Int) < (S.length : Int) := by omega
    have hd0 : decide ((0 : Int) < (S.length : Int)) = true := decide_eq_true hi
    have hz : ((S.length : Int) == 0) = false := by simp; exact h0
    by_cases hq : q ∈ S
    · have hl : banB es cs q S = false := by unfold banB; rw [decide_eq_true hq]; simp
      rw [decide_eq_true (hmem.2 hq)] at HK
      rw [hl]
      have HK := Lib.hid HK
      clear hl hS hmem hcl JC BC HJB HBB HS hq h0
      go_enter Tryz.func103, Tryz.ntmps103
      go_wp2_with fail
      refine (HK.out).mono ?_
      rintro e w2 ⟨rfl, rfl⟩
      go_wp2
      go_ret
      exact ⟨rfl, hb0⟩
    · have hl : banB es cs q S = (S.drop 0).all (banT es cs S) := by unfold banB; rw [decide_eq_false hq, decide_eq_false h0]; rfl
      rw [decide_eq_false (fun x => hq (hmem.1 x))] at HK
      have HK := Lib.hid HK
      obtain ⟨r, hr⟩ : ∃ r, banB es cs q S = r := ⟨_, rfl⟩
      rw [hr] at hl ⊢
      have HL0 := Lib.hid hl
      have HT : Hid (∀ v, banT es cs S v = !decide (joinsN es v S - btw es v v ≤ cs.getD v 0)) := fun _ => rfl
      obtain ⟨T, hT⟩ : ∃ T, banT es cs S = T := ⟨_, rfl⟩
      rw [hT] at HL0 HT
      clear hl hS hmem hcl hq h0 hr hT
      go_enter Tryz.func103, Tryz.ntmps103
      go_wp2_with fail
      refine (HK.out).mono ?_
      rintro e w2 ⟨rfl, rfl⟩
      go_wp2
      go_loopw [9] (fun i wr => ∃ (k : Nat), k ≤ S.length ∧ i = .int .i64 k ∧ Hid (r = (S.drop k).all T) ∧ Below w.heap.size w wr ∧ Blk wr w.heap.size 24 #[.int .i64 n, .slice A es.length c]) (fun i _ => S.length - (intOf i).toNat)
      case atStart => exact ⟨0, by omega, rfl, HL0.out, hb0, g0⟩
      case round =>
        obtain ⟨k, hk, rfl, HX, hbel, g1⟩ := hrel
        clear hb0 g0 HL0 HK
        have hsz := hbel.size
        have c0 := g1.cell 0
        have c1 := g1.cell 1
        have hgl := g1.lt
        by_cases hlt : k < S.length
        · obtain ⟨v, hv⟩ := get_of_lt hlt
          have hvn : v < n := HS.out v (List.mem_of_getElem? hv)
          obtain ⟨y, hy⟩ := get_of_lt (xs := cs) (k := v) (by have := HCL.out; omega)
          obtain ⟨b, off, rfl, hb, hcell⟩ := (h''.below hbel).at_ (ints_at (natsI_at hv))
          obtain ⟨bc, offc, rfl, hbc, hcy⟩ := (h'.below hbel).at_ (ints_at hy)
          have hki : (k : Int) < (S.length : Int) := by omega
          have hvi : (v : Int) < (cs.length : Int) := by have := HCL.out; omega
          have hma : r = (T v && (S.drop (k + 1)).all T) := by
            rw [HX.out]
            obtain ⟨l1, e1⟩ := List.getElem?_eq_some_iff.1 hv
            rw [List.drop_eq_getElem_cons l1, e1, List.all_cons]
          rw [HT.out, getD_at hy] at hma
          have JV := Lib.hid (JC.out v)
          have BV := Lib.hid (BC.out v)
          have hjb := HJB.out v
          have hbb := HBB.out v
          have RG := Lib.hid ((h.below hbel).more hsz)
          have RT := Lib.hid ((h''.below hbel).more hsz)
          obtain ⟨z, hz2⟩ : ∃ z, joinsN es v S = z := ⟨_, rfl⟩
          obtain ⟨u, hu2⟩ : ∃ u, btw es v v = u := ⟨_, rfl⟩
          rw [hz2] at JV hjb hma
          rw [hu2] at BV hbb hma
          have hz0 : 0 ≤ z := hjb.1
          have hz1 : z ≤ 600 := by omega
          have hu0 : 0 ≤ u := hbb.1
          have hu1 : u ≤ 50 := hbb.2
          have hw : IntKind.i64.wrap (z - u) = z - u := IntWalk.i64_in _ (by omega)
          clear hv hy hz2 hu2 hjb hbb
          by_cases hyz : z - u ≤ y
          · rw [decide_eq_true hyz, Bool.not_true, Bool.false_and] at hma
            have HMA := Lib.hid hma
            have hge : decide (z - u ≤ y) = true := decide_eq_true hyz
            clear hma
            go_wp2
            go_region_held3 (fun W => W.cell? ⟨w.heap.size, 0, none⟩ = some (.int .i64 n) ∧ W.cell? ⟨w.heap.size, 1, none⟩ = some (.slice A es.length c) ∧ W.cell? ⟨bc, offc + v, none⟩ = some (.int .i64 y)) (go_keep)
              (first
                | (go_at_call 143; first
                    | (refine (JV.out _ (by exact RG.out) (by exact RT.out)).mono ?_; rintro e w5 ⟨rfl, hb5⟩
                       have hb5' : Below wr.heap.size wr w5 := (Below.refl _ _).drew.trans hb5
                       have k0 := (g1.next hb5').cell 0
                       have k1 := (g1.next hb5').cell 1
                       have k3 := (hb5'.cell (p := ⟨bc, offc + v, none⟩) (by show bc < wr.heap.size; omega)).trans hcy)
                    | (refine (JV.out _ (by exact (RG.out.below hb6').more hb6'.size) (by exact (RT.out.below hb6').more hb6'.size)).mono ?_; rintro e w7 ⟨rfl, hb7⟩
                       have hb7' : Below wr.heap.size wr w7 := hb6'.trans (hb7.mono hb6'.size)
                       have k0 := (g1.next hb7').cell 0
                       have k1 := (g1.next hb7').cell 1
                       have k3 := (hb7'.cell (p := ⟨bc, offc + v, none⟩) (by show bc < wr.heap.size; omega)).trans hcy))
                | (go_at_call 52; first
                    | (refine (BV.out _ (by exact (RG.out.below hb5').more hb5'.size)).mono ?_; rintro e w8 ⟨rfl, hb8⟩
                       have hb8' : Below wr.heap.size wr w8 := hb5'.trans (hb8.mono hb5'.size)
                       have k0 := (g1.next hb8').cell 0
                       have k1 := (g1.next hb8').cell 1
                       have k3 := (hb8'.cell (p := ⟨bc, offc + v, none⟩) (by show bc < wr.heap.size; omega)).trans hcy)
                    | (refine (BV.out _ (by exact RG.out)).mono ?_; rintro e w6 ⟨rfl, hb6⟩
                       have hb6' : Below wr.heap.size wr w6 := (Below.refl _ _).drew.trans hb6
                       have k0 := (g1.next hb6').cell 0
                       have k1 := (g1.next hb6').cell 1
                       have k3 := (hb6'.cell (p := ⟨bc, offc + v, none⟩) (by show bc < wr.heap.size; omega)).trans hcy)))
            all_goals (
              go_wp2
              go_ret
              first
                | exact ⟨ret_bool HMA.out.symm, hbel.trans (hb8'.mono hsz)⟩
                | exact ⟨ret_bool HMA.out.symm, hbel.trans (hb7'.mono hsz)⟩)
          · rw [decide_eq_false hyz, Bool.not_false, Bool.true_and] at hma
            have HMA := Lib.hid hma
            have hge : decide (z - u ≤ y) = false := decide_eq_false hyz
            clear hma
            go_wp2
            go_region_held3 (fun W => W.cell? ⟨w.heap.size, 0, none⟩ = some (.int .i64 n) ∧ W.cell? ⟨w.heap.size, 1, none⟩ = some (.slice A es.length c) ∧ W.cell? ⟨bc, offc + v, none⟩ = some (.int .i64 y)) (go_keep)
              (first
                | (go_at_call 143; first
                    | (refine (JV.out _ (by exact RG.out) (by exact RT.out)).mono ?_; rintro e w5 ⟨rfl, hb5⟩
                       have hb5' : Below wr.heap.size wr w5 := (Below.refl _ _).drew.trans hb5
                       have k0 := (g1.next hb5').cell 0
                       have k1 := (g1.next hb5').cell 1
                       have k3 := (hb5'.cell (p := ⟨bc, offc + v, none⟩) (by show bc < wr.heap.size; omega)).trans hcy)
                    | (refine (JV.out _ (by exact (RG.out.below hb6').more hb6'.size) (by exact (RT.out.below hb6').more hb6'.size)).mono ?_; rintro e w7 ⟨rfl, hb7⟩
                       have hb7' : Below wr.heap.size wr w7 := hb6'.trans (hb7.mono hb6'.size)
                       have k0 := (g1.next hb7').cell 0
                       have k1 := (g1.next hb7').cell 1
                       have k3 := (hb7'.cell (p := ⟨bc, offc + v, none⟩) (by show bc < wr.heap.size; omega)).trans hcy))
                | (go_at_call 52; first
                    | (refine (BV.out _ (by exact (RG.out.below hb5').more hb5'.size)).mono ?_; rintro e w8 ⟨rfl, hb8⟩
                       have hb8' : Below wr.heap.size wr w8 := hb5'.trans (hb8.mono hb5'.size)
                       have k0 := (g1.next hb8').cell 0
                       have k1 := (g1.next hb8').cell 1
                       have k3 := (hb8'.cell (p := ⟨bc, offc + v, none⟩) (by show bc < wr.heap.size; omega)).trans hcy)
                    | (refine (BV.out _ (by exact RG.out)).mono ?_; rintro e w6 ⟨rfl, hb6⟩
                       have hb6' : Below wr.heap.size wr w6 := (Below.refl _ _).drew.trans hb6
                       have k0 := (g1.next hb6').cell 0
                       have k1 := (g1.next hb6').cell 1
                       have k3 := (hb6'.cell (p := ⟨bc, offc + v, none⟩) (by show bc < wr.heap.size; omega)).trans hcy)))
            all_goals (
              go_wp2
              go_roundw
              first
                | (case rel => exact ⟨k + 1, by omega, by go_num, HMA.out, hbel.trans (hb8'.mono hsz), g1.next hb8'⟩)
                | (case rel => exact ⟨k + 1, by omega, by go_num, HMA.out, hbel.trans (hb7'.mono hsz), g1.next hb7'⟩)
              case measure => simp [intOf]; omega)
        · obtain rfl : k = S.length := by omega
          have hend : r = true := by rw [HX.out, List.drop_length]; rfl
          have HE := Lib.hid hend
          clear hend HX
          go_wp2
          go_ret
          exact ⟨ret_bool HE.out.symm, hbel⟩
end Go.Proofs.YtdnoeaoelgehcaaGreat

