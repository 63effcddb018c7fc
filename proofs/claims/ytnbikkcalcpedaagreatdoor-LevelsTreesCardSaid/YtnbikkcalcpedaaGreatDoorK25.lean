/-
 Texts of this claim, put together: TakeF, Kindle, SFire, Maximal.
-/
import Derived.Test.YtnbikkcalcpedaaGreatDoorK21
import Derived.Test.YtnbikkcalcpedaaGreatDoorK22
import Derived.Deep.RegionWith
import Derived.BigRegion
import Derived.Test.YtnbikkcalcpedaaGreatDoorK20
set_option maxRecDepth 100000
set_option maxHeartbeats 8000000
namespace Go.Proofs.YtnbikkcalcpedaaGreatDoor
open Go.RowKit
theorem take_any (base b n v : Nat) (E : List (Nat × Nat)) (lv : Value) (a : FireA) (s : FireS) (H : List Int) (hn : n ≤ 12) (hv : v < n) (hE : BdP n E) (hEl : E.length ≤ 200) (hHl : H.length ≤ 200) (hol : s.order.length ≤ 1000) (hH : HeapN H H.length) (w : World) (hF : FireW w base b E n lv a s H) (hs : base ≤ w.heap.size) :
  Calls Tryz.prog 325 #[.pointer (some ⟨b, 0, none⟩), .int .i64 v] w fun e w' => e = .returned (.tuple #[]) ∧ ∃ a' H', FireW w' base b E n lv a' { s with order := s.order ++ [v] } H' ∧ H'.Perm (H ++ nI (newL E (s.order ++ [v]) v E.length)) ∧ HeapN H' H'.length ∧ Below base w w' := by
 have HF := Lib.hid hF
 obtain ⟨AE, hAE⟩ : ∃ x, a.AE = x := ⟨_, rfl⟩
 have HAE := Lib.hid hAE
 clear hAE
 have kB := hF.blk.cell 2
 have fB := hF.burnt.frozen v
 have cB := (hF.burnt.cell v).trans (bntL_at hv)
 have hvi : (v : Int) < (n : Int) := by omega
 have b0 : Blk (w.setCell ⟨a.gB, v, none⟩ (.bool true)) b 242 (fireC E n lv a s H) := hF.blk.far (p := ⟨a.gB, v, none⟩) (fun e => hF.ne e.symm) _
 have o0 : OwnI (w.setCell ⟨a.gB, v, none⟩ (.bool true)) base a.AO a.cO (nI s.order) := own_kept hF.order fun k hk => Below.heap_setCell w ⟨a.gB, v, none⟩ _ k (own_neB hF.order hF.burnt (by decide) k hk)
 have z0 : base ≤ (w.setCell ⟨a.gB, v, none⟩ (.bool true)).heap.size := by simpa [World.setCell] using hs
 have own0 := own_lenH o0 (nI_length s.order)
 have hnb : ∀ k, blockOf a.AO k → k ≠ b := own_neB o0 b0 (by decide)
 have kB2 : w.cell? ⟨b, 2, none⟩ = some (.slice (some ⟨a.gB, 0, none⟩) n n) := kB
 have k52 : (w.setCell ⟨a.gB, v, none⟩ (.bool true)).cell? ⟨b, 5, none⟩ = some (.slice a.AO s.order.length a.cO) := b0.cell 5
 have HH := Lib.hid hH
 have HEB := Lib.hid hE
 have HNB := Lib.hid hnb
 have B0 := Lib.hid b0
 have hzw : (w.setCell ⟨a.gB, v, none⟩ (.bool true)).heap.size = w.heap.size := by simp [World.setCell]
 have hrb := Reads.box (w.setCell ⟨a.gB, v, none⟩ (.bool true)) (.int .i64 (v : Int)) 3
 rw [hzw] at hrb
 have HZW := Lib.hid hzw
 clear hF hH hE kB hnb b0 hzw o0
 go_enter Tryz.func325, Tryz.ntmps325
 go_wp2_with (first | (at_builtin; refine append_go rfl (.tmp 16) (.tmp 18) _ rfl base 3 Tryz.underlying25 info_int rfl (by omega) a.AO a.cO s.order.length (ints (nI s.order)) rfl (World.ownsRow.alloc own0 _) (w.heap.size + 1) [.int .i64 (v : Int)] rfl hrb (by simp [Value.oneCell']) (by omega) (by simp; omega) ?_; intro A5 c5 w5 hown5 hg5 hb5 hd5; have b5 : Blk w5 b 242 (fireC E n lv a s H) := (hg5.block b (by have h1 := B0.out.lt; rw [HZW.out] at h1; simp; omega) (fun e => HNB.out b (blockOf_own.1 e.symm) rfl)).trans (B0.out.alloc _); have fz5 := b5.frozen 5; have kc5 : w5.cell? ⟨b, 5, none⟩ = some (.slice a.AO s.order.length a.cO) := b5.cell 5; have kc0 : (w5.setCell ⟨b, 5, none⟩ (.slice A5 (s.order.length + 1) c5)).cell? ⟨b, 0, none⟩ = some (.slice AE E.length a.cE) := (by rw [← HAE.out]; exact (b5.set_ 5 (.slice A5 (s.order.length + 1) c5)).cell 0)) | fail)
 have hF := HF.out
 have hA5 : ∀ k, blockOf A5 k → blockOf a.AO k ∨ w.heap.size ≤ k := by
  intro k hk
  have hk2 : (Value.slice A5 (s.order.length + 1) c5).ownBlock = some k := blockOf_own.2 hk
  rcases hd5 with hd5 | hd5
  ·rw [hd5] at hk2; exact .inl (blockOf_own.1 hk2)
  ·rw [hd5] at hk2; injection hk2 with hk2; subst hk2; refine .inr ?_; simp [World.setCell]
 have o5 : OwnI w5 base A5 c5 (nI (s.order ++ [v])) := by
  unfold OwnI; rw [nI_length, List.length_append]
  have : ints (nI (s.order ++ [v])) = ints (nI s.order) ++ [.int .i64 (v : Int)] := by simp [nI, ints]
  rw [this]; exact hown5
 have F1 := Lib.hid (hF.mark (x := s.order.length) hv hg5 o5 hA5)
 have HP0 : Hid (Below base w (w5.setCell ⟨b, 5, none⟩ (.slice A5 (s.order.length + 1) c5))) := (((((Below.refl base w).setCell (p := ⟨a.gB, v, none⟩) hF.hgB (.bool true)).alloc z0 (.cells #[.int .i64 (v : Int)] 3)).trans hb5).setCell (p := ⟨b, 5, none⟩) hF.hb _)
 have hz5 : base ≤ (w5.setCell ⟨b, 5, none⟩ (.slice A5 (s.order.length + 1) c5)).heap.size := Nat.le_trans hs HP0.out.size
 have HZ5 := Lib.hid hz5
 clear hF hA5 o5 hown5 hg5 hd5 hb5 b5 fz5 kc5 own0 hrb k52 fB cB kB2 hz5
 go_loopw [27] (fun i wr => ∃ k : Nat, k ≤ E.length ∧ i = .int .i64 k ∧ Hid (base ≤ wr.heap.size) ∧ Hid (Below base w wr) ∧ Hid (∃ A' c' H', FireW wr base b E n lv { a with AO := A5, cO := c5, AH := A', cH := c' } { s with order := s.order ++ [v] } H' ∧ H'.Perm (H ++ nI (newL E (s.order ++ [v]) v k)) ∧ HeapN H' H'.length)) (fun i _ => E.length - (intOf i).toNat)
 case atStart => exact ⟨0, by omega, rfl, HZ5.out, HP0.out, a.AH, a.cH, H, F1.out, by simp [newL, nI], HH.out⟩
 case round =>
  obtain ⟨k, hk, rfl, HZ, HW, HI⟩ := hrel
  clear kc0
  obtain ⟨A1, c1, H1, hF1, hP1, hH1⟩ := HI.out
  by_cases hlt : k < E.length
  ·obtain ⟨⟨x0, x1⟩, hp⟩ : ∃ p, E.getD k (0, 0) = p := ⟨_, rfl⟩
   have hab := getD_bd HEB.out hlt
   obtain ⟨bA, oA, hA, hbA, q0, q1⟩ := hF1.ends.pairAt (getD_some hlt)
   have hA2 : AE = some ⟨bA, oA, none⟩ := HAE.out.symm.trans hA
   subst hA2
   clear hA
   have hb2 : wr.cell? ⟨b, 2, none⟩ = some (.slice (some ⟨a.gB, 0, none⟩) n n) := hF1.blk.cell 2
   have hb2a : (wr.alloc (.cells #[.int .i64 (x0 : Int), .int .i64 (x1 : Int)] 50)).cell? ⟨b, 2, none⟩ = some (.slice (some ⟨a.gB, 0, none⟩) n n) := (hF1.blk.alloc _).cell 2
   rw [hp] at hab q0 q1
   dsimp only at hab q0 q1
   obtain ⟨h0, h1⟩ := hab
   have hl1 : H1.length ≤ 500 := by rw [hP1.length_eq, List.length_append, nI_length]; have := List.length_filter_le (fun e => decide ((E.getD e (0, 0)).1 ≠ (E.getD e (0, 0)).2) && (decide ((E.getD e (0, 0)).1 = v) || decide ((E.getD e (0, 0)).2 = v)) && !decide ((E.getD e (0, 0)).1 + (E.getD e (0, 0)).2 - v ∈ s.order ++ [v])) (List.range k); rw [List.length_range] at this; unfold newL; omega
   have QS := Lib.hid (fun W (hB : Below wr.heap.size wr W) => hF1.keep HZ.out hB)
   have hHl1 : H1.length ≤ 500 := hl1
   have PC : Hid (∀ W, Below wr.heap.size wr W → Calls Tryz.prog 348 #[.iface 355 (.pointer (some ⟨b, 7, none⟩)), .iface 3 (.int .i64 (k : Int))] W fun e w' => e = .returned (.tuple #[]) ∧ Hid (base ≤ w'.heap.size) ∧ Hid (Below base w w') ∧ Hid (∃ A' c' H', FireW w' base b E n lv { a with AO := A5, cO := c5, AH := A', cH := c' } { s with order := s.order ++ [v] } H' ∧ H'.Perm (H ++ nI (newL E (s.order ++ [v]) v k) ++ [(k : Int)]) ∧ HeapN H' H'.length)) := by
    intro W hB
    have hFW := QS.out W hB
    have hz : base ≤ W.heap.size := Nat.le_trans HZ.out hB.size
    refine (hpush_any b 7 base 242 (by decide) _ (by simp [fireC]) A1 c1 H1 H1.length rfl (by omega) hH1 (k : Int) W hFW.next hz hFW.blk (by simp [fireC])).mono ?_
    rintro e w' ⟨he, A', c', H', l', p', h', o', b', W', D'⟩
    rw [← l'] at b' h'
    have hbel : Below base W w' := W'.below (fun j hj hc => by
     rcases hc with hc | hc
     ·have := own_geI hFW.next j hc; omega
     ·have := hFW.hb; omega) hz
    refine ⟨he, Nat.le_trans hz hbel.size, (HW.out.trans (hB.mono HZ.out)).trans hbel, A', c', H', hFW.queue o' b' W' D' hz, ?_, h'⟩
    refine p'.trans ((List.Perm.cons _ hP1).trans ?_)
    exact List.perm_append_comm (l₁ := [(k : Int)])
   have HP := Lib.hid hp
   obtain ⟨y, hy⟩ : ∃ y, x0 + x1 - v = y := ⟨_, rfl⟩
   have hbt := fun (hyn : y < n) => ((hF1.burnt.alloc (w := wr) (.cells #[.int .i64 (x0 : Int), .int .i64 (x1 : Int)] 50)).cell y).trans (bntL_at (order := s.order ++ [v]) hyn)
   have SKIP : Hid ((x0 = x1 ∨ (x0 ≠ v ∧ x1 ≠ v) ∨ x0 + x1 - v ∈ s.order ++ [v]) → ∀ W, Below wr.heap.size wr W → Hid (base ≤ W.heap.size) ∧ Hid (Below base w W) ∧ Hid (∃ A' c' H', FireW W base b E n lv { a with AO := A5, cO := c5, AH := A', cH := c' } { s with order := s.order ++ [v] } H' ∧ H'.Perm (H ++ nI (newL E (s.order ++ [v]) v (k + 1))) ∧ HeapN H' H'.length)) := by
    intro hc W hB
    refine ⟨Nat.le_trans HZ.out hB.size, HW.out.trans (hB.mono HZ.out), A1, c1, H1, QS.out W hB, ?_, hH1⟩
    rw [new_skip HP.out hc]; exact hP1
   clear hF1 hP1 hH1 hp HI hl1 hHl1
   have hki : (k : Int) < (E.length : Int) := by omega
   by_cases e01 : x0 = x1
   ·subst e01
    have hne : ((x0 : Int) != (x0 : Int)) = false := by simp
    clear hbt
    have SK := Lib.hid (SKIP.out (.inl rfl))
    clear SKIP
    go_wp2_with fail
    go_quiet (fail)
    go_wp2
    go_roundw
    case rel => exact ⟨k + 1, by omega, by go_num, SK.out _ (by exact below_drewN ((Below.refl _ _).alloc (Nat.le_refl _) _) _)⟩
    case measure => simp [intOf]; omega
   ·have hne : ((x0 : Int) != (x1 : Int)) = true := bne_iff_ne.2 (by omega)
    by_cases ev : x0 = v ∨ x1 = v
    ·have hyn : y < n := by omega
     have hyi : (y : Int) < (n : Int) := by omega
     have hby := hbt hyn
     have hw1 : IntKind.i64.wrap ((x0 : Int) + (x1 : Int)) = (x0 : Int) + (x1 : Int) := IntWalk.i64_in _ (by omega)
     have hw2 : IntKind.i64.wrap ((x0 : Int) + (x1 : Int) - (v : Int)) = (y : Int) := by rw [IntWalk.i64_in _ (by omega)]; omega
     clear hbt
     rw [hy] at SKIP
     by_cases e0 : x0 = v
     ·have hq0 : ((x0 : Int) == (v : Int)) = true := by simp [e0]
      by_cases hbn : x0 + x1 - v ∈ s.order ++ [v]
      ·rw [hy] at hbn
       rw [decide_eq_true hbn] at hby
       have E0 := Lib.hid ev
       have EY := Lib.hid hy
       clear ev hy e0
       have SK := Lib.hid (SKIP.out (.inr (.inr hbn)))
       clear SKIP
       go_wp2_with fail
       go_quiet (fail)
       go_wp2
       go_roundw
       case rel => exact ⟨k + 1, by omega, by go_num, SK.out _ (by exact below_drewN ((Below.refl _ _).alloc (Nat.le_refl _) _) _)⟩
       case measure => simp [intOf]; omega
      ·have hb2_ := hbn
       rw [hy] at hb2_
       rw [decide_eq_false hb2_] at hby
       have HN := new_push HP.out e01 (.inl e0) hbn
       have HN := Lib.hid HN
       clear e0 ev hy hbn hb2_
       clear SKIP
       go_wp2_with fail
       go_quiet (fail)
       go_wp2_with fail
       refine (PC.out _ (by exact below_drewN ((Below.refl _ _).alloc (Nat.le_refl _) _) _)).mono ?_
       rintro e w8 ⟨rfl, HZ8, HW8, HI8⟩
       go_wp2
       go_roundw
       case rel =>
        refine ⟨k + 1, by omega, by go_num, HZ8, HW8, ?_⟩
        obtain ⟨A', c', H', f', p', h'⟩ := HI8.out
        refine ⟨A', c', H', f', ?_, h'⟩
        rw [HN.out, nI, List.map_append, ← List.append_assoc]; exact p'
       case measure => simp [intOf]; omega
     ·have hq0 : ((x0 : Int) == (v : Int)) = false := by simp; omega
      have hq1 : ((x1 : Int) == (v : Int)) = true := by simp; omega
      by_cases hbn : x0 + x1 - v ∈ s.order ++ [v]
      ·rw [hy] at hbn
       rw [decide_eq_true hbn] at hby
       have E0 := Lib.hid ev
       have EY := Lib.hid hy
       clear ev hy
       have SK := Lib.hid (SKIP.out (.inr (.inr hbn)))
       clear SKIP
       go_wp2_with fail
       go_quiet (fail)
       go_wp2
       go_roundw
       case rel => exact ⟨k + 1, by omega, by go_num, SK.out _ (by exact below_drewN ((Below.refl _ _).alloc (Nat.le_refl _) _) _)⟩
       case measure => simp [intOf]; omega
      ·have hb2_ := hbn
       rw [hy] at hb2_
       rw [decide_eq_false hb2_] at hby
       have HN := new_push HP.out e01 (.inr (by omega)) hbn
       have HN := Lib.hid HN
       clear ev hy hbn hb2_
       clear SKIP
       go_wp2_with fail
       go_quiet (fail)
       go_wp2_with fail
       refine (PC.out _ (by exact below_drewN ((Below.refl _ _).alloc (Nat.le_refl _) _) _)).mono ?_
       rintro e w8 ⟨rfl, HZ8, HW8, HI8⟩
       go_wp2
       go_roundw
       case rel =>
        refine ⟨k + 1, by omega, by go_num, HZ8, HW8, ?_⟩
        obtain ⟨A', c', H', f', p', h'⟩ := HI8.out
        refine ⟨A', c', H', f', ?_, h'⟩
        rw [HN.out, nI, List.map_append, ← List.append_assoc]; exact p'
       case measure => simp [intOf]; omega
    ·have hq0 : ((x0 : Int) == (v : Int)) = false := by simp; omega
     have hq1 : ((x1 : Int) == (v : Int)) = false := by simp; omega
     clear hbt
     have SK := Lib.hid (SKIP.out (.inr (.inl ⟨fun e => ev (.inl e), fun e => ev (.inr e)⟩)))
     clear SKIP
     go_wp2_with fail
     go_quiet (fail)
     go_wp2
     go_roundw
     case rel => exact ⟨k + 1, by omega, by go_num, SK.out _ (by exact below_drewN ((Below.refl _ _).alloc (Nat.le_refl _) _) _)⟩
     case measure => simp [intOf]; omega
  ·obtain rfl : k = E.length := by omega
   clear HI
   have hF1 := Lib.hid hF1
   have hP1 := Lib.hid hP1
   have hH1 := Lib.hid hH1
   go_wp2
   exact bodyPost_end (results_none rfl _ _ _) rfl ⟨rfl, _, H1, hF1.out, hP1.out, hH1.out, HW.out⟩
def natI (l : List Nat) : List Int := l.map fun u : Nat => (u : Int)
theorem natI_length (l : List Nat) : (natI l).length = l.length := by simp [natI]
theorem natI_snoc (l : List Nat) (x : Nat) : natI (l ++ [x]) = natI l ++ [(x : Int)] := by simp [natI]
theorem restL_succ (n : Nat) (l : List Nat) : restL (n + 1) l = if n ∈ l then restL n l else restL n l ++ [n] := by
 unfold restL
 rw [List.range_succ, List.filter_append]
 by_cases h : n ∈ l <;> simp [h]
theorem unburnt_any (g n : Nat) (hn : n ≤ 12) (es : List E3) (ch : Value) (l : List Nat) (w : World) (h : Wood w g n es ch l) :
  Calls Tryz.prog 304 #[.pointer (some ⟨g, 0, none⟩)] w fun e w' => ∃ A c, e = .returned (.slice A (restL n l).length c) ∧ OwnI w' w.heap.size A c (natI (restL n l)) ∧ Below w.heap.size w w' := by
 have c0 := h.n_
 have hgl : g < w.heap.size := Blk.lt h
 go_enter Tryz.func304, Tryz.ntmps304
 go_wp2
 go_loopw [3, 9] (fun s i wr => ∃ (k : Nat) (A : Option Addr) (c : Nat) (r : List Nat), k ≤ n ∧ i = .int .i64 k ∧ s = .slice A (natI r).length c ∧ Hid (restL k l = r) ∧ (natI r).length ≤ k ∧ OwnI wr w.heap.size A c (natI r) ∧ Below w.heap.size w wr) (fun _ i _ => n - (intOf i).toNat)
 case atStart => exact ⟨0, none, 0, [], by omega, rfl, rfl, rfl, by simp [natI], OwnI.nil_ _ _, Below.refl _ _⟩
 case round =>
  obtain ⟨k, A, c, r, hk, rfl, rfl, HR, hrl, hown, hbel⟩ := hrel
  have hw : Wood wr g n es ch l := Blk.below h hbel hgl
  have hsz := hbel.size
  clear c0
  by_cases hlt : k < n
  ·have hi : (k : Int) < (n : Int) := by omega
   have hi2 : (k : Int) < 12 := by omega
   have cb := hw.burnt_ (u := k) (by omega)
   have hrs := restL_succ k l
   rw [HR.out] at hrs
   by_cases hm : k ∈ l
   ·rw [decide_eq_true hm] at cb
    rw [if_pos hm] at hrs
    have HS := Lib.hid hrs
    clear hrs hm
    go_wp2
    go_roundw
    case rel => exact ⟨k + 1, A, c, r, by omega, by go_num, rfl, HS.out, by omega, hown, hbel⟩
    case measure => simp [intOf]; omega
   ·rw [decide_eq_false hm] at cb
    rw [if_neg hm] at hrs
    have HS := Lib.hid hrs
    clear hrs hm
    go_wp2_with (at_builtin; refine push_int rfl (.tmp 19) (.tmp 21) _ rfl Tryz.underlying25 w.heap.size A c (natI r) (k : Int) rfl hown rfl rfl (by omega) hsz ?_; intro A2 c2 w2 hown2 hg2 hb2)
    go_roundw
    case rel => exact ⟨k + 1, A2, c2, r ++ [k], by omega, by go_num, by rw [natI_snoc]; simp, HS.out, by rw [natI_snoc]; simp; omega, by rw [natI_snoc]; exact hown2, hbel.trans (hb2.mono (Nat.le_refl _))⟩
    case measure => simp [intOf]; omega
  ·obtain rfl : k = n := by omega
   go_wp2
   go_ret
   refine ⟨A, c, ?_, ?_, hbel⟩
   ·rw [HR.out, natI_length]; rfl
   ·rw [HR.out]; exact hown
theorem dclone_any (A : Option Addr) (c : Nat) (xs : List Int) (hn : xs.length ≤ 1048000) (w : World) (h : Reads w w.heap.size 1 A xs.length (ints xs)) :
  Calls Tryz.prog 47 #[.slice A xs.length c] w fun e w' =>
   ∃ A' c', e = .returned (.slice A' xs.length c') ∧ OwnI w' w.heap.size A' c' xs ∧ Below w.heap.size w w' := by
 have q22 : ∀ (w : World) (a : Option Addr) (n c n' c' : Nat), (binOp .eql 53 (.slice a n c) (.slice none n' c')).run Tryz.prog w = .ok (.bool a.isNone) w := fun w a n c n' c' => Lib.run_eql_slice_nil w _ _ a n c n' c' Tryz.underlying53
 rcases A with _ | ad
 ·have hx : xs = [] := by
   rcases xs with _ | ⟨x, xs⟩
   ·rfl
   ·obtain ⟨_, _, h, _⟩ := h.2 (by simp)
    cases h
  subst hx
  go_enter Tryz.func47, Tryz.ntmps47
  go_wp2
  go_ret
  exact ⟨none, 0, rfl, OwnI.nil_ _ _, Below.refl _ _⟩
 ·go_enter Tryz.func47, Tryz.ntmps47
  have hown0 : (w.alloc (.cells #[] 3)).ownsRow w.heap.size 3 1 (.slice (some ⟨w.heap.size, 0, none⟩) 0 0) 0 [] := World.ownsRow_made w #[] 0 (Nat.le_refl _) (by simp [maxLen]) (by simp)
  have hr := h.alloc (Nat.le_refl _) (.cells #[] 3)
  go_wp2_with (at_builtin; refine append_go rfl (.tmp 5) (.tmp 6) _ rfl w.heap.size 3 Tryz.underlying53 info_int rfl (by omega) (some ⟨w.heap.size, 0, none⟩) 0 0 [] rfl hown0 w.heap.size (ints xs) rfl hr (by simp [ints, Value.oneCell']) (by omega) (by simp) ?_; intro A' c' w' hown' _ hb' _)
  go_ret
  refine ⟨A', c', rfl, ?_, ((Below.refl _ _).alloc (Nat.le_refl _) _).trans hb'⟩
  rw [Nat.zero_add, List.nil_append] at hown'
  exact hown'
theorem kindled_any (n : Nat) (A : Option Addr) (c : Nat) (es : List E3) (hn : es.length ≤ 1048576) (hG : RightG n es) (q : Nat) (hq : q < n) (B : Option Addr) (d : Nat) (cs : List Int) (hm : cs.length ≤ 1048000) (w : World) (h : Reads w w.heap.size 3 A es.length (edgeCells es)) (h' : Reads w w.heap.size 1 B cs.length (ints cs)) :
  Calls Tryz.prog 302 #[.agg #[.int .i64 n, .slice A es.length c], .int .i64 q, .slice B cs.length d] w fun e w' => ∃ g A' c', e = .returned (.pointer (some ⟨g, 0, none⟩)) ∧ Wood w' g n es (.slice A' cs.length c') [q] ∧ OwnI w' w.heap.size A' c' cs ∧ w.heap.size ≤ g ∧ Below w.heap.size w w' := by
 have HG := Lib.hid hG
 have g0 := Blk.new w 24 #[.int .i64 n, .slice A es.length c]
 have CC := Lib.hid (dclone_any B d cs hm (w.alloc (.cells #[.int .i64 n, .slice A es.length c] 24)).drew ((h'.alloc (Nat.le_refl _) (.cells #[.int .i64 n, .slice A es.length c] 24)).more (by simp [World.drew])))
 clear hG
 go_enter Tryz.func302, Tryz.ntmps302
 go_wp2
 go_region_with (go_at_call 47; refine (CC.out).mono ?_; rintro e w1 ⟨A1, cA, rfl, o1, hb1⟩; have g1 := g0.drew.next hb1; have c0 := g1.cell 0)
 all_goals (
  have hc1 : ∀ o, (w1.alloc o).cell? ⟨w.heap.size, 1, none⟩ = some (.slice A es.length c) := fun o => (g1.alloc o).cell 1
  have gW : ∀ (L : Array Value), L = wcells n (tt []) (.slice A1 cs.length cA) [] → ∀ W, W = w1.alloc (.cells L 359) → Wood W w1.heap.size n [] (.slice A1 cs.length cA) [] := by
   rintro _ rfl _ rfl
   exact Blk.new w1 359 _
  have o3 : ∀ o, OwnI (w1.alloc o) w.heap.size A1 cA cs := fun o => (o1.alloc o).mono (by simp [World.drew])
  have hbel1 : Below w.heap.size w w1 := ((Below.refl _ _).alloc (Nat.le_refl _) _).drew.trans (hb1.mono (by simp [World.drew]))
  have hbel2 : ∀ o, Below w.heap.size w (w1.alloc o) := fun o => hbel1.alloc hbel1.size o
  have hs1 := g1.lt
  have GW := Lib.hid gW
  have O3 := Lib.hid o3
  have HB2 := Lib.hid hbel2
  clear g1 c0 o1 hb1 CC hbel1 g0 gW o3 hbel2
  go_wp2
  go_loopw [19] (fun i wr => ∃ k : Nat, k ≤ es.length ∧ i = .int .i64 k ∧ Below w.heap.size w wr ∧ Wood wr w1.heap.size n (es.take k) (.slice A1 cs.length cA) [] ∧ OwnI wr w.heap.size A1 cA cs) (fun i _ => es.length - (intOf i).toNat)
  case atStart => exact ⟨0, by omega, rfl, HB2.out _, GW.out _ rfl _ rfl, O3.out _⟩
  clear HB2 GW O3 hc1
  case round =>
   obtain ⟨k, hk, rfl, hbel, gw, ow⟩ := hrel
   have hsz := hbel.size
   by_cases hlt : k < es.length
   ·obtain ⟨⟨x, y, m⟩, hx⟩ := get_of_lt hlt
    have hok := HG.out.ok _ (List.mem_of_getElem? hx)
    have hhi := HG.out.hi
    unfold okE at hok
    dsimp only at hok
    obtain ⟨a, rfl⟩ := Int.eq_ofNat_of_zero_le (show 0 ≤ x by omega)
    obtain ⟨b, rfl⟩ := Int.eq_ofNat_of_zero_le (show 0 ≤ y by omega)
    have ha : a < 12 := by omega
    have hb : b < 12 := by omega
    have ha2 : (a : Int) < 12 := by omega
    have hb2 : (b : Int) < 12 := by omega
    have htk := take_snoc hx
    have hst : ∀ u v, tt (es.take (k + 1)) u v = if u ≠ v ∧ ((u = a ∧ v = b) ∨ (u = b ∧ v = a)) then m else tt (es.take k) u v := by
     intro u v
     have hp : (es.take (k + 1)).Pairwise ltE := HG.out.sorted.sublist (List.take_sublist _ _)
     rw [htk] at hp ⊢
     exact tt_snoc hp (fun z hz => HG.out.ok z (by rw [← htk] at hz; exact List.mem_of_mem_take hz)) rfl rfl u v
    have HST := Lib.hid hst
    obtain ⟨bb, off, rfl, hbb, q1, q2, q3⟩ := (h.below hbel).edge hx
    have hi : (k : Int) < (es.length : Int) := by omega
    dsimp only at q1 q2 q3
    have gw' : Wood (wr.alloc (.cells #[.int .i64 a, .int .i64 b, .int .i64 m] 107)) w1.heap.size n (es.take k) (.slice A1 cs.length cA) [] := Blk.alloc gw _
    have ow' := ow.alloc (.cells #[.int .i64 a, .int .i64 b, .int .i64 m] 107)
    have hbl' := hbel.alloc hsz (.cells #[.int .i64 a, .int .i64 b, .int .i64 m] 107)
    have hgl0 := Blk.lt gw
    have gw0 := gw
    have ow0 := ow
    have hbel0 := hbel
    clear hx h hbel hok htk hst gw ow
    by_cases hab : a = b
    ·have hq : ((a : Int) != (b : Int)) = false := by simp; omega
     have hw2 : Wood (wr.alloc (.cells #[.int .i64 a, .int .i64 b, .int .i64 m] 107)) w1.heap.size n (es.take (k + 1)) (.slice A1 cs.length cA) [] := by
      unfold Wood at gw' ⊢
      rwa [wcells_ext (t := tt (es.take (k + 1))) (t' := tt (es.take k)) fun u v _ _ => by rw [HST.out, if_neg (by omega)]]
     clear hab gw0 ow0 hbel0
     go_wp2
     go_roundw
     case rel => exact ⟨k + 1, by omega, by go_num, hbl', hw2, ow'⟩
     case measure => simp [intOf]; omega
    ·have hq : ((a : Int) != (b : Int)) = true := by simp; omega
     have t1 := gw0.tab_ ha hb
     have t2 := gw0.tab_ hb ha
     have f1 := Blk.frozen gw0 (1 + a * 12 + b)
     have f2 := Blk.frozen gw0 (1 + b * 12 + a)
     obtain ⟨z3, t3⟩ : ∃ z : Value, (wr.setCell ⟨w1.heap.size, 1 + a * 12 + b, none⟩ (.int .i64 m)).cell? ⟨w1.heap.size, 1 + b * 12 + a, none⟩ = some z := by
      have := Blk.cell (Blk.set_ gw0 (1 + a * 12 + b) (.int .i64 m)) (1 + b * 12 + a)
      rw [wcells_set_tab ha hb, wcells_tab hb ha] at this
      exact ⟨_, this⟩
     have hgl : w1.heap.size < wr.heap.size := hgl0
     have hne : ¬ wr.heap.size = w1.heap.size := by omega
     have ox : OwnI ((wr.setCell ⟨w1.heap.size, 1 + a * 12 + b, none⟩ (.int .i64 m)).setCell ⟨w1.heap.size, 1 + b * 12 + a, none⟩ (.int .i64 m)) w.heap.size A1 cA cs := (ow0.set_blk gw0 (by decide) _ _).set_blk (Blk.set_ gw0 _ _) (by decide) _ _
     have gx : Wood ((wr.setCell ⟨w1.heap.size, 1 + a * 12 + b, none⟩ (.int .i64 m)).setCell ⟨w1.heap.size, 1 + b * 12 + a, none⟩ (.int .i64 m)) w1.heap.size n (es.take (k + 1)) (.slice A1 cs.length cA) [] := by
      have := Blk.set_ (Blk.set_ gw0 (1 + a * 12 + b) (.int .i64 m)) (1 + b * 12 + a) (.int .i64 m)
      rw [wcells_set_tab ha hb, wcells_set_tab hb ha] at this
      unfold Wood
      rwa [wcells_ext (t := tt (es.take (k + 1))) (t' := fun x y => if x = b ∧ y = a then m else if x = a ∧ y = b then m else tt (es.take k) x y) fun u v _ _ => ?_]
      rw [HST.out]
      by_cases h1 : u = b ∧ v = a
      ·rw [if_pos h1, if_pos (by omega)]
      ·rw [if_neg h1]
       by_cases h2 : u = a ∧ v = b
       ·rw [if_pos h2, if_pos (by omega)]
       ·rw [if_neg h2, if_neg (by omega)]
     have bx : Below w.heap.size w ((wr.setCell ⟨w1.heap.size, 1 + a * 12 + b, none⟩ (.int .i64 m)).setCell ⟨w1.heap.size, 1 + b * 12 + a, none⟩ (.int .i64 m)) := (hbel0.setCell (by simp; omega) _).setCell (by simp; omega) _
     have ox1 := ox.alloc (.cells #[.int .i64 a, .int .i64 b, .int .i64 m] 107)
     have gx1 : Wood _ w1.heap.size n (es.take (k + 1)) (.slice A1 cs.length cA) [] := Blk.alloc gx (.cells #[.int .i64 a, .int .i64 b, .int .i64 m] 107)
     have bx1 := bx.alloc (by simp [World.setCell]; exact hsz) (.cells #[.int .i64 a, .int .i64 b, .int .i64 m] 107)
     clear gw' ow' hbl' hab ox gx bx gw0 ow0 hbel0
     go_wp2
     go_region
     all_goals go_wp2
     all_goals (
      go_roundw
      case rel => exact ⟨k + 1, by omega, by go_num, bx1.drew, gx1, ox1⟩
      case measure => simp [intOf]; omega)
   ·obtain rfl : k = es.length := by omega
    rw [List.take_length] at gw
    have hgl0 := Blk.lt gw
    have f1 := Blk.frozen gw (146 + q)
    have c1 := gw.burnt_ (u := q) (by have := HG.out.hi; omega)
    have hq12 : (q : Int) < 12 := by have := HG.out.hi; omega
    go_wp2
    go_ret
    exact ⟨w1.heap.size, A1, cA, rfl, gw.burn (by omega), ow.set_blk gw (by decide) _ _, by omega, hbel.setCell (by simp; omega) _⟩)
theorem make_div (n : Nat) (hn : n ≤ 1048576) (W : World) : (Instr.makeSlice 53 (.int .i64 (n : Int)) (.int .i64 (n : Int))).run Tryz.prog W =
  .ok (.slice (some ⟨W.heap.size, 0, none⟩) n n) (W.alloc (.cells (ints (List.replicate n 0)).toArray 3)) := by
 obtain ⟨i0, hi, hz0, hz1, hz2⟩ := info_parts info_int
 have hr := run_make (P := Tryz.prog) W 53 3 i0 (.int .i64 0) Tryz.underlying53 hi hz0 .i64 .i64 n n (by omega) (Int.le_refl _) (by rw [hz2]; omega) (by omega)
 simp only [Int.toNat_natCast, hz1, Nat.mul_one] at hr
 rw [hr, show (Value.int .i64 0).cells = #[.int .i64 0] from rfl, made_ints]
def maxTo (n : Nat) (val : List Int) (q : Nat) (k : Nat) : List Int := (List.range n).map fun v => if v < k ∧ v ≠ q then val.getD v 0 - 1 else 0
def maxL (n : Nat) (es : List E3) (q : Nat) : List Int := maxTo n (valL n (endsL es)) q n
theorem maxTo_zero (n : Nat) (val : List Int) (q : Nat) : maxTo n val q 0 = List.replicate n 0 := by
 apply List.ext_getElem?
 intro i
 unfold maxTo
 by_cases hi : i < n
 ·simp [hi]
 ·simp [hi]
theorem maxTo_length (n : Nat) (val : List Int) (q k : Nat) : (maxTo n val q k).length = n := by simp [maxTo]
theorem maxTo_sink (n : Nat) (val : List Int) (q : Nat) : maxTo n val q (q + 1) = maxTo n val q q := by
 unfold maxTo
 apply List.map_congr_left
 intro v _
 by_cases h1 : v < q
 ·rw [if_pos ⟨by omega, by omega⟩, if_pos ⟨h1, by omega⟩]
 ·rw [if_neg (by omega), if_neg (by omega)]
theorem maxTo_succ (n : Nat) (val : List Int) (q k : Nat) (hk : k ≠ q) (x : Int) (hx : val[k]? = some x) : maxTo n val q (k + 1) = (maxTo n val q k).set k (x - 1) := by
 apply List.ext_getElem?
 intro i
 unfold maxTo
 by_cases hi : i < n
 ·by_cases h : i = k
  ·subst h
   rw [List.getElem?_set_self (by simpa using hi)]
   simp [hi, hk, hx]
  ·rw [List.getElem?_set_ne (fun e => h e.symm)]
   simp only [List.getElem?_map, List.getElem?_range hi, Option.map_some]
   by_cases h2 : i < k ∧ i ≠ q
   ·rw [if_pos h2, if_pos ⟨by omega, h2.2⟩]
   ·rw [if_neg h2, if_neg (by omega)]
 ·rw [List.getElem?_eq_none (by simp; omega), List.getElem?_eq_none (by simp; omega)]
theorem maximal_bad (n : Int) (A : Option Addr) (c : Nat) (es : List E3) (hlen : es.length ≤ 10000) (q : Int) (x : Int) (hx : rootErr n es q = x) (hx0 : (x == 0) = false) (w : World) (h : Reads w w.heap.size 3 A es.length (edgeCells es)) :
  Calls Tryz.prog 148 #[.agg #[.int .i64 n, .slice A es.length c], .int .i64 q] w fun e w' => e = .returned (.tuple #[.slice none 0 0, .int .i64 x]) ∧ Below w.heap.size w w' := by
 have RT := rooted_any n A c es (by omega) q
 rw [hx] at RT
 have RT := Lib.hid RT
 have g0 := Blk.new w 24 #[.int .i64 n, .slice A es.length c]
 have c0 := g0.cell 0
 have c1 := g0.cell 1
 have hx1 : (x != 0) = true := by simpa [bne] using hx0
 clear hx
 go_enter Tryz.func148, Tryz.ntmps148
 go_wp2_with fail
 refine (RT.out _ ((h.alloc (Nat.le_refl _) _).more (by simp))).mono ?_
 rintro e w1 ⟨rfl, hb1⟩
 have hB1 : Below w.heap.size w w1 := ((Below.refl _ _).alloc (Nat.le_refl _) _).trans (hb1.mono (by simp))
 go_wp2
 go_ret2
 exact ⟨rfl, hB1⟩
theorem maximal_ok (n : Nat) (A : Option Addr) (c : Nat) (es : List E3) (hlen : es.length ≤ 10000) (q : Nat) (hx : rootErr n es q = 0) (w : World) (h : Reads w w.heap.size 3 A es.length (edgeCells es)) :
  Calls Tryz.prog 148 #[.agg #[.int .i64 n, .slice A es.length c], .int .i64 q] w fun e w' => ∃ Am cm, e = .returned (.tuple #[.slice Am n cm, .int .i64 0]) ∧ OwnI w' w.heap.size Am cm (maxL n es q) ∧ Below w.heap.size w w' := by
 have RT := rooted_any n A c es (by omega) q
 rw [hx] at RT
 have RT := Lib.hid RT
 have hz : checkG n es = 0 ∧ q < n := by
  rcases root_cases n es q with ⟨h1, h2⟩ | ⟨_, _, h2⟩ | ⟨_, _, _, h2⟩ | ⟨h1, _, h2, _⟩
  ·rw [hx] at h2; exact absurd h2.symm h1
  ·rw [hx] at h2; cases h2
  ·rw [hx] at h2; cases h2
  ·exact ⟨h1, by have := vertB_true.1 h2; omega⟩
 obtain ⟨hz, hq⟩ := hz
 have hR := right_of hz
 have hn : n ≤ 12 := by have := hR.hi; omega
 have hn0 : 1 ≤ n := by have := hR.lo; omega
 have g0 := Blk.new w 24 #[.int .i64 n, .slice A es.length c]
 have c0 := g0.cell 0
 have c1 := g0.cell 1
 have hmi := make_ints n (by omega)
 have hmd := make_div n (by omega)
 have hel := endsL_length hR.ok
 have PO := pileOf_any n hn hn0 A c es hlen hz hR.ok q
 have PO := Lib.hid (fun (B : Option Addr) (cB : Nat) => PO B cB (List.replicate n 0) (by simp))
 simp only [List.length_replicate] at PO
 clear hx hR hz
 go_enter Tryz.func148, Tryz.ntmps148
 go_wp2_with fail
 refine (RT.out _ ((h.alloc (Nat.le_refl _) _).more (by simp))).mono ?_
 rintro e w1 ⟨rfl, hb1⟩
 have hB1 : Below w.heap.size w w1 := ((Below.refl _ _).alloc (Nat.le_refl _) _).trans (hb1.mono (by simp))
 have g1 := g0.next hb1
 have hs1 := hB1.size
 have d0 := g1.cell 0
 have d1 := g1.cell 1
 have h3 : Reads (w1.alloc (.cells (ints (List.replicate n 0)).toArray 3)).drew (w1.alloc (.cells (ints (List.replicate n 0)).toArray 3)).drew.heap.size 3 A es.length (edgeCells es) := (((h.below hB1).more hs1).alloc (Nat.le_refl _) (.cells (ints (List.replicate n 0)).toArray 3)).drew.more (by simp [World.drew])
 have hbl : Reads (w1.alloc (.cells (ints (List.replicate n 0)).toArray 3)).drew (w1.alloc (.cells (ints (List.replicate n 0)).toArray 3)).drew.heap.size 1 (some ⟨w1.heap.size, 0, none⟩) n (ints (List.replicate n 0)) := ⟨by simp [ints], fun _ => ⟨w1.heap.size, 0, rfl, by simp [World.drew], fun j v hv => by
  have hb : Blk (w1.alloc (.cells (ints (List.replicate n 0)).toArray 3)).drew w1.heap.size 3 (ints (List.replicate n 0)).toArray := (Blk.new w1 _ _).drew
  rw [Nat.zero_add, hb.cell j, List.getElem?_toArray]
  exact hv⟩⟩
 clear g0 c0 c1 RT hb1
 go_wp2
 go_region_held3 (fun W => W.cell? ⟨w.heap.size, 0, none⟩ = some (.int .i64 n) ∧ W.cell? ⟨w.heap.size, 1, none⟩ = some (.slice A es.length c)) (go_keep)
  (first | (go_at_call 207; refine (PO.out _ _ _ (by exact h3) (by exact hbl)).mono ?_; rintro e w5 ⟨bp, a, rfl, P5, hb5⟩; have g5 := ((g1.alloc (.cells (ints (List.replicate n 0)).toArray 3)).drew).next hb5; have k0 := g5.cell 0; have k1 := g5.cell 1))
 all_goals
  have hB5 : Below w.heap.size w w5 := (hB1.alloc hs1 (.cells (ints (List.replicate n 0)).toArray 3)).drew.trans (hb5.mono (by simp [World.drew]; omega))
  have hs5 := hB5.size
  have P6 := P5.alloc (.cells (ints (List.replicate n 0)).toArray 3)
  have p3 := P6.c3
  have O6 := Blk.new w5 3 (ints (List.replicate n 0)).toArray
  have V6 := P6.vv
  have hbV := valL_bd n (endsL es)
  have hne : a.bv ≠ w5.heap.size := Nat.ne_of_lt P5.vv.lt
  have hB6 := hB5.alloc hs5 (.cells (ints (List.replicate n 0)).toArray 3)
  obtain ⟨val, hval⟩ : ∃ val, valL n (endsL es) = val := ⟨_, rfl⟩
  rw [hval] at V6 hbV
  have HVAL := Lib.hid hval
  have HBV := Lib.hid hbV
  clear hval hbV P5 P6 h3 hbl hb5 g1 d0 d1 hB1 PO
  go_wp2_with fail
  go_loopw [10, 11, 38] (fun _ _ i wl => ∃ v : Nat, v ≤ n ∧ i = .int .i64 v ∧ Blk wl w5.heap.size 3 (intCells (maxTo n val q v)) ∧ Blk wl a.bv 3 (intCells val) ∧ Below w.heap.size w wl) (fun _ _ i _ => n - (intOf i).toNat)
  case atStart => exact ⟨0, by omega, rfl, by rw [maxTo_zero]; exact O6, V6, hB6⟩
  case round =>
   obtain ⟨v, hv, rfl, O7, V7, hB7⟩ := hrel
   clear O6 V6 hB6
   by_cases hlv : v < n
   ·have hi : (v : Int) < (n : Int) := by omega
    obtain ⟨x, hx⟩ := get_of_lt (xs := val) (k := v) (by rw [HBV.out.1]; exact hlv)
    have hxb := HBV.out.2 x (List.mem_of_getElem? hx)
    have hxl : x ≤ 1000000 := by omega
    have cv := (V7.cell v).trans (intCells_get hx)
    by_cases hvq : v = q
    ·have hne2 : ((v : Int) != (q : Int)) = false := by simp [hvq]
     subst hvq
     have hms := maxTo_sink n val v
     clear hx
     go_wp2
     go_roundw
     case rel => exact ⟨v + 1, by omega, by go_num, by rw [hms]; exact O7, V7, hB7⟩
     case measure => simp [intOf]; omega
    ·have hne2 : ((v : Int) != (q : Int)) = true := by rw [bne_iff_ne]; omega
     have hms := Lib.hid (maxTo_succ n val q v hvq x hx)
     obtain ⟨y, hy⟩ := get_of_lt (xs := maxTo n val q v) (k := v) (by rw [maxTo_length]; exact hlv)
     have co := (O7.cell v).trans (intCells_get hy)
     have cf := O7.frozen v
     have O8 := O7.set_ v (.int .i64 (x - 1))
     rw [intCells_set, ← hms.out] at O8
     clear hx hy
     go_wp2
     go_roundw
     case rel => exact ⟨v + 1, by omega, by go_num, O8, V7.far hne _, hB7.setCell hs5 _⟩
     case measure => simp [intOf]; omega
   ·obtain rfl : v = n := by omega
    go_wp2
    go_ret2
    refine ⟨_, _, rfl, ?_, hB7⟩
    have hl := maxTo_length v val q v
    have := OwnI.of_blk O7 hs5 (by rw [hl]; simp [maxLen]; omega)
    rw [hl] at this
    unfold maxL
    rw [HVAL.out]
    exact this
end Go.Proofs.YtnbikkcalcpedaaGreatDoor
