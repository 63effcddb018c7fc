/-
 Texts of this claim, put together: LevO, LevI, Level.
-/
import Derived.Test.YtnbikkcalcpedaaGreatDoorK36
import Derived.Test.YtnbikkcalcpedaaGreatDoorK15
import Derived.Test.YtnbikkcalcpedaaGreatDoorK23
import Derived.BigQuiet
import Derived.Test.YtnbikkcalcpedaaGreatDoorK08
import Derived.Test.YtnbikkcalcpedaaGreatDoorK30
import Derived.Test.YtnbikkcalcpedaaGreatDoorK35
set_option maxRecDepth 100000
set_option maxHeartbeats 8000000
namespace Go.Proofs.YtnbikkcalcpedaaGreatDoor
open Go.RowKit
theorem sum_bdB {xs : List Int} (h : ∀ x ∈ xs, -1048576 ≤ x ∧ x ≤ 1048576) : -(1048576 * xs.length : Int) ≤ xs.sum ∧ xs.sum ≤ 1048576 * xs.length := by
 induction xs with
 | nil => simp
 | cons a l ih =>
   have h1 := h a (by simp)
   have h2 := ih fun x hx => h x (by simp [hx])
   rw [List.sum_cons, List.length_cons]
   omega
theorem own_one (g : Nat) (A : Option Addr) (c : Nat) (cs : List Int) (hm : cs.length ≤ 12) (hz : divErr cs cs.length = 0) (w : World) (hg : Blk w g 53 #[.slice A cs.length c]) (h : Reads w w.heap.size 1 A cs.length (ints cs)) :
  Calls Tryz.prog 193 #[.slice (some ⟨g, 0, none⟩) 1 1] w fun e w' => e = .returned (.int .i64 0) ∧ w = w' := by
 have DC := Lib.hid (dcheck_any A c cs (by omega) cs.length w h)
 rw [hz] at DC
 have k0 := hg.cell 0
 obtain ⟨n, hn⟩ : ∃ n, cs.length = n := ⟨_, rfl⟩
 rw [hn] at DC k0
 clear hz hg h hn hm
 go_enter Tryz.func193, Tryz.ntmps193
 go_wp2
 go_loopw [10] (fun i wr => ∃ k : Nat, k ≤ 1 ∧ i = .int .i64 k ∧ wr = w) (fun i _ => 1 - (intOf i).toNat)
 case atStart => exact ⟨0, by omega, rfl, rfl⟩
 case round =>
  obtain ⟨k, hk, rfl, rfl⟩ := hrel
  rcases (show k = 0 ∨ k = 1 by omega) with rfl | rfl
  ·go_wp2_with fail
   refine (DC.out).mono ?_
   rintro e w' ⟨rfl, rfl⟩
   go_wp2
   go_roundw
   case rel => exact ⟨1, by omega, by go_num, trivial⟩
   case measure => simp [intOf]
  ·go_wp2
   go_loopw [24] (fun i wq => ∃ k : Nat, k ≤ 1 ∧ i = .int .i64 k ∧ wq = wr) (fun i _ => 1 - (intOf i).toNat)
   case atStart => exact ⟨0, by omega, rfl, rfl⟩
   case round =>
    obtain ⟨k, hk, rfl, rfl⟩ := hrel
    rcases (show k = 0 ∨ k = 1 by omega) with rfl | rfl
    ·go_wp2
     go_roundw
     case rel => exact ⟨1, by omega, by go_num, trivial⟩
     case measure => simp [intOf]
    ·go_wp2
     go_ret
     exact ⟨rfl, rfl⟩
theorem degree_any (A : Option Addr) (c : Nat) (xs : List Int) (h1 : 1 ≤ xs.length) (hm : xs.length ≤ 12) (hb : ∀ x ∈ xs, -1048576 ≤ x ∧ x ≤ 1048576) (w : World) (h : Reads w w.heap.size 1 A xs.length (ints xs)) :
  Calls Tryz.prog 139 #[.slice A xs.length c] w fun e w' => e = .returned (.tuple #[.int .i64 xs.sum, .int .i64 0]) ∧ Below w.heap.size w w' := by
 have HB := Lib.hid hb
 have hz : divErr xs xs.length = 0 := by
  unfold divErr
  rw [if_neg (by omega), if_neg (fun hc => hc rfl), if_pos]
  rw [List.all_eq_true]
  intro x hx
  have := hb x hx
  unfold chipB
  rw [decide_eq_true (by omega), decide_eq_true (by omega)]
  rfl
 have hl : Below w.heap.size w (w.alloc (.cells #[.slice A xs.length c] 53)) := (Below.refl _ _).alloc (Nat.le_refl _) _
 have OC := Lib.hid (own_one w.heap.size A c xs hm hz _ (Blk.new w 53 #[.slice A xs.length c]) ((h.below hl).more hl.size))
 have HR := Lib.hid ((h.below hl))
 have HL := Lib.hid hl
 have HS : Hid (∀ k, -1000000000 ≤ (xs.take k).sum ∧ (xs.take k).sum ≤ 1000000000) := fun k => by
  have := sum_bdB (xs := xs.take k) fun x hx => hb x (List.mem_of_mem_take hx)
  have h3 : (xs.take k).length ≤ xs.length := by rw [List.length_take]; omega
  omega
 have HFULL : Hid ((xs.take xs.length).sum = xs.sum) := by rw [Hid, List.take_length]
 have H0 : Hid ((xs.take 0).sum = 0) := by simp [Hid]
 have HSUC : Hid (∀ k x, xs[k]? = some x → (xs.take (k + 1)).sum = (xs.take k).sum + x) := fun k x hx => sumTake hx
 obtain ⟨F, hF⟩ : ∃ F : Nat → Int, (fun k => (xs.take k).sum) = F := ⟨_, rfl⟩
 have hF' : ∀ k, (xs.take k).sum = F k := fun k => congrFun hF k
 simp only [hF'] at HS HFULL H0 HSUC
 rw [← HFULL.out]
 obtain ⟨n, hn⟩ : ∃ n, xs.length = n := ⟨_, rfl⟩
 rw [hn] at OC HL HR hm ⊢
 have HN := Lib.hid hn
 clear hb hF hF' hz h hl hn h1
 go_enter Tryz.func139, Tryz.ntmps139
 go_wp2_with fail
 refine (OC.out).mono ?_
 rintro e w1 ⟨rfl, rfl⟩
 go_wp2
 go_loopw [5, 16] (fun s i wr => ∃ k : Nat, k ≤ n ∧ i = .int .i64 k ∧ s = .int .i64 (F k) ∧ wr = w.alloc (.cells #[.slice A n c] 53)) (fun _ i _ => n - (intOf i).toNat)
 case atStart => exact ⟨0, by omega, rfl, by rw [H0.out], rfl⟩
 case round =>
  obtain ⟨k, hk, rfl, rfl, rfl⟩ := hrel
  by_cases hlt : k < n
  ·obtain ⟨x, hx⟩ := get_of_lt (xs := xs) (k := k) (by rw [HN.out]; exact hlt)
   obtain ⟨b, off, rfl, hbb, hcell⟩ := HR.out.at_ (ints_at hx)
   have hi : (k : Int) < (n : Int) := by omega
   have hs := HSUC.out k x hx
   have h1 := HS.out k
   have h2 := HS.out (k + 1)
   have hw1 : IntKind.i64.wrap (F k + x) = F k + x := IntWalk.i64_in _ (by omega)
   have HS1 := Lib.hid hs
   clear hx hs h1 h2
   go_wp2
   go_roundw
   case rel => exact ⟨k + 1, by omega, by go_num, by rw [HS1.out], trivial⟩
   case measure => simp [intOf]; omega
  ·obtain rfl : k = n := by omega
   go_wp2
   go_ret2
   exact ⟨rfl, HL.out⟩
theorem straight_snocO (es : List E3) (e : E3) : straightL (es ++ [e]) = if e.1 = e.2.1 then straightL es else straightL es ++ [e] := by
 unfold straightL
 rw [List.filter_append]
 by_cases h : e.1 = e.2.1
 ·rw [if_pos h, List.filter_cons_of_neg (by simpa using h)]; simp
 ·rw [if_neg h, List.filter_cons_of_pos (by simpa using h)]; rfl
theorem sizeS_step {es : List E3} {k : Nat} {e : E3} (h : es[k]? = some e) : sizeE (straightL (es.take (k + 1))) = sizeE (straightL (es.take k)) + if e.1 = e.2.1 then 0 else e.2.2.toNat := by
 rw [take_snoc h, straight_snocO]
 by_cases hh : e.1 = e.2.1
 ·rw [if_pos hh, if_pos hh]; rfl
 ·rw [if_neg hh, if_neg hh]; simp [sizeE]
theorem straight_any (n : Int) (hn0 : 0 ≤ n) (hn12 : n ≤ 12) (A : Option Addr) (c : Nat) (es : List E3) (hl : es.length ≤ 10000) (hok : ∀ e ∈ es, okE n e) (w : World) (h : Reads w w.heap.size 3 A es.length (edgeCells es)) :
  Calls Tryz.prog 91 #[.agg #[.int .i64 n, .slice A es.length c]] w fun e w' => e = .returned (.tuple #[.int .i64 ((endsL (straightL es)).length : Nat), .int .i64 ((endsL (straightL es)).length - n + 1)]) ∧ Below w.heap.size w w' := by
 have HOK := Lib.hid hok
 have HBD : Hid (∀ k, sizeE (straightL (es.take k)) ≤ 500000) := fun k => by
  have h1 := sizeE_bd (es := straightL (es.take k)) fun e he => hok e (List.mem_of_mem_take (List.mem_filter.1 he).1)
  have h2 : (straightL (es.take k)).length ≤ (es.take k).length := List.length_filter_le _ _
  have h3 : (es.take k).length ≤ es.length := by rw [List.length_take]; omega
  omega
 have HST : Hid (∀ k e, es[k]? = some e → sizeE (straightL (es.take (k + 1))) = sizeE (straightL (es.take k)) + if e.1 = e.2.1 then 0 else e.2.2.toNat) := fun k e he => sizeS_step he
 have HFULL : Hid (sizeE (straightL (es.take es.length)) = (endsL (straightL es)).length) := by rw [Hid, List.take_length, size_ends]
 obtain ⟨F, hF⟩ : ∃ F : Nat → Nat, (fun k => sizeE (straightL (es.take k))) = F := ⟨_, rfl⟩
 have hF' : ∀ k, sizeE (straightL (es.take k)) = F k := fun k => congrFun hF k
 have H0 : Hid (F 0 = 0) := by rw [Hid, ← hF]; rfl
 simp only [hF'] at HBD HFULL HST
 rw [← HFULL.out]
 have g := Blk.new w 24 #[.int .i64 n, .slice A es.length c]
 have hB : Below w.heap.size w (w.alloc (.cells #[.int .i64 n, .slice A es.length c] 24)) := (Below.refl _ _).alloc (Nat.le_refl _) _
 obtain ⟨M, hM⟩ : ∃ M, es.length = M := ⟨_, rfl⟩
 have HM := Lib.hid hM
 have HR := Lib.hid h
 rw [hM] at HR g hB hl ⊢
 have k0 := g.cell 0
 have k1 := g.cell 1
 have G := Lib.hid g
 have HB := Lib.hid hB
 clear hF hF' hok h hM g hB
 go_enter Tryz.func91, Tryz.ntmps91
 go_wp2
 go_loopw [4, 10] (fun s i wr => ∃ k : Nat, k ≤ M ∧ i = .int .i64 k ∧ s = .int .i64 (F k : Nat) ∧ Hid (Below w.heap.size w wr) ∧ Hid (Blk wr w.heap.size 24 #[.int .i64 n, .slice A M c])) (fun _ i _ => M - (intOf i).toNat)
 case atStart => exact ⟨0, by omega, rfl, by rw [H0.out]; rfl, HB.out, G.out⟩
 case round =>
  obtain ⟨k, hk, rfl, rfl, hX, hG⟩ := hrel
  clear k0 k1
  by_cases hlt : k < M
  ·obtain ⟨⟨x, y, m⟩, hx⟩ := get_of_lt (xs := es) (k := k) (by rw [HM.out]; exact hlt)
   obtain ⟨ox, oxy, oy, om1, om2⟩ := HOK.out _ (List.mem_of_getElem? hx)
   dsimp only at ox oxy oy om1 om2
   obtain ⟨b, off, rfl, hbb, q0, q1, q2⟩ := (HR.out.below hX.out).edge hx
   have hi : (k : Int) < (M : Int) := by omega
   have hs := HST.out k _ hx
   dsimp only at hs
   have h2 := HBD.out (k + 1)
   have gg := Blk.new wr 107 #[.int .i64 x, .int .i64 y, .int .i64 m]
   have e0 := gg.cell 0
   have e1 := gg.cell 1
   have e2 := gg.cell 2
   have hzz := hX.out.size
   have hX2 := Lib.hid (hX.out.alloc hzz (.cells #[.int .i64 x, .int .i64 y, .int .i64 m] 107))
   have hG2 := Lib.hid (hG.out.alloc (.cells #[.int .i64 x, .int .i64 y, .int .i64 m] 107))
   by_cases hxy : x = y
   ·subst hxy
    rw [if_pos rfl, Nat.add_zero] at hs
    have HS1 := Lib.hid hs
    clear hx hs h2 hzz hX hG gg
    go_wp2
    go_roundw
    case rel => exact ⟨k + 1, by omega, by go_num, by rw [HS1.out]; rfl, hX2.out, hG2.out⟩
    case measure => simp [intOf]; omega
   ·rw [if_neg hxy] at hs
    have hne : (x != y) = true := by simpa using hxy
    have hw1 : IntKind.i64.wrap ((F k : Int) + m) = (F k : Int) + m := IntWalk.i64_in _ (by omega)
    have HS1 : Hid ((F k : Int) + m = (F (k + 1) : Nat)) := by rw [Hid, hs]; omega
    clear hx hs h2 hzz hX hG gg
    go_wp2
    go_roundw
    case rel => exact ⟨k + 1, by omega, by go_num, by rw [HS1.out], hX2.out, hG2.out⟩
    case measure => simp [intOf]; omega
  ·obtain rfl : k = M := by omega
   have k0 := hG.out.cell 0
   have k1 := hG.out.cell 1
   have hF := HBD.out k
   have hw1 : IntKind.i64.wrap ((F k : Int) - n) = (F k : Int) - n := IntWalk.i64_in _ (by omega)
   have hw2 : IntKind.i64.wrap ((F k : Int) - n + 1) = (F k : Int) - n + 1 := IntWalk.i64_in _ (by omega)
   have BB := Lib.hid hX.out
   clear hX hG hF
   go_wp2
   go_quiet (fail)
   go_wp2
   go_ret2
   exact ⟨rfl, below_drewN BB.out _⟩
theorem lof_any (n : Nat) (q : Nat) (hq : q < n) (A : Option Addr) (c : Nat) (es : List E3) (hlen : es.length ≤ 10000) (hz : checkG n es = 0) (B : Option Addr) (d : Nat) (cs : List Int) (hc : cs.length = n) (hb : ∀ x ∈ cs, -1048576 ≤ x ∧ x ≤ 1048576) (hmx : (endsL (straightL es)).length ≤ 500000) (hv : 0 ≤ valE es q ∧ valE es q ≤ 1000000) (w : World) (h : Reads w w.heap.size 3 A es.length (edgeCells es)) (h' : Reads w w.heap.size 1 B cs.length (ints cs)) :
  Calls Tryz.prog 83 #[.agg #[.int .i64 n, .slice A es.length c], .int .i64 q, .slice B cs.length d] w fun e w' => e = .returned (.int .i64 (lvlC es q cs)) ∧ Below w.heap.size w w' := by
 have hG := right_of hz
 have hlo := hG.lo
 have hhi := hG.hi
 have hsb := sum_bdB hb
 have DC := Lib.hid (fun (W : World) (hB : Below w.heap.size w W) => degree_any B d cs (by omega) (by omega) hb W ((h'.below hB).more hB.size))
 have VC := Lib.hid (fun (W : World) (hB : Below w.heap.size w W) => gvalence_ok n A c es hlen hz q hq W ((h.below hB).more hB.size))
 have SC := Lib.hid (fun (W : World) (hB : Below w.heap.size w W) => straight_any n (by omega) (by omega) A c es hlen hG.ok W ((h.below hB).more hB.size))
 unfold lvlC
 obtain ⟨S, hS⟩ : ∃ S, (endsL (straightL es)).length = S := ⟨_, rfl⟩
 obtain ⟨s, hs⟩ : ∃ s, cs.sum = s := ⟨_, rfl⟩
 obtain ⟨v, hvv⟩ : ∃ v, valE es q = v := ⟨_, rfl⟩
 obtain ⟨M, hM⟩ : ∃ M, es.length = M := ⟨_, rfl⟩
 rw [hS] at hmx SC ⊢
 rw [hs] at hsb DC ⊢
 rw [hvv] at hv VC ⊢
 rw [hM] at VC SC ⊢
 have hw1 : IntKind.i64.wrap (s + v) = s + v := IntWalk.i64_in _ (by omega)
 have hw2 : IntKind.i64.wrap (s + v - (S : Int)) = s + v - (S : Int) := IntWalk.i64_in _ (by omega)
 obtain ⟨N, hN⟩ : ∃ N, cs.length = N := ⟨_, rfl⟩
 rw [hN] at DC ⊢
 have g := Blk.new w 24 #[.int .i64 n, .slice A M c]
 have hB : Below w.heap.size w (w.alloc (.cells #[.int .i64 n, .slice A M c] 24)) := (Below.refl _ _).alloc (Nat.le_refl _) _
 have k0 := g.cell 0
 have k1 := g.cell 1
 clear h h' hM hN hS hs hvv hG hz hb hsb hv hc hlo hhi
 go_enter Tryz.func83, Tryz.ntmps83
 go_wp2_with fail
 refine (DC.out _ hB).mono ?_
 rintro e w1 ⟨rfl, hb⟩
 have g := g.next hb
 have hB := hB.trans (hb.mono hB.size)
 have k0 := g.cell 0
 have k1 := g.cell 1
 clear hb
 go_wp2_with fail
 refine (VC.out _ hB).mono ?_
 rintro e w2 ⟨rfl, hb⟩
 have g := g.next hb
 have hB := hB.trans (hb.mono hB.size)
 have k0 := g.cell 0
 have k1 := g.cell 1
 clear hb
 go_wp2_with fail
 refine (SC.out _ hB).mono ?_
 rintro e w3 ⟨rfl, hb⟩
 have hB := hB.trans (hb.mono hB.size)
 clear hb
 go_wp2
 go_ret
 exact ⟨rfl, hB⟩
end Go.Proofs.YtnbikkcalcpedaaGreatDoor
namespace Go.Proofs.YtnbikkcalcpedaaGreatDoor
open Go.RowKit Go.Shelf
theorem z124 : Tryz.zeroCells124 = (ints (List.replicate 7200 0)).toArray := by kernel_rfl
theorem levAll_any (n : Int) (A : Option Addr) (k c : Nat) (q : Int) (B : Option Addr) (m d : Nat) (w : World) :
  Calls Tryz.prog 90 #[.agg #[.int .i64 n, .slice A k c], .int .i64 q, .slice B m d] w fun e w' => e = .returned (.func (.func 150) #[] #[.pointer (some ⟨w.heap.size + 2, 0, none⟩), .pointer (some ⟨w.heap.size, 0, none⟩), .pointer (some ⟨w.heap.size + 1, 0, none⟩)]) ∧
   ((w.alloc (.cells #[.int .i64 n, .slice A k c] 24)).alloc (.cells #[.int .i64 q] 3)).alloc (.cells #[.slice B m d] 121) = w' := by
 have hmf : ∀ (fn : Fn) (first cap : Array Value) (w : World), (Instr.makeFunc fn first cap).run Tryz.prog w = .ok (.func fn first cap) w := fun _ _ _ _ => rfl
 go_enter Tryz.func90, Tryz.ntmps90
 go_wp2
 go_ret
 exact ⟨rfl, rfl⟩
theorem sizeS_bd' {N : Int} {es : List E3} (hok : ∀ e ∈ es, okE N e) (hlen : es.length ≤ 10000) : (endsL (straightL es)).length ≤ 500000 := by
 rw [← size_ends]
 have h1 := sizeE_bd (es := straightL es) fun e he => hok e (List.mem_filter.1 he).1
 have h2 : (straightL es).length ≤ es.length := List.length_filter_le _ _
 omega
def ArgL (x : Int) (args : Array Value) (_ : Nat → Prop) (_ : World) : Prop := args = #[.int .i64 x]
theorem levAll_iter (n q : Nat) (hq : q < n) (A : Option Addr) (c : Nat) (es : List E3) (hlen : es.length ≤ 10000) (hz : checkG n es = 0) (xss : List (List Int)) (hx : ∀ xs ∈ xss, xs.length = n ∧ ∀ x ∈ xs, -1048576 ≤ x ∧ x ≤ 1048576) (hxl : xss.length ≤ 1000000) (tb gb qb lb : Nat) (Ar : Option Addr) (cr : Nat) (W0 : World) (htb : tb ≤ W0.heap.size)
  (h1 : Blk W0 gb 24 #[.int .i64 n, .slice A es.length c]) (h2 : Blk W0 qb 3 #[.int .i64 q]) (h3 : Blk W0 lb 121 #[.slice Ar xss.length cr]) (h4 : Reads W0 tb 3 A es.length (edgeCells es)) (h5 : RowsR W0 tb Ar xss) :
  Iter Tryz.prog 150 #[.pointer (some ⟨lb, 0, none⟩), .pointer (some ⟨gb, 0, none⟩), .pointer (some ⟨qb, 0, none⟩)] ArgL (fun k => k < tb ∨ k = gb ∨ k = qb ∨ k = lb) (fun _ => False) (xss.map (lvlC es q)) W0 := by
 intro l J Jx C W hL hC hJ hJx hY h0
 have hG := right_of hz
 have hv := valE_bd hG.ok q
 have hs := sizeS_bd' hG.ok hlen
 have hBL : Below tb W0 W := ⟨hL.os, hL.tape, hL.output, hL.size, fun k hk => hL.block k (by omega) (.inl hk)⟩
 have k1 := (hL.block gb h1.lt (.inr (.inl rfl))).trans h1
 have k2 := (hL.block qb h2.lt (.inr (.inr (.inl rfl)))).trans h2
 have k3 := (hL.block lb h3.lt (.inr (.inr (.inr rfl)))).trans h3
 have k4 := h4.below hBL
 obtain ⟨vs, r5, r6⟩ := h5.below hBL
 have htW : tb ≤ W.heap.size := Nat.le_trans htb hL.size
 have OC : Hid (∀ (xs : List Int), xs ∈ xss → ∀ (B : Option Addr) (d : Nat) (V : World), Reads V V.heap.size 3 A es.length (edgeCells es) → Reads V V.heap.size 1 B xs.length (ints xs) → Calls Tryz.prog 83 #[.agg #[.int .i64 n, .slice A es.length c], .int .i64 q, .slice B xs.length d] V fun e w' => e = .returned (.int .i64 (lvlC es q xs)) ∧ Below V.heap.size V w') :=
  fun xs hm B d V ha hb => lof_any n q hq A c es hlen hz B d xs (hx xs hm).1 (hx xs hm).2 hs (by omega) V ha hb
 obtain ⟨M, hM⟩ : ∃ M, es.length = M := ⟨_, rfl⟩
 obtain ⟨m, hm⟩ : ∃ m, xss.length = m := ⟨_, rfl⟩
 have HMM := Lib.hid hm
 rw [hM] at OC k1 k4
 rw [hm] at k3 r5 hxl
 have HC := Lib.hid hC
 have HY := Lib.hid hY
 have HJ := Lib.hid hJ
 have H0 := Lib.hid h0
 have K4 := Lib.hid k4
 have R5 := Lib.hid r5
 have R6 := Lib.hid r6
 have K1 := Lib.hid (show Blk W gb 24 #[.int .i64 n, .slice A M c] from k1)
 have K2 := Lib.hid (show Blk W qb 3 #[.int .i64 q] from k2)
 have HTW := Lib.hid htW
 have c0 := (show Blk W lb 121 #[.slice Ar m cr] from k3).cell 0
 clear h1 h2 h3 h4 h5 hL hC hY hJ hJx h0 hM hm hG hv hs hBL k1 k2 k3 k4 r5 r6 hx hz htW htb
 refine (callsIn_wide (n := 3)).1 ?_
 refine callsIn_of_wp_marks Tryz.func150 rfl trivial ?_
 simp only [Tryz.ntmps150, List.size_toArray, List.length_cons, List.length_nil, Nat.reduceAdd, Nat.reduceSub, Array.replicate_succ, Array.replicate_zero, List.push_toArray, List.append_toArray, List.nil_append, List.cons_append]
 gi_wp2_with fail
 gi_loopw [9] (fun v wl => ∃ (u : Nat) (C' : Nat → Prop), v = .int .i64 u ∧ u ≤ m ∧ Hid (W.heap.size ≤ wl.heap.size) ∧ Hid (Below tb W wl) ∧ Hid (Blk wl gb 24 #[.int .i64 n, .slice A M c]) ∧ Hid (Blk wl qb 3 #[.int .i64 q]) ∧
  Hid (J ((xss.map (lvlC es q)).take u) C' wl) ∧ Hid (∀ k, C' k → k < wl.heap.size ∧ ¬ (k < tb ∨ k = gb ∨ k = qb))) (fun v _ => m - (intOf v).toNat)
 case atStart => exact ⟨0, C, rfl, by omega, Nat.le_refl _, Below.refl _ _, K1.out, K2.out, H0.out, fun k hk => by
   have h := HC.out k hk
   refine ⟨h.1, fun hc => h.2 ?_⟩
   rcases hc with hc | hc | hc
   ·exact .inl hc
   ·exact .inr (.inl hc)
   ·exact .inr (.inr (.inl hc))⟩
 case round =>
  obtain ⟨u, C', rfl, hu, hsz, iB, iG, iQ, IJ, IC⟩ := hrel
  obtain ⟨wo, hwo⟩ : ∃ wo : World, wo = wr := ⟨wr, rfl⟩
  subst hwo
  by_cases hlt : u < m
  ·have hi : (u : Int) < (m : Int) := by omega
   obtain ⟨xs, hxs⟩ := get_of_lt (xs := xss) (k := u) (by rw [HMM.out]; exact hlt)
   obtain ⟨A6, c6, hv6, r7⟩ := R6.out u xs hxs
   obtain ⟨b, off, hA, hbb, hcell⟩ := (R5.out.below iB.out).at_ hv6
   have hx2 : (xss.map (lvlC es q))[u]? = some (lvlC es q xs) := by simp [hxs]
   have HTK := Lib.hid (take_snoc hx2)
   have hpx : Hid ((xss.map (lvlC es q)).take u ++ [lvlC es q xs] <+: xss.map (lvlC es q)) := by rw [Hid, ← HTK.out]; exact List.take_prefix _ _
   have g0 := iG.out.cell 0
   have g1 := iG.out.cell 1
   have q0 := iQ.out.cell 0
   have OK := Lib.hid (OC.out xs (List.mem_of_getElem? hxs) A6 c6 wo (by exact (K4.out.below iB.out).more (Nat.le_trans HTW.out hsz.out)) (by exact (r7.below iB.out).more (Nat.le_trans HTW.out hsz.out)))
   obtain ⟨y, hy⟩ : ∃ y, lvlC es q xs = y := ⟨_, rfl⟩
   rw [hy] at HTK hpx OK
   obtain ⟨lx, hlx⟩ : ∃ lx, xs.length = lx := ⟨_, rfl⟩
   rw [hlx] at OK hcell
   subst hA
   clear hxs hx2 hv6 r7 hy hlx c0
   gi_wp2_with fail
   refine ⟨trivial, ?_⟩
   refine (inW (OK.out)).mono ?_
   rintro e w5 ⟨rfl, hb5⟩
   obtain ⟨fn, tmps, assign, body, hyy, hR⟩ := HY.out ((xss.map (lvlC es q)).take u) y C' w5 #[.int .i64 y] (fun _ => False) hpx.out (HJ.out _ _ _ _ IJ.out (Stays.of_new hb5)) (Nat.le_trans hsz.out hb5.size) (fun k hk => Nat.lt_of_lt_of_le (IC.out k hk).1 hb5.size) (fun k hk => hk.elim) rfl
   gi_wp2_with fail
   refine (roundIn_wide hR).mono ?_
   rintro e w6 ⟨C2, b2, ho2, hg2, rfl, hj2, hx2⟩
   cases b2
   ·have HX2 := Lib.hid (hx2 rfl)
    rw [← HTK.out] at HX2
    clear hj2 hx2 hR hyy
    gi_wp2
    exact ⟨_, results_none rfl _ _ _, ⟨⟨_, rfl⟩, C2, .inr ⟨(xss.map (lvlC es q)).take (u + 1), List.take_prefix _ _, HX2.out⟩⟩⟩
   ·have HJ2 := Lib.hid (hj2 rfl)
    rw [← HTK.out] at HJ2
    have hno : ∀ k, (k < tb ∨ k = gb ∨ k = qb) → ¬ (C' k ∨ False) := fun k hk hc => hc.elim (fun hc => (IC.out k hc).2 hk) id
    have N1 := Lib.hid (Nat.le_trans hsz.out (Nat.le_trans hb5.size ho2.size))
    have N2 : Hid (Below tb W w6) := iB.out.trans ((hb5.mono (Nat.le_trans HTW.out hsz.out)).trans (ho2.below (fun k hk => hno k (.inl hk)) (Nat.le_trans HTW.out (Nat.le_trans hsz.out hb5.size))))
    have N3 := Lib.hid ((iG.out.next hb5).only ho2 (hno gb (.inr (.inl rfl))))
    have N4 := Lib.hid ((iQ.out.next hb5).only ho2 (hno qb (.inr (.inr rfl))))
    have N5 : Hid (∀ k, C2 k → k < w6.heap.size ∧ ¬ (k < tb ∨ k = gb ∨ k = qb)) := by
     intro k hk
     rcases hg2 k hk with h | h | h
     ·have := IC.out k h; exact ⟨Nat.lt_of_lt_of_le this.1 (Nat.le_trans hb5.size ho2.size), this.2⟩
     ·exact h.elim
     ·have hh1 := (iG.out.next hb5).lt
      have hh2 := (iQ.out.next hb5).lt
      have hh3 := Nat.le_trans HTW.out (Nat.le_trans hsz.out hb5.size)
      exact ⟨h.2, by omega⟩
    clear hj2 hx2 hR hyy ho2 hg2 hno hb5 g0 g1 q0 hcell
    gi_wp2
    go_roundw
    case rel => exact ⟨u + 1, C2, by go_num, by omega, N1.out, N2.out, N3.out, N4.out, HJ2.out, N5.out⟩
    case measure => simp [intOf]; omega
  ·obtain rfl : u = m := by omega
   have hfin : (xss.map (lvlC es q)).take u = xss.map (lvlC es q) := List.take_of_length_le (by rw [List.length_map, HMM.out]; exact Nat.le_refl _)
   rw [hfin] at IJ
   clear hfin c0
   gi_wp2
   exact ⟨_, results_none rfl _ _ _, ⟨⟨_, rfl⟩, C', .inl IJ.out⟩⟩
end Go.Proofs.YtnbikkcalcpedaaGreatDoor
namespace Go.Proofs.YtnbikkcalcpedaaGreatDoor
open Go.RowKit
def lvlE (n : Int) (es : List E3) (q : Int) (cs : List Int) : Int × Int := if burnErr n es q cs = 0 then (if recB n.toNat es cs q.toNat then (lvlC es q.toNat cs, 0) else (0, 15)) else (0, burnErr n es q cs)
theorem sizeS_bd {N : Int} {es : List E3} (hok : ∀ e ∈ es, okE N e) (hlen : es.length ≤ 10000) : (endsL (straightL es)).length ≤ 500000 := by
 rw [← size_ends]
 have h1 := sizeE_bd (es := straightL es) fun e he => hok e (List.mem_filter.1 he).1
 have h2 : (straightL es).length ≤ es.length := List.length_filter_le _ _
 omega
theorem burn_nat {n : Int} {es : List E3} {q : Int} {cs : List Int} (h : burnErr n es q cs = 0) : ∃ m p : Nat, n = m ∧ q = p ∧ p < m ∧ RightG m es ∧ checkG m es = 0 ∧ cs.length = m ∧ ∀ x ∈ cs, -1048576 ≤ x ∧ x ≤ 1048576 := by
 obtain ⟨hG, _, h0, hq, hl, hb, _⟩ := conf_zero (burn_zero h).1
 obtain ⟨m, rfl⟩ := Int.eq_ofNat_of_zero_le (show 0 ≤ n by omega)
 obtain ⟨p, rfl⟩ := Int.eq_ofNat_of_zero_le h0
 exact ⟨m, p, rfl, rfl, by omega, hG, check_right hG, by omega, hb⟩
theorem llevel_any (n : Int) (A : Option Addr) (c : Nat) (es : List E3) (hlen : es.length ≤ 10000) (q : Int) (B : Option Addr) (d : Nat) (cs : List Int) (hm : cs.length ≤ 1048000) (w : World) (h : Reads w w.heap.size 3 A es.length (edgeCells es)) (h' : Reads w w.heap.size 1 B cs.length (ints cs)) :
  Calls Tryz.prog 29 #[.agg #[.int .i64 n, .slice A es.length c], .int .i64 q, .slice B cs.length d] w fun e w' => e = .returned (.tuple #[.int .i64 (lvlE n es q cs).1, .int .i64 (lvlE n es q cs).2]) ∧ Below w.heap.size w w' := by
 have RC := Lib.hid (fun (W : World) (hB : Below w.heap.size w W) => recurrent_any n A c es hlen q B d cs hm W ((h.below hB).more hB.size) ((h'.below hB).more hB.size))
 obtain ⟨M, hM⟩ : ∃ M, es.length = M := ⟨_, rfl⟩
 obtain ⟨N, hN⟩ : ∃ N, cs.length = N := ⟨_, rfl⟩
 have g := Blk.new w 24 #[.int .i64 n, .slice A M c]
 have hB : Below w.heap.size w (w.alloc (.cells #[.int .i64 n, .slice A M c] 24)) := (Below.refl _ _).alloc (Nat.le_refl _) _
 have k0 := g.cell 0
 have k1 := g.cell 1
 by_cases hz : burnErr n es q cs = 0
 ·obtain ⟨m, p, rfl, rfl, hp, hG, hck, hl, hb⟩ := burn_nat hz
  have hv := valE_bd hG.ok p
  have hs := sizeS_bd hG.ok hlen
  have OC := Lib.hid (fun (W : World) (hB : Below w.heap.size w W) => lof_any m p hp A c es hlen hck B d cs hl hb hs (by omega) W ((h.below hB).more hB.size) ((h'.below hB).more hB.size))
  by_cases hr : recB m es cs p = true
  ·have hE : lvlE m es p cs = (lvlC es p cs, 0) := by unfold lvlE; rw [if_pos hz, Int.toNat_natCast, Int.toNat_natCast, if_pos hr]
   have hR : recE m es p cs = (true, natI (recL m es cs p), 0) := by unfold recE; rw [if_pos hz, Int.toNat_natCast, Int.toNat_natCast, if_pos hr]
   rw [hE]
   rw [hR] at RC
   obtain ⟨v, hvv⟩ : ∃ v, lvlC es p cs = v := ⟨_, rfl⟩
   rw [hvv] at OC ⊢
   obtain ⟨l, hll⟩ : ∃ l, natI (recL m es cs p) = l := ⟨_, rfl⟩
   rw [hll] at RC
   dsimp only at RC ⊢
   rw [hM, hN] at RC OC ⊢
   clear h h' hM hN hz hG hck hl hb hv hs hr hE hR hvv hll
   go_enter Tryz.func29, Tryz.ntmps29
   go_wp2_with fail
   refine (RC.out _ hB).mono ?_
   rintro e w1 ⟨A1, c1, rfl, _, hb⟩
   have g := g.next hb
   have hB := hB.trans (hb.mono hB.size)
   have k0 := g.cell 0
   have k1 := g.cell 1
   clear hb
   go_wp2_with fail
   refine (OC.out _ hB).mono ?_
   rintro e w2 ⟨rfl, hb⟩
   have hB := hB.trans (hb.mono hB.size)
   go_wp2
   go_ret2
   exact ⟨rfl, hB⟩
  ·have hE : lvlE m es p cs = (0, 15) := by unfold lvlE; rw [if_pos hz, Int.toNat_natCast, Int.toNat_natCast, if_neg hr]
   have hR : recE m es p cs = (false, [], 0) := by unfold recE; rw [if_pos hz, Int.toNat_natCast, Int.toNat_natCast, if_neg hr]
   rw [hE]
   rw [hR] at RC
   dsimp only at RC ⊢
   rw [hM, hN] at RC ⊢
   clear h h' hM hN hz hG hck hl hb hv hs hr hE hR OC
   go_enter Tryz.func29, Tryz.ntmps29
   go_wp2_with fail
   refine (RC.out _ hB).mono ?_
   rintro e w1 ⟨A1, c1, rfl, _, hb⟩
   have hB := hB.trans (hb.mono hB.size)
   clear hb
   go_wp2
   go_ret2
   exact ⟨rfl, hB⟩
 ·obtain ⟨z, hzz⟩ : ∃ z, burnErr n es q cs = z := ⟨_, rfl⟩
  have hE : lvlE n es q cs = (0, z) := by unfold lvlE; rw [if_neg hz, hzz]
  have hR : recE n es q cs = (false, [], z) := by unfold recE; rw [if_neg hz, hzz]
  rw [hzz] at hz
  have hzb : (z != 0) = true := by simpa using hz
  rw [hE]
  rw [hR] at RC
  dsimp only at RC ⊢
  rw [hM, hN] at RC ⊢
  clear h h' hM hN hz hE hR hzz
  go_enter Tryz.func29, Tryz.ntmps29
  go_wp2_with fail
  refine (RC.out _ hB).mono ?_
  rintro e w1 ⟨A1, c1, rfl, _, hb⟩
  have hB := hB.trans (hb.mono hB.size)
  clear hb
  go_wp2
  go_ret2
  exact ⟨rfl, hB⟩
def lvtE (n : Int) (es : List E3) (q : Int) (xs : List Int) : Int × Int := if grownErr n es q xs = 0 then (lvlC es q.toNat (recFE n es q xs).1, 0) else (0, grownErr n es q xs)
theorem getD_sum : ∀ {l : List Int}, (∀ v, 0 ≤ l.getD v 0) → ∀ v, 0 ≤ l.sum ∧ l.getD v 0 ≤ l.sum
 | [], _, v => by simp
 | a :: l, h, v => by
   have h0 : 0 ≤ a := h 0
   have ht : ∀ v, 0 ≤ l.getD v 0 := fun v => h (v + 1)
   rw [List.sum_cons]
   rcases v with _ | v
   ·have := (getD_sum ht 0).1
    show _ ∧ a ≤ _
    omega
   ·have := getD_sum ht v
    show _ ∧ l.getD v 0 ≤ _
    omega
theorem rec_bd {n q : Int} {es : List E3} {xs : List Int} (hlen : es.length ≤ 10000) (hm : (endsL es).length ≤ 60) (h : grownErr n es q xs = 0) : ∃ m p : Nat, n = m ∧ q = p ∧ p < m ∧ RightG m es ∧ checkG m es = 0 ∧ (recFE n es q xs).1.length = m ∧ (∀ x ∈ (recFE n es q xs).1, -1048576 ≤ x ∧ x ≤ 1048576) ∧ (recFE n es q xs).2 = 0 := by
 obtain ⟨m, p, t, rfl, rfl, rfl, hp, h12, hR, _⟩ := grown_nat h
 have hE : recFE m es p (nI t) = (dulL m es (confN (endsL es) m p t) p, 0) := by
  unfold recFE
  rw [if_pos h, show (nI t).map Int.toNat = t from toN_nI t]
  rfl
 rw [hE]
 have hG := hR.hG
 obtain ⟨c1, c2, c3, c4⟩ := conf_facts (bd_ends hG) hp t
 refine ⟨m, p, rfl, rfl, hp, hG, check_right hG, dulL_length _ _ _ _, ?_, rfl⟩
 intro x hx
 obtain ⟨v, hv, rfl⟩ := List.getElem_of_mem hx
 rw [dulL_length] at hv
 have h1 := dulL_get es (confN (endsL es) m p t) p hv
 rw [List.getD_eq_getElem?_getD, List.getElem?_eq_getElem (by rw [dulL_length]; exact hv)] at h1
 have h2 := valE_bd hG.ok v
 have h3 := c2 v
 have h4 : (confN (endsL es) m p t).getD v 0 ≤ 60 := by
  have := getD_sum c2 v
  omega
 have h5 : (dulL m es (confN (endsL es) m p t) p)[v] = if v = p then 0 else valE es v - 1 - (confN (endsL es) m p t).getD v 0 := h1
 rw [h5]
 split
 ·omega
 ·omega
theorem ltree_any (n : Int) (A : Option Addr) (c : Nat) (es : List E3) (hlen : es.length ≤ 10000) (hm0 : checkG n es = 0 → (endsL es).length ≤ 60) (q : Int) (B : Option Addr) (d : Nat) (xs : List Int) (hm : xs.length ≤ 1048576) (w : World) (h : Reads w w.heap.size 3 A es.length (edgeCells es)) (h' : Reads w w.heap.size 1 B xs.length (ints xs)) :
  Calls Tryz.prog 32 #[.agg #[.int .i64 n, .slice A es.length c], .int .i64 q, .slice B xs.length d] w fun e w' => e = .returned (.tuple #[.int .i64 (lvtE n es q xs).1, .int .i64 (lvtE n es q xs).2]) ∧ Below w.heap.size w w' := by
 have RC := Lib.hid (fun (W : World) (hB : Below w.heap.size w W) => recur30_any n q A c es hlen hm0 B d xs hm W ((h.below hB).more hB.size) ((h'.below hB).more hB.size))
 obtain ⟨M, hM⟩ : ∃ M, es.length = M := ⟨_, rfl⟩
 obtain ⟨N, hN⟩ : ∃ N, xs.length = N := ⟨_, rfl⟩
 have g := Blk.new w 24 #[.int .i64 n, .slice A M c]
 have hB : Below w.heap.size w (w.alloc (.cells #[.int .i64 n, .slice A M c] 24)) := (Below.refl _ _).alloc (Nat.le_refl _) _
 have k0 := g.cell 0
 have k1 := g.cell 1
 by_cases hz : grownErr n es q xs = 0
 ·have hck0 : checkG n es = 0 := by
   obtain ⟨m, p, t, rfl, _, _, _, _, hR, _⟩ := grown_nat hz
   exact check_right hR.hG
  have hE : lvtE n es q xs = (lvlC es q.toNat (recFE n es q xs).1, 0) := by unfold lvtE; rw [if_pos hz]
  obtain ⟨m, p, rfl, rfl, hp, hG, hck, hl, hb, hr2⟩ := rec_bd hlen (hm0 hck0) hz
  have hv := valE_bd hG.ok p
  have hs := sizeS_bd hG.ok hlen
  rw [Int.toNat_natCast] at hE
  rw [hE]
  obtain ⟨cs, hcs⟩ : ∃ cs, (recFE m es p xs).1 = cs := ⟨_, rfl⟩
  rw [hcs] at hl hb RC ⊢
  rw [hr2] at RC
  have OC := Lib.hid (fun (W : World) (hB : Below w.heap.size w W) (A1 : Option Addr) (c1 : Nat) (hR : Reads W W.heap.size 1 A1 cs.length (ints cs)) => lof_any m p hp A c es hlen hck A1 c1 cs hl hb hs (by omega) W ((h.below hB).more hB.size) hR)
  obtain ⟨v, hvv⟩ : ∃ v, lvlC es p cs = v := ⟨_, rfl⟩
  rw [hvv] at OC ⊢
  obtain ⟨K, hK⟩ : ∃ K, cs.length = K := ⟨_, rfl⟩
  have HK := Lib.hid hK
  rw [hM] at RC OC ⊢
  rw [hN] at RC ⊢
  rw [hK] at RC OC
  dsimp only at RC ⊢
  clear h h' hM hN hz hG hck hl hb hv hs hE hvv hK hr2 hck0 hcs
  go_enter Tryz.func32, Tryz.ntmps32
  go_wp2_with fail
  refine (RC.out _ hB).mono ?_
  rintro e w1 ⟨A1, c1, rfl, o1, hb⟩
  have g := g.next hb
  have hB := hB.trans (hb.mono hB.size)
  have k0 := g.cell 0
  have k1 := g.cell 1
  have r1 := o1.reads
  rw [HK.out] at r1
  clear hb o1
  go_wp2_with fail
  refine (OC.out _ hB _ _ r1).mono ?_
  rintro e w2 ⟨rfl, hb⟩
  have hB := hB.trans (hb.mono hB.size)
  go_wp2
  go_ret2
  exact ⟨rfl, hB⟩
 ·obtain ⟨z, hzz⟩ : ∃ z, grownErr n es q xs = z := ⟨_, rfl⟩
  have hE : lvtE n es q xs = (0, z) := by unfold lvtE; rw [if_neg hz, hzz]
  have hR : recFE n es q xs = ([], z) := by unfold recFE; rw [if_neg hz, hzz]
  rw [hzz] at hz
  have hzb : (z != 0) = true := by simpa using hz
  rw [hE]
  rw [hR] at RC
  dsimp only at RC ⊢
  rw [hM, hN] at RC ⊢
  clear h h' hM hN hz hE hR hzz
  go_enter Tryz.func32, Tryz.ntmps32
  go_wp2_with fail
  refine (RC.out _ hB).mono ?_
  rintro e w1 ⟨A1, c1, rfl, _, hb⟩
  have hB := hB.trans (hb.mono hB.size)
  clear hb
  go_wp2
  go_ret2
  exact ⟨rfl, hB⟩
end Go.Proofs.YtnbikkcalcpedaaGreatDoor
