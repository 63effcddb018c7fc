/-
  Texts of this claim, put together: CfgF, StepF, Has, Way.
-/
import Derived.Test.YtghigdcpinengaaGreatK19
import Derived.Test.YtghigdcpinengaaGreatK23
import Derived.Test.YtghigdcpinengaaGreatK13
import Derived.Test.YtghigdcpinengaaGreatK01
import Derived.Deep.QuietTactic
import Derived.BigQuiet
import Derived.BigRegion
import Derived.Test.YtghigdcpinengaaGreatK15
import Derived.Laws.EntriesVeiled
/-! treebijection: the fire of a superstable configuration, of a spanning tree; Steps, Tree, Config. -/
namespace Go.Proofs.YtghigdcpinengaaGreat
open Go.RowKit

/-- The error of a superstable configuration. -/
def cfgErr (n : Int) (es : List E3) (q : Int) (cs : List Int) : Int := if (superE n es q cs).2 ≠ 0 then (superE n es q cs).2 else if (superE n es q cs).1 = true then 0 else 15
/-- .. of a spanning tree with a sink. -/
def grownErr (n : Int) (es : List E3) (q : Int) (xs : List Int) : Int := if treeErr n es xs ≠ 0 then treeErr n es xs else if q < 0 ∨ n ≤ q then 2 else 0
/-- A fire that is handed back. -/
def FireOut (w w' : World) (b n : Nat) (E : List (Nat × Nat)) (s : FireS) : Prop := ∃ lv a base, FireW w' base b E n lv a { s with tree := ascN E.length s.tree } [] ∧ w.heap.size ≤ base ∧ base ≤ w'.heap.size
theorem asc_of {m : Nat} {T l : List Nat} (hn : l.Nodup) (hl : ∀ e ∈ l, e < m) (hp : T.Perm l) (hs : T.Pairwise (· ≤ ·)) : T = ascN m l := by
  refine setN_ext ⟨?_, fun e he => hl e (hp.mem_iff.1 he)⟩ (asc_set m l) fun x => ⟨fun h => mem_asc.2 ⟨hl x (hp.mem_iff.1 h), hp.mem_iff.1 h⟩, fun h => hp.mem_iff.2 (mem_asc.1 h).2⟩
  have hd := hp.nodup_iff.2 hn
  exact (hd.and hs).imp fun h => by omega
theorem cfg_zero {n : Int} {es : List E3} {q : Int} {cs : List Int} (h : cfgErr n es q cs = 0) : burnErr n es q cs = 0 ∧ restL n.toNat (burntL es cs n.toNat q.toNat) = [] ∧ (superE n es q cs) = (true, 0) := by
  unfold cfgErr superE at h
  unfold superE
  by_cases h1 : burnErr n es q cs = 0
  · rw [if_pos h1] at h ⊢
    dsimp only at h
    rw [if_neg (by simp)] at h
    by_cases h2 : restL n.toNat (burntL es cs n.toNat q.toNat) = []
    · exact ⟨h1, h2, by rw [decide_eq_true h2]⟩
    · rw [decide_eq_false h2] at h; simp at h
  · rw [if_neg h1] at h
    dsimp only at h
    rw [if_pos h1] at h
    exact absurd h h1
theorem cfg_check {n : Int} {es : List E3} {q : Int} {cs : List Int} (h : cfgErr n es q cs = 0) : checkG n es = 0 := by
  obtain ⟨h1, _⟩ := burn_zero (cfg_zero h).1
  rcases conf_cases n es q cs with ⟨h2, h3⟩ | ⟨h2, _⟩ | ⟨h2, _⟩
  · exact absurd (h3 ▸ h1) h2
  all_goals
    rcases root_cases n es q with ⟨a, b⟩ | ⟨a, _, b⟩ | ⟨a, _⟩ | ⟨a, _⟩
    · exact absurd (b ▸ h2) a
    · exact a
    · exact a
    · exact a
set_option maxRecDepth 100000 in
set_option maxHeartbeats 4000000 in
theorem configured_ok (n q : Nat) (A : Option Addr) (c : Nat) (es : List E3) (hlen : es.length ≤ 10000) (hm : (endsL es).length ≤ 60) (B : Option Addr) (d : Nat) (cs : List Int) (hz : cfgErr n es q cs = 0) (w : World) (h : Reads w w.heap.size 3 A es.length (edgeCells es)) (h' : Reads w w.heap.size 1 B cs.length (ints cs)) :
    Calls Tryz.prog 50 #[.agg #[.int .i64 n, .slice A es.length c], .int .i64 q, .slice B cs.length d] w fun e w' => ∃ b, e = .returned (.tuple #[.pointer (some ⟨b, 0, none⟩), .int .i64 0]) ∧ Hid (FireOut w w' b n (endsL es) (fireC_ (endsL es) n q cs)) ∧ Below w.heap.size w w' := by
  obtain ⟨hb0, _, hsu⟩ := cfg_zero hz
  obtain ⟨hG, _, hq0, hqn, hcl, _⟩ := conf_zero (burn_zero hb0).1
  have hck : checkG n es = 0 := by
    obtain ⟨h1, _⟩ := burn_zero hb0
    rcases conf_cases n es q cs with ⟨h2, h3⟩ | ⟨h2, _⟩ | ⟨h2, _⟩
    · exact absurd (h3 ▸ h1) h2
    · rcases root_cases n es q with ⟨a, b⟩ | ⟨a, _, b⟩ | ⟨a, _⟩ | ⟨a, _⟩
      · exact absurd (b ▸ h2) a
      · exact a
      · exact a
      · exact a
    · rcases root_cases n es q with ⟨a, b⟩ | ⟨a, _, b⟩ | ⟨a, _⟩ | ⟨a, _⟩
      · exact absurd (b ▸ h2) a
      · exact a
      · exact a
      · exact a
  have hn : n ≤ 12 := by have := hG.hi; omega
  have hq : q < n := by omega
  have hE := bd_ends hG
  have hlc : cs.length = n := by omega
  have SU : Hid (∀ W, Below w.heap.size w W → Calls Tryz.prog 84 #[.agg #[.int .i64 n, .slice A es.length c], .int .i64 q, .slice B cs.length d] W fun e w' => e = .returned (.tuple #[.bool true, .int .i64 0]) ∧ Below W.heap.size W w') := by
    intro W hB
    have := super_any n A c es (by omega) q B d cs (by omega) W ((h.below hB).more hB.size) ((h'.below hB).more hB.size)
    rw [hsu] at this
    exact this
  have LI : Hid (∀ W, Below w.heap.size w W → Calls Tryz.prog 85 #[.agg #[.int .i64 n, .slice A es.length c], .int .i64 q, .func (.func 86) #[.slice B cs.length d] #[]] W fun e w' => ∃ b, e = .returned (.pointer (some ⟨b, 0, none⟩)) ∧ Hid (FireOut w w' b n (endsL es) (fireC_ (endsL es) n q cs)) ∧ Below W.heap.size W w') := by
    intro W hB
    refine (lit_any n q 86 (.slice B cs.length d) (ltC cs) A c es hn hq hlen hck hm hE W ((h.below hB).more hB.size) (enters_of (P := Tryz.prog) Tryz.func86 (by kernel_rfl) rfl) (fun W' x e t hW' hx _ => ?_)).mono ?_
    · have h6 := (h'.below (hB.trans (hW'.mono hB.size))).more (hB.trans (hW'.mono hB.size)).size
      rw [hlc] at h6 ⊢
      exact clights_any B d n cs hlc x e t hx W' h6
    · rintro e w' ⟨b, rfl, HF, hb⟩
      obtain ⟨a, T, base, f, p, so, z1, z2⟩ := HF.out
      have hfi : FI (endsL es) n q (fireC_ (endsL es) n q cs) := (FI.run (lit := ltC cs) hE hq).1
      refine ⟨b, rfl, ?_, hb⟩
      have := asc_of hfi.tnd (fun e he => hfi.lt e (hfi.tsub e he)) p so
      rw [this] at f
      exact ⟨_, a, base, f, Nat.le_trans hB.size z1, z2⟩
  have g0 := Blk.new w 24 #[.int .i64 n, .slice A es.length c]
  have hB0 : Below w.heap.size w (w.alloc (.cells #[.int .i64 n, .slice A es.length c] 24)) := (Below.refl _ _).alloc (Nat.le_refl _) _
  have c0 := g0.cell 0
  have c1 := g0.cell 1
  clear hz hb0 hsu hG hq0 hqn hcl hck hE hlc h h' hm
  go_enter Tryz.func50, Tryz.ntmps50
  go_wp2_with fail
  refine (SU.out _ hB0).mono ?_
  rintro e w1 ⟨rfl, hb1⟩
  have hB1 := hB0.trans (hb1.mono hB0.size)
  have g1 := g0.next hb1
  have k0 := g1.cell 0
  have k1 := g1.cell 1
  clear c0 c1
  go_wp2_with fail
  refine (LI.out _ hB1).mono ?_
  rintro e w2 ⟨b, rfl, HF, hb2⟩
  have hB2 := hB1.trans (hb2.mono hB1.size)
  go_wp2
  go_ret2
  exact ⟨b, rfl, HF, hB2⟩
set_option maxHeartbeats 4000000 in
theorem configured_bad (n q : Int) (A : Option Addr) (c : Nat) (es : List E3) (hlen : es.length ≤ 10000) (B : Option Addr) (d : Nat) (cs : List Int) (hm : cs.length ≤ 1048000) (z : Int) (hcz : cfgErr n es q cs = z) (hz : z ≠ 0) (w : World) (h : Reads w w.heap.size 3 A es.length (edgeCells es)) (h' : Reads w w.heap.size 1 B cs.length (ints cs)) :
    Calls Tryz.prog 50 #[.agg #[.int .i64 n, .slice A es.length c], .int .i64 q, .slice B cs.length d] w fun e w' => e = .returned (.tuple #[.pointer none, .int .i64 z]) ∧ Below w.heap.size w w' := by
  have SU := Lib.hid (fun (W : World) (hB : Below w.heap.size w W) => super_any n A c es (by omega) q B d cs hm W ((h.below hB).more hB.size) ((h'.below hB).more hB.size))
  have g0 := Blk.new w 24 #[.int .i64 n, .slice A es.length c]
  have hB0 : Below w.heap.size w (w.alloc (.cells #[.int .i64 n, .slice A es.length c] 24)) := (Below.refl _ _).alloc (Nat.le_refl _) _
  have c0 := g0.cell 0
  have c1 := g0.cell 1
  unfold cfgErr at hcz
  obtain ⟨⟨r, x⟩, hr⟩ : ∃ p, superE n es q cs = p := ⟨_, rfl⟩
  rw [hr] at SU hcz
  dsimp only at SU hcz
  clear hr h h'
  by_cases hx : x = 0
  · subst hx
    rw [if_neg (by simp)] at hcz
    rcases r with _ | _
    · obtain rfl : z = 15 := by simpa using hcz.symm
      clear hcz hz
      go_enter Tryz.func50, Tryz.ntmps50
      go_wp2_with fail
      refine (SU.out _ hB0).mono ?_
      rintro e w1 ⟨rfl, hb1⟩
      have hB1 := hB0.trans (hb1.mono hB0.size)
      go_wp2
      go_ret2
      exact ⟨rfl, hB1⟩
    · rw [if_pos rfl] at hcz; exact absurd hcz.symm hz
  · rw [if_pos hx] at hcz
    subst hcz
    have hxb : (x != 0) = true := by simpa using hx
    clear hx hz
    go_enter Tryz.func50, Tryz.ntmps50
    go_wp2_with fail
    refine (SU.out _ hB0).mono ?_
    rintro e w1 ⟨rfl, hb1⟩
    have hB1 := hB0.trans (hb1.mono hB0.size)
    go_wp2
    go_ret2
    exact ⟨rfl, hB1⟩
end Go.Proofs.YtghigdcpinengaaGreat

/-! treebijection.Steps and Tree, with their errors. -/
namespace Go.Proofs.YtghigdcpinengaaGreat
open Go.RowKit

def stepsE (n : Int) (es : List E3) (q : Int) (cs : List Int) : List Int × Int := if cfgErr n es q cs = 0 then (nI (fireC_ (endsL es) n.toNat q.toNat cs).steps, 0) else ([], cfgErr n es q cs)
def treeFE (n : Int) (es : List E3) (q : Int) (cs : List Int) : List Int × List Int × Int := if cfgErr n es q cs = 0 then (nI (treeN (endsL es) n.toNat q.toNat cs), nI (fireC_ (endsL es) n.toNat q.toNat cs).order, 0) else ([], [], cfgErr n es q cs)
theorem cfg_nat {n : Int} {es : List E3} {q : Int} {cs : List Int} (h : cfgErr n es q cs = 0) : ∃ m p : Nat, n = m ∧ q = p ∧ p < m ∧ m ≤ 12 ∧ RightG m es ∧ cs.length = m := by
  obtain ⟨hb0, _, _⟩ := cfg_zero h
  obtain ⟨hG, _, hq0, hqn, hcl, _⟩ := conf_zero (burn_zero hb0).1
  obtain ⟨m, rfl⟩ := Int.eq_ofNat_of_zero_le (show 0 ≤ n by omega)
  obtain ⟨p, rfl⟩ := Int.eq_ofNat_of_zero_le hq0
  exact ⟨m, p, rfl, rfl, by omega, by have := hG.hi; omega, hG, by omega⟩
theorem readsN {w : World} {base : Nat} {A : Option Addr} {c k : Nat} {l : List Nat} (h : OwnI w base A c (nI l)) (hk : l.length = k) : Reads w w.heap.size 1 A k (ints (nI l)) := by
  have := h.reads
  rw [nI_length, hk] at this
  exact this

set_option maxRecDepth 100000 in
set_option maxHeartbeats 4000000 in
theorem steps30_any (n q : Int) (A : Option Addr) (c : Nat) (es : List E3) (hlen : es.length ≤ 10000) (hm0 : checkG n es = 0 → (endsL es).length ≤ 60) (B : Option Addr) (d : Nat) (cs : List Int) (hl : cs.length ≤ 1048000) (w : World) (h : Reads w w.heap.size 3 A es.length (edgeCells es)) (h' : Reads w w.heap.size 1 B cs.length (ints cs)) :
    Calls Tryz.prog 13 #[.agg #[.int .i64 n, .slice A es.length c], .int .i64 q, .slice B cs.length d] w fun e w' => ∃ A' c', e = .returned (.tuple #[.slice A' (stepsE n es q cs).1.length c', .int .i64 (stepsE n es q cs).2]) ∧ OwnI w' w.heap.size A' c' (stepsE n es q cs).1 ∧ Below w.heap.size w w' := by
  have g0 := Blk.new w 24 #[.int .i64 n, .slice A es.length c]
  have hB0 : Below w.heap.size w (w.alloc (.cells #[.int .i64 n, .slice A es.length c] 24)) := (Below.refl _ _).alloc (Nat.le_refl _) _
  have c0 := g0.cell 0
  have c1 := g0.cell 1
  by_cases hz : cfgErr n es q cs = 0
  · have hm := hm0 (cfg_check hz)
    obtain ⟨m, p, rfl, rfl, hp, hm12, hG, hcl⟩ := cfg_nat hz
    have CO := Lib.hid (fun (W : World) (hB : Below w.heap.size w W) => configured_ok m p A c es hlen hm B d cs hz W ((h.below hB).more hB.size) ((h'.below hB).more hB.size))
    have hE : stepsE m es p cs = (nI (fireC_ (endsL es) m p cs).steps, 0) := by unfold stepsE; rw [if_pos hz]; rfl
    rw [hE]
    dsimp only
    rw [nI_length]
    obtain ⟨S, hS⟩ : ∃ S, fireC_ (endsL es) m p cs = S := ⟨_, rfl⟩
    rw [hS] at CO ⊢
    clear hE hS hz h h' hm hcl hG
    go_enter Tryz.func13, Tryz.ntmps13
    go_wp2_with fail
    refine (CO.out _ hB0).mono ?_
    rintro e w1 ⟨b, rfl, HF, hb1⟩
    have hB1 := hB0.trans (hb1.mono hB0.size)
    obtain ⟨lv, a, base, f, z1, z2⟩ := HF.out
    have k4 : w1.cell? ⟨b, 4, none⟩ = some (.slice a.AS S.steps.length a.cS) := f.blk.cell 4
    have R2 : Hid (OwnI w1 w.heap.size a.AS a.cS (nI S.steps)) := f.steps.mono (Nat.le_trans hB0.size z1)
    clear f HF
    go_wp2
    go_ret2
    exact ⟨_, _, rfl, R2.out, hB1⟩
  · have hE : stepsE n es q cs = ([], cfgErr n es q cs) := by unfold stepsE; rw [if_neg hz]
    have CO := Lib.hid (fun (W : World) (hB : Below w.heap.size w W) => configured_bad n q A c es hlen B d cs hl _ rfl hz W ((h.below hB).more hB.size) ((h'.below hB).more hB.size))
    rw [hE]
    dsimp only
    obtain ⟨z, hzz⟩ : ∃ z, cfgErr n es q cs = z := ⟨_, rfl⟩
    rw [hzz] at CO hz ⊢
    have hzb : (z != 0) = true := by simpa using hz
    clear hE hzz hz h h' hm0
    go_enter Tryz.func13, Tryz.ntmps13
    go_wp2_with fail
    refine (CO.out _ hB0).mono ?_
    rintro e w1 ⟨rfl, hb1⟩
    have hB1 := hB0.trans (hb1.mono hB0.size)
    go_wp2
    go_ret2
    exact ⟨_, _, rfl, OwnI.nil_ _ _, hB1⟩

set_option maxRecDepth 100000 in
set_option maxHeartbeats 4000000 in
theorem ttree30_any (n q : Int) (A : Option Addr) (c : Nat) (es : List E3) (hlen : es.length ≤ 10000) (hm0 : checkG n es = 0 → (endsL es).length ≤ 60) (B : Option Addr) (d : Nat) (cs : List Int) (hl : cs.length ≤ 1048000) (w : World) (h : Reads w w.heap.size 3 A es.length (edgeCells es)) (h' : Reads w w.heap.size 1 B cs.length (ints cs)) :
    Calls Tryz.prog 14 #[.agg #[.int .i64 n, .slice A es.length c], .int .i64 q, .slice B cs.length d] w fun e w' => ∃ A1 c1 A2 c2, e = .returned (.tuple #[.slice A1 (treeFE n es q cs).1.length c1, .slice A2 (treeFE n es q cs).2.1.length c2, .int .i64 (treeFE n es q cs).2.2]) ∧ OwnI w' w.heap.size A1 c1 (treeFE n es q cs).1 ∧ OwnI w' w.heap.size A2 c2 (treeFE n es q cs).2.1 ∧ Below w.heap.size w w' := by
  have g0 := Blk.new w 24 #[.int .i64 n, .slice A es.length c]
  have hB0 : Below w.heap.size w (w.alloc (.cells #[.int .i64 n, .slice A es.length c] 24)) := (Below.refl _ _).alloc (Nat.le_refl _) _
  have c0 := g0.cell 0
  have c1 := g0.cell 1
  by_cases hz : cfgErr n es q cs = 0
  · have hm := hm0 (cfg_check hz)
    obtain ⟨m, p, rfl, rfl, hp, hm12, hG, hcl⟩ := cfg_nat hz
    have CO := Lib.hid (fun (W : World) (hB : Below w.heap.size w W) => configured_ok m p A c es hlen hm B d cs hz W ((h.below hB).more hB.size) ((h'.below hB).more hB.size))
    have hE : treeFE m es p cs = (nI (treeN (endsL es) m p cs), nI (fireC_ (endsL es) m p cs).order, 0) := by unfold treeFE; rw [if_pos hz]; rfl
    rw [hE]
    dsimp only
    rw [nI_length, nI_length]
    obtain ⟨S, hS⟩ : ∃ S, fireC_ (endsL es) m p cs = S := ⟨_, rfl⟩
    obtain ⟨T, hT⟩ : ∃ T, treeN (endsL es) m p cs = T := ⟨_, rfl⟩
    have HT : Hid (ascN (endsL es).length S.tree = T) := by rw [← hT, ← hS]; rfl
    rw [hS] at CO ⊢
    rw [hT]
    clear hE hS hT hz h h' hm hcl hG
    go_enter Tryz.func14, Tryz.ntmps14
    go_wp2_with fail
    refine (CO.out _ hB0).mono ?_
    rintro e w1 ⟨b, rfl, HF, hb1⟩
    have hB1 := hB0.trans (hb1.mono hB0.size)
    obtain ⟨lv, a, base, f, z1, z2⟩ := HF.out
    rw [HT.out] at f
    have k6 : w1.cell? ⟨b, 6, none⟩ = some (.slice a.AD T.length a.cD) := f.blk.cell 6
    have k5 : w1.cell? ⟨b, 5, none⟩ = some (.slice a.AO S.order.length a.cO) := f.blk.cell 5
    have R1 : Hid (OwnI w1 w.heap.size a.AD a.cD (nI T)) := f.tree.mono (Nat.le_trans hB0.size z1)
    have R2 : Hid (OwnI w1 w.heap.size a.AO a.cO (nI S.order)) := f.order.mono (Nat.le_trans hB0.size z1)
    clear f HF
    go_wp2
    go_quiet (fail)
    go_wp2
    go_ret3
    exact ⟨_, _, _, _, rfl, R1.out, R2.out, below_drewN hB1 _⟩
  · have hE : treeFE n es q cs = ([], [], cfgErr n es q cs) := by unfold treeFE; rw [if_neg hz]
    have CO := Lib.hid (fun (W : World) (hB : Below w.heap.size w W) => configured_bad n q A c es hlen B d cs hl _ rfl hz W ((h.below hB).more hB.size) ((h'.below hB).more hB.size))
    rw [hE]
    dsimp only
    obtain ⟨z, hzz⟩ : ∃ z, cfgErr n es q cs = z := ⟨_, rfl⟩
    rw [hzz] at CO hz ⊢
    have hzb : (z != 0) = true := by simpa using hz
    clear hE hzz hz h h' hm0
    go_enter Tryz.func14, Tryz.ntmps14
    go_wp2_with fail
    refine (CO.out _ hB0).mono ?_
    rintro e w1 ⟨rfl, hb1⟩
    have hB1 := hB0.trans (hb1.mono hB0.size)
    go_wp2
    go_ret3
    exact ⟨_, _, _, _, rfl, OwnI.nil_ _ _, OwnI.nil_ _ _, hB1⟩
end Go.Proofs.YtghigdcpinengaaGreat

/-! slices.Index and Contains on ints (from XLegal, for programs without firing). -/
namespace Go.Proofs.YtghigdcpinengaaGreat
open Go.RowKit

set_option maxHeartbeats 1000000 in
theorem index_any (A : Option Addr) (c : Nat) (xs : List Int) (hn : xs.length ≤ 1048576) (v : Int) (w : World) (h : Reads w w.heap.size 1 A xs.length (ints xs)) :
    Calls Tryz.prog 65 #[.slice A xs.length c, .int .i64 v] w fun e w' => ∃ r : Int, e = .returned (.int .i64 r) ∧ Hid (0 ≤ r ↔ v ∈ xs) ∧ w = w' := by
  go_enter Tryz.func65, Tryz.ntmps65
  go_wp2
  go_loop [8] (fun i => ∃ k : Nat, k ≤ xs.length ∧ i = .int .i64 k ∧ Hid (v ∉ xs.take k)) (fun i => xs.length - (intOf i).toNat)
  case atStart => exact ⟨0, by omega, rfl, by simp [Hid]⟩
  case round =>
    obtain ⟨k, hk, rfl, HS⟩ := hrel
    by_cases hlt : k < xs.length
    · obtain ⟨x, hx⟩ := get_of_lt hlt
      obtain ⟨b, off, rfl, hb, hcell⟩ := h.at_ (ints_at hx)
      have hi : (k : Int) < (xs.length : Int) := by omega
      have htk := take_snoc hx
      by_cases hv : v = x
      · have e : (v == x) = true := by simpa using hv
        have HT : Hid (v ∈ xs) := by rw [hv]; exact List.mem_of_getElem? hx
        clear hx htk hv
        go_wp2
        go_ret
        exact ⟨k, rfl, ⟨fun _ => HT.out, fun _ => by omega⟩, rfl⟩
      · have e : (v == x) = false := by simpa using hv
        have HN : Hid (v ∉ xs.take (k + 1)) := by
          rw [htk, Hid, List.mem_append]
          rintro (hc | hc)
          · exact HS.out hc
          · exact hv (List.mem_singleton.1 hc)
        clear hx htk hv
        go_wp2
        go_round
        case rel => exact ⟨k + 1, by omega, by go_num, HN⟩
        case measure => simp [intOf]; omega
    · obtain rfl : k = xs.length := by omega
      rw [List.take_length] at HS
      go_wp2
      go_ret
      exact ⟨-1, rfl, ⟨fun h => absurd h (by decide), fun h => absurd h HS.out⟩, rfl⟩
set_option maxHeartbeats 1000000 in
theorem contains_any (A : Option Addr) (c : Nat) (xs : List Int) (hn : xs.length ≤ 1048576) (v : Int) (w : World) (h : Reads w w.heap.size 1 A xs.length (ints xs)) :
    Calls Tryz.prog 33 #[.slice A xs.length c, .int .i64 v] w fun e w' => e = .returned (.bool (decide (v ∈ xs))) ∧ w = w' := by
  have IC := Lib.hid (index_any A c xs hn v w h)
  go_enter Tryz.func33, Tryz.ntmps33
  go_wp2_with fail
  refine (IC.out).mono ?_
  rintro e w1 ⟨r, rfl, HR, rfl⟩
  go_wp2
  go_ret
  exact ⟨ret_bool (by rw [Bool.eq_iff_iff]; simp [HR.out]), rfl⟩

end Go.Proofs.YtghigdcpinengaaGreat

/-! Package tree: way, a search in depth by a closure that calls itself. -/
namespace Go.Proofs.YtghigdcpinengaaGreat
open Go.RowKit

abbrev wayF (bb bt be bf : Nat) : Value := .func (.func 100) #[] #[.pointer (some ⟨bb, 0, none⟩), .pointer (some ⟨bt, 0, none⟩), .pointer (some ⟨be, 0, none⟩), .pointer (some ⟨bf, 0, none⟩)]
/-- What the closure has captured. -/
structure WayW (W : World) (b : Nat) (E : List (Nat × Nat)) (t : List Nat) (Ar : Option Addr) (cr : Nat) (B : Option Addr) (d bb bt be bf base : Nat) : Prop where
  h1 : Blk W bb 3 #[.int .i64 b]
  h2 : Blk W bt 25 #[.slice B t.length d]
  h3 : Blk W be 61 #[.slice Ar E.length cr]
  h4 : Blk W bf 135 #[wayF bb bt be bf]
  r1 : Reads W base 2 Ar E.length (pair2 E)
  r2 : Reads W base 1 B t.length (ints (nI t))
  lo : base ≤ W.heap.size
theorem WayW.next {W W' : World} {b : Nat} {E : List (Nat × Nat)} {t : List Nat} {Ar : Option Addr} {cr : Nat} {B : Option Addr} {d bb bt be bf base : Nat} (h : WayW W b E t Ar cr B d bb bt be bf base) (hb : Below W.heap.size W W') : WayW W' b E t Ar cr B d bb bt be bf base :=
  ⟨h.h1.next hb, h.h2.next hb, h.h3.next hb, h.h4.next hb, h.r1.keep fun p hp => hb.cell (by have := h.lo; omega), h.r2.keep fun p hp => hb.cell (by have := h.lo; omega), Nat.le_trans h.lo hb.size⟩
end Go.Proofs.YtghigdcpinengaaGreat

