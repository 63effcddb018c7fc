/-
  Texts of this claim, put together: CntM, LayTerm, PolyK, DecT, PolyD, IntOf.
-/
import Derived.Maps.RangeWalk
import Derived.WideKeyEntry
import Derived.Shelf.SlSortCmp.WholeK
import Derived.Test.YtplgbapbgcipdaaGreatDoorProg
import Derived.DeepKeys4
import Derived.Lib.ItoaNum
import Derived.Lib.Atoi
import Derived.Test.YtplgbapbgcipdaaGreatDoorK04
import Derived.Test.YtplgbapbgcipdaaGreatDoorK06
import Derived.Lib.Walk
import Derived.Lib.Strings
import Derived.Lib.ItoaWalk
import Derived.Lib.Hide
import Derived.WalkKit
import Derived.BigCall
/-! A map that counts pairs: what it reads as, told by the list of what was counted. No program is in sight. -/
namespace Go.Proofs.YtplgbapbgcipdaaGreatDoor
open Go.Maps Go.WideMaps

/-- A pair of exponents as a value, and what it reads as, as a key. -/
def pairV (p : Nat × Nat) : Value := .agg #[.int .i64 p.1, .int .i64 p.2]
def kk (p : Nat × Nat) : Lit := .string (keyBytes [.int .i64 p.1, .int .i64 p.2])

/-- The datum of a map that has counted the list F. -/
structure CntD {H : Type} (F : List (Nat × Nat)) (D : DataW H) : Prop where
  isMap : IsMap D
  at_ : ∀ p, p.1 ≤ 300 → p.2 ≤ 300 → D.atKey (kk p) (.lit (.int .i64 0)) = .lit (.int .i64 (F.count p : Nat))
  has_ : ∀ kl, Maps.has D kl = true → ∃ p ∈ F, kl = kk p
  mem_ : ∀ p ∈ F, Maps.has D (kk p) = true

section
variable {H : Type} {P : Program} {k t e : TypeId} {w : World} {b n : Nat} {D : DataW H} {F : List (Nat × Nat)}

theorem CntD.nil : CntD (H := H) [] (.map []) := ⟨⟨[], rfl⟩, fun _ _ _ => rfl, fun kl h => by simp [Maps.has] at h, fun p hp => by cases hp⟩

theorem kk_inj (K : KeyLaw P k) (hk : ∀ p : Nat × Nat, p.1 ≤ 300 → p.2 ≤ 300 → keyOf P k (pairV p) = some (kk p)) {p q : Nat × Nat} (hp : p.1 ≤ 300 ∧ p.2 ≤ 300) (hq : q.1 ≤ 300 ∧ q.2 ≤ 300) (h : kk p = kk q) : p = q := by
  have h1 := hk p hp.1 hp.2
  have h2 := hk q hq.1 hq.2
  rw [h] at h1
  have := K.inj h1 h2
  simp [pairV] at this
  exact Prod.ext (by omega) (by omega)

theorem CntD.push (h : CntD F D) (K : KeyLaw P k) (hk : ∀ p : Nat × Nat, p.1 ≤ 300 → p.2 ≤ 300 → keyOf P k (pairV p) = some (kk p)) {q : Nat × Nat} (hq : q.1 ≤ 300 ∧ q.2 ≤ 300) :
    CntD (F ++ [q]) (D.put (kk q) (.lit (.int .i64 ((F.count q : Nat) + 1)))) := by
  have hkey : WideAt.IsKeyLit (kk q) := (Keyed.of_law K).key (hk q hq.1 hq.2)
  refine ⟨h.isMap.put _ _, fun p h1 h2 => ?_, fun kl hkl => ?_, fun p hp => ?_⟩
  · by_cases hpq : p = q
    · subst hpq
      rw [Maps.atKey_put_same h.isMap hkey, List.count_append, List.count_singleton_self]
      rfl
    · rw [Maps.atKey_put_other (fun hc => hpq (kk_inj K hk ⟨h1, h2⟩ hq hc)), h.at_ p h1 h2, List.count_append, List.count_singleton]
      have : (q == p) = false := by simpa using fun hc => hpq hc.symm
      rw [this]; rfl
  · by_cases hc : kl = kk q
    · exact ⟨q, by simp, hc⟩
    · rw [Maps.has_put_other hc] at hkl
      obtain ⟨p, hp, he⟩ := h.has_ kl hkl
      exact ⟨p, by simp [hp], he⟩
  · by_cases hc : kk p = kk q
    · rw [hc]; exact Maps.has_put_same h.isMap hkey _
    · rw [Maps.has_put_other hc]
      rcases List.mem_append.1 hp with hp | hp
      · exact h.mem_ p hp
      · rw [List.mem_singleton] at hp; subst hp; exact absurd rfl hc

theorem ok_inj {α : Type} {x y : α} {u v : World} (h : Result.ok x u = Result.ok y v) : u = v := by cases h; rfl
theorem lit_inj {q : IntKind} {x y : Int} (h : (DataW.lit (.int q x) : DataW H) = .lit (.int q y)) : x = y := by cases h; rfl
/-- An entry that is taken is as one that is stored with what it has. -/
theorem entry_same {R : Value → Option (DataW H × List MemPlace)} {es : Array MapEntry} {clock : Nat} (K : KeyLaw P k) (ht : P.underlying t = some (.map k e)) {z : Value} (hz : ∀ u : World, (zeroValue e).run P u = .ok z u) (hb : w.heap[b]? = some (.map es clock)) (F : WideElems.Fit P k R es clock)
    {key : Value} {kl : Lit} (hkey : keyOf P k key = some kl) {v0 : Value} {st : Nat} {es1 : Array MapEntry} {clock1 : Nat} (h1 : (Instr.mapEntry t (.map (some b)) key).run P w = .ok (.tuple #[v0, goInt st]) (ChangeMaps.setBlock w b (.map es1 clock1))) :
    (Instr.mapUpdate t (.map (some b)) key v0).run P w = .ok () (ChangeMaps.setBlock w b (.map es1 clock1)) := by
  rcases K.find w hkey es.toList F.keys with ⟨f1, f2⟩ | ⟨j, e0, f1, f2, f3⟩
  · have h2 : (Instr.mapEntry t (.map (some b)) key).run P w = .ok (.tuple #[z, goInt clock]) (ChangeMaps.setBlock w b (.map (es.push ⟨key, z, clock⟩) (clock + 1))) := by
      simp [Instr.mapEntry, run_underlying ht, MapKept.run_getObj_map hb, K.check w false hkey, f1, hz, MapKept.run_setObj_map _ hb, Result.andThen, ChangeMaps.setBlock]
    rw [h1] at h2
    injection h2 with h3 h4
    rw [h4]
    simp at h3
    rw [h3.1]
    simp [Instr.mapUpdate, run_underlying ht, MapKept.run_getObj_map hb, K.check w false hkey, f1, MapKept.run_setObj_map _ hb, Result.andThen, ChangeMaps.setBlock]
  · have hj : es[j]? = some e0 := by simpa using f2
    have hsame : es.modify j (fun e => { e with key := key }) = es := by
      apply Array.ext'
      rw [Array.toList_modify, ChangeMaps.modify_eq_set _ _ _ _ f2]
      have : ({ e0 with key := key } : MapEntry) = e0 := by rw [← f3]
      rw [this]
      exact WideElems.set_self _ _ _ f2
    have hsame2 : es.modify j (fun e' => { e' with key := key, val := e0.val }) = es := by
      apply Array.ext'
      rw [Array.toList_modify, ChangeMaps.modify_eq_set _ _ _ _ f2]
      have : ({ e0 with key := key, val := e0.val } : MapEntry) = e0 := by rw [← f3]
      rw [this]
      exact WideElems.set_self _ _ _ f2
    have h2 : (Instr.mapEntry t (.map (some b)) key).run P w = .ok (.tuple #[e0.val, goInt e0.born]) (ChangeMaps.setBlock w b (.map es clock)) := by
      simp [Instr.mapEntry, run_underlying ht, MapKept.run_getObj_map hb, K.check w false hkey, f1, hj, f3, K.stays w hkey, hsame, MapKept.run_setObj_map _ hb, Result.andThen, ChangeMaps.setBlock]
    rw [h1] at h2
    injection h2 with h3 h4
    rw [h4]
    simp at h3
    rw [h3.1]
    simp [Instr.mapUpdate, run_underlying ht, MapKept.run_getObj_map hb, K.check w false hkey, f1, hj, f3, K.stays w hkey, hsame2, MapKept.run_setObj_map _ hb, Result.andThen, ChangeMaps.setBlock]

/-- 'm[k]++': the entry is taken, and then stored. -/
theorem CntD.entry (hD : CntD F D) (h : w.ownsMap P k (plainElem P e) b n D) (K : KeyLaw P k) (hk : ∀ p : Nat × Nat, p.1 ≤ 300 → p.2 ≤ 300 → keyOf P k (pairV p) = some (kk p))
    (ht : P.underlying t = some (.map k e)) (he : P.underlying e = some (.int .i64)) (hz : ∀ u : World, (zeroValue e).run P u = .ok (.int .i64 0) u) (hn : n < 1000000) (hF : F.length < 1000000) {q : Nat × Nat} (hq : q.1 ≤ 300 ∧ q.2 ≤ 300) :
    ∃ (st : Nat) (w1 : World), (Instr.mapEntry t (.map (some b)) (pairV q)).run P w = .ok (.tuple #[.int .i64 (F.count q : Nat), goInt st]) w1 ∧ w.grownBy w1 (some b) ∧ w1.heap.size = w.heap.size ∧
      (Instr.lookup t (.map (some b)) (pairV q) false).run P w = .ok (.int .i64 (F.count q : Nat)) w ∧ (Instr.lookup t (.map (some b)) (pairV q) false).run P w1 = .ok (.int .i64 (F.count q : Nat)) w1 ∧
      ∀ w2 : World, w2.heap = w1.heap → ∃ w3, (Instr.entryStore t (.map (some b)) (goInt st) (.int .i64 ((F.count q : Nat) + 1))).run P w2 = .ok () w3 ∧
        w3.ownsMap P k (plainElem P e) b (n + 1) (D.put (kk q) (.lit (.int .i64 ((F.count q : Nat) + 1)))) ∧ w2.grownBy w3 (some b) ∧ w3.heap.size = w2.heap.size := by
  have hkey := hk q hq.1 hq.2
  have hc : F.count q < 1000000 := by have := List.count_le_length (a := q) (l := F); omega
  have hL : (Instr.lookup t (.map (some b)) (pairV q) false).run P w = .ok (.int .i64 (F.count q : Nat)) w := by
    obtain ⟨c, h1, h2, _⟩ := h.lookup_int (t := t) (Keyed.of_law K) ht he (hz w) hkey
    rw [hD.at_ q hq.1 hq.2] at h2
    simp at h2
    rw [h1, h2]
  obtain ⟨es, clock, hb, hFit, hs, hDe⟩ := h
  obtain ⟨v0, st, es1, clock1, h1, hv, h2⟩ := WideElems.entry_then_store K ht hz hb hFit hkey
  have hlook := Maps.fit_look false (Keyed.of_law K) ht (hz w) hb hFit hkey
  have hv0 : v0 = .int .i64 (F.count q : Nat) := by
    have hat := hD.at_ q hq.1 hq.2
    rw [hDe] at hat
    rcases hv with ⟨e0, hm, hke, rfl⟩ | ⟨hno, rfl⟩
    · rcases hlook with ⟨_, hno, _⟩ | ⟨e1, y, hm1, hke1, _, hR, hat1, _⟩
      · exact absurd hke (hno e0 hm)
      · have h01 : e0 = e1 := entry_eq_of_key ((MapKept.stamped_iff es clock).1 hFit.stamped).2.2 hm hm1 (hke.trans hke1.symm)
        subst h01
        rw [hat1] at hat
        obtain ⟨a, ha, hy, _⟩ := plainElem_int_inv he hR
        rw [hy] at hat
        simp at hat
        rw [ha, hat]
    · rcases hlook with ⟨_, _, hat1⟩ | ⟨e1, y, hm1, hke1, _⟩
      · rw [hat1] at hat
        simp at hat
        rw [← hat]
      · exact absurd hke1 (hno e1 hm1)
  subst hv0
  have hwf : (Lit.int .i64 ((F.count q : Nat) + 1)).wf = true := by simp [Lit.wf, IntKind.min, IntKind.max, IntKind.signed, IntKind.bits]; omega
  have hwf0 : (Lit.int .i64 ((F.count q : Nat) : Int)).wf = true := by simp [Lit.wf, IntKind.min, IntKind.max, IntKind.signed, IntKind.bits]; omega
  have hL1 : (Instr.lookup t (.map (some b)) (pairV q) false).run P (ChangeMaps.setBlock w b (.map es1 clock1)) = .ok (.int .i64 (F.count q : Nat)) (ChangeMaps.setBlock w b (.map es1 clock1)) := by
    have h5 := entry_same K ht hz hb hFit hkey h1
    obtain ⟨w5, h6, ho, _⟩ := World.ownsMap.update ⟨es, clock, hb, hFit, hs, hDe⟩ (Keyed.of_law K) ht (by unfold maxLen; omega) hkey (plainElem_int (H := H) he hwf0)
    rw [h5] at h6
    have h6 := ok_inj h6
    rw [← h6] at ho
    obtain ⟨c, g1, g2, _⟩ := ho.lookup_int (t := t) (Keyed.of_law K) ht he (hz _) hkey
    rw [Maps.atKey_put_same hD.isMap ((Keyed.of_law K).key hkey)] at g2
    have g2 := lit_inj g2
    rw [g1, ← g2]
  refine ⟨st, _, h1, ⟨rfl, rfl, rfl, by simp [ChangeMaps.setBlock], fun i _ hi => ChangeMaps.heap_setBlock_other hb _ (fun e => hi (by rw [e]))⟩, by simp [ChangeMaps.setBlock], hL, hL1, fun w2 hw2 => ?_⟩
  have hb2 : w2.heap[b]? = some (.map es1 clock1) := by rw [hw2]; exact ChangeMaps.heap_setBlock_same hb _
  obtain ⟨es', clock', h3, h4⟩ := h2 w2 (.int .i64 ((F.count q : Nat) + 1)) hb2
  obtain ⟨w4, h5, ho, hg⟩ := World.ownsMap.update (val := .int .i64 ((F.count q : Nat) + 1)) ⟨es, clock, hb, hFit, hs, hDe⟩ (Keyed.of_law K) ht (by unfold maxLen; omega) hkey (plainElem_int (H := H) he hwf)
  rw [h4] at h5
  injection h5 with h5 h6
  refine ⟨_, h3, ?_, ⟨rfl, rfl, rfl, by simp [ChangeMaps.setBlock], fun i _ hi => ChangeMaps.heap_setBlock_other hb2 _ (fun e => hi (by rw [e]))⟩, by simp [ChangeMaps.setBlock]⟩
  rw [← h6] at ho
  obtain ⟨es2, clock2, g1, g2, g3, g4⟩ := ho
  rw [ChangeMaps.heap_setBlock_same hb] at g1
  injection g1 with g1
  injection g1 with g1 g1'
  subst g1; subst g1'
  exact ⟨es', clock', ChangeMaps.heap_setBlock_same hb2 _, g2, g3, g4⟩

/-- The range's step over such a map. -/
theorem CntD.next {left : Lit → Bool} {cnt r : Nat} (hD : CntD F D) (hF : ∀ p ∈ F, p.1 ≤ 300 ∧ p.2 ≤ 300) (K : KeyLaw P k) (hk : ∀ p : Nat × Nat, p.1 ≤ 300 → p.2 ≤ 300 → keyOf P k (pairV p) = some (kk p)) (he : P.underlying e = some (.int .i64))
    (hl : ∀ kl, left kl = true → Maps.has D kl = true) (h : w.ranges P k (plainElem P e) b r n D left cnt) (ty : TypeId) :
    (cnt = 0 ∧ (∀ kl, left kl = false) ∧ (Instr.next (.pointer (some ⟨r, 0, none⟩)) false ty).run P w = .ok (.tuple #[.bool false]) w) ∨
    ∃ p w' cnt', p ∈ F ∧ left (kk p) = true ∧ (Instr.next (.pointer (some ⟨r, 0, none⟩)) false ty).run P w = .ok (.tuple #[.bool true, pairV p, .int .i64 (F.count p : Nat)]) w' ∧
      w'.ranges P k (plainElem P e) b r n D (fun x => left x && !x.sameKey (kk p)) cnt' ∧ cnt' < cnt ∧ w.grownBy w' (some r) ∧ w'.heap.size = w.heap.size ∧
      (Instr.entry (.pointer (some ⟨r, 0, none⟩))).run P w' = .ok (.tuple #[pairV p, .int .i64 (F.count p : Nat)]) w' := by
  rcases h.next (Keyed.of_law K) ty with h0 | ⟨key, v, kl, y, w', cnt', hkey, hlk, hR, hat, hrun, hrg, hlt, hg, hs, hen⟩
  · exact .inl h0
  · obtain ⟨p, hp, rfl⟩ := hD.has_ kl (hl kl hlk)
    obtain rfl : key = pairV p := K.inj hkey (hk p (hF p hp).1 (hF p hp).2)
    obtain ⟨a, rfl, hy, _⟩ := plainElem_int_inv he hR
    have h1 := hat (.lit (.int .i64 0))
    rw [hD.at_ p (hF p hp).1 (hF p hp).2, hy] at h1
    simp at h1
    subst h1
    exact .inr ⟨p, w', cnt', hp, hlk, hrun, hrg, hlt, hg, hs, hen⟩
end
end Go.Proofs.YtplgbapbgcipdaaGreatDoor

/-! slices.pdqsortCmpFunc at terms laid at this program (printed by the kit's lay-plain.mjs, turned to names by lay2tpl.py). -/
namespace Go.Proofs.YtplgbapbgcipdaaGreatDoor
open Go.Shelf
def laySortTm_ren : Go.Shelf.Ren := ⟨fun | 15 => 94 | 14 => 93 | 28 => 139 | 29 => 140 | 20 => 131 | 21 => 132 | 22 => 133 | 23 => 134 | 24 => 135 | 25 => 136 | 26 => 137 | 27 => 138 | 46 => 173 | 47 => 174 | 48 => 175 | 49 => 176 | 50 => 177 | 57 => 208 | n => n, fun | 22 => 35 | 24 => 72 | 25 => 80 | 3 => 3 | 39 => 119 | 0 => 0 | 53 => 166 | 55 => 168 | 4 => 4 | 46 => 159 | 45 => 158 | 50 => 163 | 5 => 5 | 9 => 9 | 66 => 200 | 70 => 204 | 76 => 233 | 77 => 46 | n => n, fun | n => n⟩
theorem laySortTm : Go.Proofs.SlLaysF0.n14 Tryz.prog laySortTm_ren := {
  mixed := by kernel_rfl
  f14 := ⟨Tryz.f93.name, by decide, Tryz.func93.trans (congrArg some (by kernel_rfl))⟩
  f15 := Tryz.func94.trans (congrArg some (by kernel_rfl))
  f20 := ⟨Tryz.f131.name, by decide, Tryz.func131.trans (congrArg some (by kernel_rfl))⟩
  f21 := ⟨Tryz.f132.name, by decide, Tryz.func132.trans (congrArg some (by kernel_rfl))⟩
  f22 := ⟨Tryz.f133.name, by decide, Tryz.func133.trans (congrArg some (by kernel_rfl))⟩
  f23 := ⟨Tryz.f134.name, by decide, Tryz.func134.trans (congrArg some (by kernel_rfl))⟩
  f24 := ⟨Tryz.f135.name, by decide, Tryz.func135.trans (congrArg some (by kernel_rfl))⟩
  f25 := ⟨Tryz.f136.name, by decide, Tryz.func136.trans (congrArg some (by kernel_rfl))⟩
  f26 := ⟨Tryz.f137.name, by decide, Tryz.func137.trans (congrArg some (by kernel_rfl))⟩
  f27 := ⟨Tryz.f138.name, by decide, Tryz.func138.trans (congrArg some (by kernel_rfl))⟩
  f28 := Tryz.func139.trans (congrArg some (by kernel_rfl))
  f29 := Tryz.func140.trans (congrArg some (by kernel_rfl))
  f46 := ⟨Tryz.f173.name, by decide, Tryz.func173.trans (congrArg some (by kernel_rfl))⟩
  f47 := Tryz.func174.trans (congrArg some (by kernel_rfl))
  f48 := Tryz.func175.trans (congrArg some (by kernel_rfl))
  f49 := ⟨Tryz.f176.name, by decide, Tryz.func176.trans (congrArg some (by kernel_rfl))⟩
  f50 := ⟨Tryz.f177.name, by decide, Tryz.func177.trans (congrArg some (by kernel_rfl))⟩
  f57 := ⟨Tryz.f208.name, by decide, Tryz.func208.trans (congrArg some (by kernel_rfl))⟩
  t0 := Tryz.underlying0
  a0 := Tryz.isAgg0
  z0 := Tryz.sizeOf0
  v0 := Tryz.zeroValue0
  t3 := Tryz.underlying3
  a3 := Tryz.isAgg3
  z3 := Tryz.sizeOf3
  v3 := Tryz.zeroValue3
  t4 := Tryz.underlying4
  a4 := Tryz.isAgg4
  z4 := Tryz.sizeOf4
  v4 := Tryz.zeroValue4
  t5 := Tryz.underlying5
  a5 := Tryz.isAgg5
  z5 := Tryz.sizeOf5
  v5 := Tryz.zeroValue5
  t9 := Tryz.underlying9
  a9 := Tryz.isAgg9
  z9 := Tryz.sizeOf9
  v9 := Tryz.zeroValue9
  t22 := Tryz.underlying35
  a22 := Tryz.isAgg35
  z22 := Tryz.sizeOf35
  v22 := Tryz.zeroValue35
  t25 := Tryz.underlying80
  a25 := Tryz.isAgg80
  z25 := Tryz.sizeOf80
  v25 := Tryz.zeroValue80
  t39 := Tryz.underlying119
  a39 := Tryz.isAgg119
  z39 := Tryz.sizeOf119
  v39 := Tryz.zeroValue119
  t45 := Tryz.underlying158
  a45 := Tryz.isAgg158
  z45 := Tryz.sizeOf158
  v45 := Tryz.zeroValue158
  t46 := Tryz.underlying159
  a46 := Tryz.isAgg159
  z46 := Tryz.sizeOf159
  v46 := Tryz.zeroValue159
  t50 := Tryz.underlying163
  a50 := Tryz.isAgg163
  z50 := Tryz.sizeOf163
  v50 := Tryz.zeroValue163
  t53 := Tryz.underlying166
  a53 := Tryz.isAgg166
  z53 := Tryz.sizeOf166
  v53 := Tryz.zeroValue166
  t55 := Tryz.underlying168
  a55 := Tryz.isAgg168
  z55 := Tryz.sizeOf168
  v55 := Tryz.zeroValue168
  t66 := Tryz.underlying200
  a66 := Tryz.isAgg200
  z66 := Tryz.sizeOf200
  v66 := Tryz.zeroValue200
  t70 := Tryz.underlying204
  a70 := Tryz.isAgg204
  z70 := Tryz.sizeOf204
  v70 := Tryz.zeroValue204
  t76 := Tryz.underlying233
  a76 := Tryz.isAgg233
  z76 := Tryz.sizeOf233
  v76 := Tryz.zeroValue233
  t77 := Tryz.underlying46
  a77 := Tryz.isAgg46
  z77 := Tryz.sizeOf46
  v77 := Tryz.zeroValue46 }
end Go.Proofs.YtplgbapbgcipdaaGreatDoor

/-! Pairs of ints as keys of a map. -/
namespace Go.Proofs.YtplgbapbgcipdaaGreatDoor
open Go.WideMaps
theorem laidKeys : laidOutB Tryz.prog = true := by kernel_rfl
theorem pairLaw : KeyLaw Tryz.prog 67 := deep_law_laid laidKeys (m := 2) (by omega) (of_decide_eq_true (by kernel_rfl)) (by kernel_rfl) (by kernel_rfl)
theorem cellsPair : Tryz.prog.cellsOf 67 = 2 := by kernel_rfl
theorem cellsOne : Tryz.prog.cellsOf 3 = 1 := by kernel_rfl
theorem keyPair : Tryz.prog.keyType 67 = true := by kernel_rfl
theorem sizeTypes : ∃ m, Tryz.prog.types.size = m + 1 := ⟨Tryz.prog.types.size - 1, by
  have h : 0 < Tryz.prog.types.size := of_decide_eq_true (by kernel_rfl)
  omega⟩
theorem keyOf_pair (p : Nat × Nat) (h1 : p.1 ≤ 300) (h2 : p.2 ≤ 300) : keyOf Tryz.prog 67 (pairV p) = some (kk p) := by
  have hw : ∀ n : Nat, n ≤ 300 → (Lit.int .i64 (n : Int)).wf = true := fun n h => by simp [Lit.wf, IntKind.min, IntKind.max, IntKind.signed, IntKind.bits]; omega
  have hf : (pairV p).formed Tryz.prog 67 = true := by simp [pairV, Value.formed, Tryz.underlying67, cellsPair]
  have hl : ∀ m, Tryz.prog.keyLits (m + 2) 67 [.int .i64 p.1, .int .i64 p.2] = some [.int .i64 p.1, .int .i64 p.2] := fun m => by
    simp [Program.keyLits, Tryz.underlying67, Tryz.underlying3, cellsPair, cellsOne, hw _ h1, hw _ h2, List.range_succ]
  obtain ⟨m, hm⟩ := sizeTypes
  unfold keyOf
  rw [Tryz.underlying67]
  simp only [keyPair, hf, Bool.and_self, if_true, hm]
  rw [show (pairV p).cells.toList = [.int .i64 p.1, .int .i64 p.2] from rfl, hl m]
  rfl
end Go.Proofs.YtplgbapbgcipdaaGreatDoor

/-! Texts of ints: their digits, their pieces, their reading. No program is in sight. -/
namespace Go.Proofs.YtplgbapbgcipdaaGreatDoor
open Go.Lib
section
/-- The byte of a digit. -/
def asc (d : Nat) : UInt8 := UInt8.ofNat (48 + d)
theorem asc_nat {d : Nat} (h : d < 10) : (asc d).toNat = 48 + d := by
  unfold asc; rw [UInt8.toNat_ofNat']; omega
/-- A numeral is its digits. -/
theorem dec_dig {n : Nat} (h : 0 < n) : decDigits n = (digB 10 n).reverse.map asc := by
  induction n using Nat.strongRecOn with
  | _ n ih =>
    rw [decDigits, digB_pos (by omega) h, List.reverse_cons, List.map_append]
    by_cases h1 : n < 10
    · rw [dif_pos h1, show n / 10 = 0 by omega, digB_zero, show n % 10 = n by omega]; rfl
    · rw [dif_neg h1, ih (n / 10) (by omega) (by omega)]; rfl
end
end Go.Proofs.YtplgbapbgcipdaaGreatDoor

/-! What a count of monomials gives behind the sort; the range's step over a map that counts. -/
namespace Go.Proofs.YtplgbapbgcipdaaGreatDoor
open Go.Maps Go.WideMaps
theorem count_cf {F : List (Nat × Nat)} : ∀ {L : List (Nat × Nat)}, L.Nodup → ∀ k, cfP (L.map fun p => (p, (F.count p : Int))) k = if k ∈ L then (F.count k : Int) else 0
  | [], _, k => by simp [cfP_nil]
  | p :: L, hn, k => by
    obtain ⟨h1, h2⟩ := List.nodup_cons.1 hn
    rw [List.map_cons, cfP_cons, count_cf h2 k]
    by_cases h : p = k
    · subst h
      rw [if_pos rfl, if_neg h1, if_pos (by simp)]
      simp
    · rw [if_neg h]
      have h3 : k ≠ p := fun hc => h hc.symm
      by_cases h4 : k ∈ L
      · rw [if_pos h4, if_pos (by simp [h4])]; simp
      · rw [if_neg h4, if_neg (by simp [h3, h4])]; simp
/-- The terms of a count, sorted, are the sum of the monomials. -/
theorem poly_done {F L : List (Nat × Nat)} (hn : L.Nodup) (hm : ∀ p, p ∈ L ↔ p ∈ F) {p' : List Tm} (hp : (L.map fun p => (p, (F.count p : Int))).Perm p') (hs : p'.Pairwise fun a b => abv b.1 a.1 = false) : p' = sumP F := by
  have hd : p'.Pairwise (fun a b => a.1 ≠ b.1) := (hp.pairwise_iff (fun {a b} h => Ne.symm h)).1 (List.pairwise_map.2 hn)
  refine canon_eq ⟨?_, fun a ha => ?_⟩ (sumP_canon F) fun k => ?_
  · exact (hs.and hd).imp fun {a b} h => by
      cases hc : abv a.1 b.1 with
      | true => rfl
      | false => exact absurd (abv_an hc h.1) h.2
  · obtain ⟨q, hq, rfl⟩ := List.mem_map.1 (hp.mem_iff.2 ha)
    have := List.count_pos_iff.2 ((hm q).1 hq)
    show ((F.count q : Nat) : Int) ≠ 0
    omega
  · rw [← cfP_perm hp, sumP_cf, count_cf hn]
    by_cases h : k ∈ L
    · rw [if_pos h]
    · rw [if_neg h, List.count_eq_zero_of_not_mem fun hc => h ((hm k).2 hc)]; rfl
section
variable {H : Type} {P : Program} (w : World) {ops : Array Oper} {rest : List Oper} {o : Oper} {a : Act} {Q : Exit → Act → World → Prop}
theorem wpList_next_cnt (hg : o.guard = none) (it : Operand) (hop : o.op = Op.next it false) {k e : TypeId} (K : KeyLaw P k) (hk : ∀ p : Nat × Nat, p.1 ≤ 300 → p.2 ≤ 300 → keyOf P k (pairV p) = some (kk p)) (he : P.underlying e = some (.int .i64)) {F : List (Nat × Nat)} (hF : ∀ p ∈ F, p.1 ≤ 300 ∧ p.2 ≤ 300)
    (b r n : Nat) (D : DataW H) (hD : CntD F D) (left : Lit → Bool) (hl : ∀ kl, left kl = true → Maps.has D kl = true) (cnt : Nat)
    (hit : a.eval it = .pointer (some ⟨r, 0, none⟩)) (h : w.ranges P k (plainElem P e) b r n D left cnt)
    (hDone : cnt = 0 → (∀ kl, left kl = false) → wpList P ops Q rest (a.put o.dst (.tuple #[.bool false])) w)
    (hMore : ∀ (p : Nat × Nat) (w' : World) (cnt' : Nat), p ∈ F → left (kk p) = true → w'.ranges P k (plainElem P e) b r n D (fun z => left z && !z.sameKey (kk p)) cnt' → cnt' < cnt →
      w.grownBy w' (some r) → w'.heap.size = w.heap.size → (Instr.entry (.pointer (some ⟨r, 0, none⟩))).run P w' = .ok (.tuple #[pairV p, .int .i64 (F.count p : Nat)]) w' → wpList P ops Q rest (a.put o.dst (.tuple #[.bool true, pairV p, .int .i64 (F.count p : Nat)])) w') :
    wpList P ops Q (o :: rest) a w := by
  refine wpList_plain hg fun K' hK' => ?_
  unfold Oper.wp
  rcases hD.next hF K hk he hl h o.type with ⟨h0, hl, hrun⟩ | ⟨p, w', cnt', hp, hlk, hrun, hrg, hlt, hgr, hsz, hen⟩
  · simp [execOp, hop, hit, hrun, Result.andThen]
    exact hK' _ _ (hDone h0 hl)
  · simp [execOp, hop, hit, hrun, Result.andThen]
    exact hK' _ _ (hMore p w' cnt' hp hlk hrg hlt hgr hsz hen)
end
theorem ownsMap_size {H : Type} {P : Program} {k : TypeId} {R : Value → Option (DataW H × List MemPlace)} {w : World} {b n : Nat} {D : DataW H} (h : w.ownsMap P k R b n D) : Maps.size D ≤ n := by
  obtain ⟨es, clock, _, _, hs, rfl⟩ := h
  show ((es.toList.map (WideElems.rg P k R)).foldr DataW.insert []).length ≤ n
  rw [length_sorted]
  simpa using hs
/-- The block of a map that nothing has written. -/
theorem ownsMap_below {H : Type} {P : Program} {k : TypeId} {R : Value → Option (DataW H × List MemPlace)} {w w' : World} {b n B : Nat} {D : DataW H} (h : w.ownsMap P k R b n D) (hb : b < B) (hB : RowKit.Below B w w') : w'.ownsMap P k R b n D := by
  obtain ⟨es, clock, h1, rest⟩ := h
  exact ⟨es, clock, (hB.block b hb).trans h1, rest⟩
theorem ranges_below {H : Type} {P : Program} {k : TypeId} {R : Value → Option (DataW H × List MemPlace)} {w w' : World} {b r n B : Nat} {D : DataW H} {left : Lit → Bool} {cnt : Nat} (h : w.ranges P k R b r n D left cnt) (hb : b < B) (hr : r < B) (hB : RowKit.Below B w w') : w'.ranges P k R b r n D left cnt := by
  obtain ⟨es, clock, since, seen, c0, h1, F, hs, hD, h2, rest⟩ := h
  exact ⟨es, clock, since, seen, c0, (hB.block b hb).trans h1, F, hs, hD, (hB.block r hr).trans h2, rest⟩
end Go.Proofs.YtplgbapbgcipdaaGreatDoor

/-! integer.Of at small numbers: the decimal digits. -/
namespace Go.Proofs.YtplgbapbgcipdaaGreatDoor
open Go.RowKit Go.Lib

/-- The decimal numeral. -/
def numS (i : Nat) : ByteArray := ⟨(Lib.decDigits i).toArray⟩
theorem ba_eq (b : ByteArray) (l : List UInt8) (h : b.data.toList = l) : b = ⟨l.toArray⟩ := by
  cases b with
  | mk d => simp at h; rw [← h]
set_option maxHeartbeats 2000000 in
set_option maxRecDepth 100000 in
theorem small_any (i : Nat) (h : i < 100) (w : World) :
    Calls Tryz.prog 201 #[.int .i64 i] w fun e w' => e = .returned (.string (numS i)) ∧ w' = w := by
  go_enter Tryz.func201, Tryz.ntmps201
  go_name_bytes_deep 45 SM hSM
  have eSM : SM = Lib.smalls := by rw [← hSM]; decide +kernel
  subst eSM
  clear hSM
  go_name_bytes_deep 30 DG hDG
  have eDG : DG = Lib.digits36 := by rw [← hDG]; decide +kernel
  subst eDG
  clear hDG
  by_cases h10 : i < 10
  · have hsl : ∀ w, (Instr.slice 9 (.string Lib.digits36) (some (.int .i64 (i : Int))) (some (.int .i64 ((i : Int) + 1))) none).run Tryz.prog w = .ok (.string (Lib.digits36.extract i (i + 1))) w := fun w => by
      rw [run_slice_string w 9 Lib.digits36 .i64 .i64 _ _ Tryz.underlying9 (by omega) (by omega) (by rw [Lib.digits36_size]; omega), show ((i : Int)).toNat = i by omega, show ((i : Int) + 1).toNat = i + 1 by omega]
    go_wp2
    go_ret
    refine ⟨?_, rfl⟩
    show Ending.returned (Value.string (Lib.digits36.extract i (i + 1))) = _
    rw [numS, ← ba_eq _ (Lib.decDigits i) (by rw [Lib.extract_data]; exact Lib.digits36_piece h10)]
  · have hsl : ∀ w, (Instr.slice 9 (.string Lib.smalls) (some (.int .i64 ((i : Int) * 2))) (some (.int .i64 ((i : Int) * 2 + 2))) none).run Tryz.prog w = .ok (.string (Lib.smalls.extract (i * 2) (i * 2 + 2))) w := fun w => by
      rw [run_slice_string w 9 Lib.smalls .i64 .i64 _ _ Tryz.underlying9 (by omega) (by omega) (by rw [Lib.smalls_size]; omega), show ((i : Int) * 2).toNat = i * 2 by omega, show ((i : Int) * 2 + 2).toNat = i * 2 + 2 by omega]
    go_wp2
    go_ret
    refine ⟨?_, rfl⟩
    show Ending.returned (Value.string (Lib.smalls.extract (i * 2) (i * 2 + 2))) = _
    rw [numS, ← ba_eq _ (Lib.decDigits i) (by rw [Lib.extract_data]; exact Lib.smalls_piece h10 h)]
set_option maxHeartbeats 1000000 in
theorem formatInt_any (i : Nat) (h : i < 100) (w : World) :
    Calls Tryz.prog 158 #[.int .i64 i, .int .i64 10] w fun e w' => e = .returned (.string (numS i)) ∧ w' = w := by
  have SC := Lib.hid (small_any i h)
  have h0 : (0 : Int) ≤ (i : Int) := by omega
  have h1 : (i : Int) < 100 := by omega
  have h2 : decide ((i : Int) < 100) = true := decide_eq_true h1
  go_enter Tryz.func158, Tryz.ntmps158
  go_wp2_with fail
  refine (SC.out _).mono ?_
  rintro e w' ⟨rfl, rfl⟩
  go_wp2
  go_ret
  exact ⟨rfl, rfl⟩
set_option maxHeartbeats 1000000 in
theorem itoaI_any (i : Nat) (h : i < 100) (w : World) :
    Calls Tryz.prog 121 #[.int .i64 i] w fun e w' => e = .returned (.string (numS i)) ∧ w' = w := by
  have SC := Lib.hid (formatInt_any i h)
  go_enter Tryz.func121, Tryz.ntmps121
  go_wp2_with fail
  refine (SC.out _).mono ?_
  rintro e w' ⟨rfl, rfl⟩
  go_wp2
  go_ret
  exact ⟨rfl, rfl⟩
set_option maxHeartbeats 1000000 in
theorem itoa_any (i : Nat) (h : i < 100) (w : World) :
    Calls Tryz.prog 77 #[.int .i64 i] w fun e w' => e = .returned (.string (numS i)) ∧ w' = w := by
  have SC := Lib.hid (itoaI_any i h)
  go_enter Tryz.func77, Tryz.ntmps77
  go_wp2_with fail
  refine (SC.out _).mono ?_
  rintro e w' ⟨rfl, rfl⟩
  go_wp2
  go_ret
  exact ⟨rfl, rfl⟩
set_option maxHeartbeats 1000000 in
theorem intOf_any (i : Nat) (h : i < 100) (w : World) :
    Calls Tryz.prog 37 #[.int .i64 i] w fun e w' => e = .returned (.string (numS i)) ∧ w' = w := by
  have SC := Lib.hid (itoa_any i h)
  go_enter Tryz.func37, Tryz.ntmps37
  go_wp2_with fail
  refine (SC.out _).mono ?_
  rintro e w' ⟨rfl, rfl⟩
  go_wp2
  go_ret
  exact ⟨rfl, rfl⟩
end Go.Proofs.YtplgbapbgcipdaaGreatDoor

