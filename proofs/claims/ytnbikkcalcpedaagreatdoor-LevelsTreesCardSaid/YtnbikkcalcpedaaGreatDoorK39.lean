/-
 Texts of this claim, put together: CntM, LayTerm, LayBld, LayItoa, LayTrim, LayPu, PolyK, DecT, PolyD, IntOf, Term, Card31.
-/
import Derived.Maps.RangeWalk
import Derived.WideKeyEntry
import Derived.Shelf.SlSortCmp.WholeK
import Derived.Test.YtnbikkcalcpedaaGreatDoorProg
import Derived.Shelf.Strings.Builder1
import Derived.Shelf.Strconv.Itoa3
import Derived.Shelf.Strings.Prefix
import Derived.Shelf.Pu.ParseUintPublic10
import Derived.DeepKeys4
import Derived.Lib.ItoaNum
import Derived.Lib.Atoi
import Derived.Test.YtnbikkcalcpedaaGreatDoorK02
import Derived.Test.YtnbikkcalcpedaaGreatDoorK03
import Derived.Lib.Walk
import Derived.Lib.Strings
import Derived.Lib.ItoaWalk
import Derived.Lib.Hide
import Derived.WalkKit
import Derived.BigCall
import Derived.Test.YtnbikkcalcpedaaGreatDoorK08
import Derived.Test.YtnbikkcalcpedaaGreatDoorCards
import Derived.Test.YtnbikkcalcpedaaGreatDoorTie
import Derived.ProofKit
import Derived.OpenShut
import Derived.Deep.DeepHandedRow
import Derived.Lib.LaidTab
namespace Go.Proofs.YtnbikkcalcpedaaGreatDoor
open Go.Maps Go.WideMaps
def pairV (p : Nat × Nat) : Value := .agg #[.int .i64 p.1, .int .i64 p.2]
def kk (p : Nat × Nat) : Lit := .string (keyBytes [.int .i64 p.1, .int .i64 p.2])
structure CntD {H : Type} (F : List (Nat × Nat)) (D : DataW H) : Prop where
 isMap : IsMap D
 at_ : ∀ p, p.1 ≤ 300 → p.2 ≤ 300 → D.atKey (kk p) (.lit (.int .i64 0)) = .lit (.int .i64 (F.count p : Nat))
 has_ : ∀ kl, Maps.has D kl = true → ∃ p ∈ F, kl = kk p
 mem_ : ∀ p ∈ F, Maps.has D (kk p) = true
section
variable {H : Type} {P : Program} {k t e : TypeId} {w : World} {b n : Nat} {D : DataW H} {F : List (Nat × Nat)}
theorem CntD.nil : CntD (H := H) [] (.map []) := ⟨⟨[], rfl⟩, fun _ _ _ => rfl, fun kl h => by simp [Maps.has] at h, fun p hp => by cases hp⟩
theorem kk_inj (K : KeyLaw P k) (hk : ∀ p : Nat × Nat, p.1 ≤ 300 → p.2 ≤ 300 → keyOf P k (pairV p) = some (kk p)) {p q : Nat × Nat} (hp : p.1 ≤ 300 ∧ p.2 ≤ 300) (hq : q.1 ≤ 300 ∧ q.2 ≤ 300) (h : kk p = kk q) : p = q := by
 have h1 := hk p hp.1 hp.2
 have h2 := hk q hq.1 hq.2
 rw [h] at h1
 have := K.inj h1 h2
 simp [pairV] at this
 exact Prod.ext (by omega) (by omega)
theorem CntD.push (h : CntD F D) (K : KeyLaw P k) (hk : ∀ p : Nat × Nat, p.1 ≤ 300 → p.2 ≤ 300 → keyOf P k (pairV p) = some (kk p)) {q : Nat × Nat} (hq : q.1 ≤ 300 ∧ q.2 ≤ 300) :
  CntD (F ++ [q]) (D.put (kk q) (.lit (.int .i64 ((F.count q : Nat) + 1)))) := by
 have hkey : WideAt.IsKeyLit (kk q) := (Keyed.of_law K).key (hk q hq.1 hq.2)
 refine ⟨h.isMap.put _ _, fun p h1 h2 => ?_, fun kl hkl => ?_, fun p hp => ?_⟩
 ·by_cases hpq : p = q
  ·subst hpq
   rw [Maps.atKey_put_same h.isMap hkey, List.count_append, List.count_singleton_self]
   rfl
  ·rw [Maps.atKey_put_other (fun hc => hpq (kk_inj K hk ⟨h1, h2⟩ hq hc)), h.at_ p h1 h2, List.count_append, List.count_singleton]
   have : (q == p) = false := by simpa using fun hc => hpq hc.symm
   rw [this]; rfl
 ·by_cases hc : kl = kk q
  ·exact ⟨q, by simp, hc⟩
  ·rw [Maps.has_put_other hc] at hkl
   obtain ⟨p, hp, he⟩ := h.has_ kl hkl
   exact ⟨p, by simp [hp], he⟩
 ·by_cases hc : kk p = kk q
  ·rw [hc]; exact Maps.has_put_same h.isMap hkey _
  ·rw [Maps.has_put_other hc]
   rcases List.mem_append.1 hp with hp | hp
   ·exact h.mem_ p hp
   ·rw [List.mem_singleton] at hp; subst hp; exact absurd rfl hc
theorem ok_inj {α : Type} {x y : α} {u v : World} (h : Result.ok x u = Result.ok y v) : u = v := by cases h; rfl
theorem lit_inj {q : IntKind} {x y : Int} (h : (DataW.lit (.int q x) : DataW H) = .lit (.int q y)) : x = y := by cases h; rfl
theorem entry_same {R : Value → Option (DataW H × List MemPlace)} {es : Array MapEntry} {clock : Nat} (K : KeyLaw P k) (ht : P.underlying t = some (.map k e)) {z : Value} (hz : ∀ u : World, (zeroValue e).run P u = .ok z u) (hb : w.heap[b]? = some (.map es clock)) (F : WideElems.Fit P k R es clock)
  {key : Value} {kl : Lit} (hkey : keyOf P k key = some kl) {v0 : Value} {st : Nat} {es1 : Array MapEntry} {clock1 : Nat} (h1 : (Instr.mapEntry t (.map (some b)) key).run P w = .ok (.tuple #[v0, goInt st]) (ChangeMaps.setBlock w b (.map es1 clock1))) :
  (Instr.mapUpdate t (.map (some b)) key v0).run P w = .ok () (ChangeMaps.setBlock w b (.map es1 clock1)) := by
 rcases K.find w hkey es.toList F.keys with ⟨f1, f2⟩ | ⟨j, e0, f1, f2, f3⟩
 ·have h2 : (Instr.mapEntry t (.map (some b)) key).run P w = .ok (.tuple #[z, goInt clock]) (ChangeMaps.setBlock w b (.map (es.push ⟨key, z, clock⟩) (clock + 1))) := by
   simp [Instr.mapEntry, run_underlying ht, MapKept.run_getObj_map hb, K.check w false hkey, f1, hz, MapKept.run_setObj_map _ hb, Result.andThen, ChangeMaps.setBlock]
  rw [h1] at h2
  injection h2 with h3 h4
  rw [h4]
  simp at h3
  rw [h3.1]
  simp [Instr.mapUpdate, run_underlying ht, MapKept.run_getObj_map hb, K.check w false hkey, f1, MapKept.run_setObj_map _ hb, Result.andThen, ChangeMaps.setBlock]
 ·have hj : es[j]? = some e0 := by simpa using f2
  have hsame : es.modify j (fun e => { e with key := key }) = es := by
   apply Array.ext'
   rw [Array.toList_modify, ChangeMaps.modify_eq_set _ _ _ _ f2]
   have : ({ e0 with key := key } : MapEntry) = e0 := by rw [← f3]
   rw [this]
   exact WideElems.set_self _ _ _ f2
  have hsame2 : es.modify j (fun e' => { e' with key := key, val := e0.val }) = es := by
   apply Array.ext'
   rw [Array.toList_modify, ChangeMaps.modify_eq_set _ _ _ _ f2]
   have : ({ e0 with key := key, val := e0.val } : MapEntry) = e0 := by rw [← f3]
   rw [this]
   exact WideElems.set_self _ _ _ f2
  have h2 : (Instr.mapEntry t (.map (some b)) key).run P w = .ok (.tuple #[e0.val, goInt e0.born]) (ChangeMaps.setBlock w b (.map es clock)) := by
   simp [Instr.mapEntry, run_underlying ht, MapKept.run_getObj_map hb, K.check w false hkey, f1, hj, f3, K.stays w hkey, hsame, MapKept.run_setObj_map _ hb, Result.andThen, ChangeMaps.setBlock]
  rw [h1] at h2
  injection h2 with h3 h4
  rw [h4]
  simp at h3
  rw [h3.1]
  simp [Instr.mapUpdate, run_underlying ht, MapKept.run_getObj_map hb, K.check w false hkey, f1, hj, f3, K.stays w hkey, hsame2, MapKept.run_setObj_map _ hb, Result.andThen, ChangeMaps.setBlock]
theorem CntD.entry (hD : CntD F D) (h : w.ownsMap P k (plainElem P e) b n D) (K : KeyLaw P k) (hk : ∀ p : Nat × Nat, p.1 ≤ 300 → p.2 ≤ 300 → keyOf P k (pairV p) = some (kk p))
  (ht : P.underlying t = some (.map k e)) (he : P.underlying e = some (.int .i64)) (hz : ∀ u : World, (zeroValue e).run P u = .ok (.int .i64 0) u) (hn : n < 1000000) (hF : F.length < 1000000) {q : Nat × Nat} (hq : q.1 ≤ 300 ∧ q.2 ≤ 300) :
  ∃ (st : Nat) (w1 : World), (Instr.mapEntry t (.map (some b)) (pairV q)).run P w = .ok (.tuple #[.int .i64 (F.count q : Nat), goInt st]) w1 ∧ w.grownBy w1 (some b) ∧ w1.heap.size = w.heap.size ∧
    (Instr.lookup t (.map (some b)) (pairV q) false).run P w = .ok (.int .i64 (F.count q : Nat)) w ∧ (Instr.lookup t (.map (some b)) (pairV q) false).run P w1 = .ok (.int .i64 (F.count q : Nat)) w1 ∧
    ∀ w2 : World, w2.heap = w1.heap → ∃ w3, (Instr.entryStore t (.map (some b)) (goInt st) (.int .i64 ((F.count q : Nat) + 1))).run P w2 = .ok () w3 ∧
      w3.ownsMap P k (plainElem P e) b (n + 1) (D.put (kk q) (.lit (.int .i64 ((F.count q : Nat) + 1)))) ∧ w2.grownBy w3 (some b) ∧ w3.heap.size = w2.heap.size := by
 have hkey := hk q hq.1 hq.2
 have hc : F.count q < 1000000 := by have := List.count_le_length (a := q) (l := F); omega
 have hL : (Instr.lookup t (.map (some b)) (pairV q) false).run P w = .ok (.int .i64 (F.count q : Nat)) w := by
  obtain ⟨c, h1, h2, _⟩ := h.lookup_int (t := t) (Keyed.of_law K) ht he (hz w) hkey
  rw [hD.at_ q hq.1 hq.2] at h2
  simp at h2
  rw [h1, h2]
 obtain ⟨es, clock, hb, hFit, hs, hDe⟩ := h
 obtain ⟨v0, st, es1, clock1, h1, hv, h2⟩ := WideElems.entry_then_store K ht hz hb hFit hkey
 have hlook := Maps.fit_look false (Keyed.of_law K) ht (hz w) hb hFit hkey
 have hv0 : v0 = .int .i64 (F.count q : Nat) := by
  have hat := hD.at_ q hq.1 hq.2
  rw [hDe] at hat
  rcases hv with ⟨e0, hm, hke, rfl⟩ | ⟨hno, rfl⟩
  ·rcases hlook with ⟨_, hno, _⟩ | ⟨e1, y, hm1, hke1, _, hR, hat1, _⟩
   ·exact absurd hke (hno e0 hm)
   ·have h01 : e0 = e1 := entry_eq_of_key ((MapKept.stamped_iff es clock).1 hFit.stamped).2.2 hm hm1 (hke.trans hke1.symm)
    subst h01
    rw [hat1] at hat
    obtain ⟨a, ha, hy, _⟩ := plainElem_int_inv he hR
    rw [hy] at hat
    simp at hat
    rw [ha, hat]
  ·rcases hlook with ⟨_, _, hat1⟩ | ⟨e1, y, hm1, hke1, _⟩
   ·rw [hat1] at hat
    simp at hat
    rw [← hat]
   ·exact absurd hke1 (hno e1 hm1)
 subst hv0
 have hwf : (Lit.int .i64 ((F.count q : Nat) + 1)).wf = true := by simp [Lit.wf, IntKind.min, IntKind.max, IntKind.signed, IntKind.bits]; omega
 have hwf0 : (Lit.int .i64 ((F.count q : Nat) : Int)).wf = true := by simp [Lit.wf, IntKind.min, IntKind.max, IntKind.signed, IntKind.bits]; omega
 have hL1 : (Instr.lookup t (.map (some b)) (pairV q) false).run P (ChangeMaps.setBlock w b (.map es1 clock1)) = .ok (.int .i64 (F.count q : Nat)) (ChangeMaps.setBlock w b (.map es1 clock1)) := by
  have h5 := entry_same K ht hz hb hFit hkey h1
  obtain ⟨w5, h6, ho, _⟩ := World.ownsMap.update ⟨es, clock, hb, hFit, hs, hDe⟩ (Keyed.of_law K) ht (by unfold maxLen; omega) hkey (plainElem_int (H := H) he hwf0)
  rw [h5] at h6
  have h6 := ok_inj h6
  rw [← h6] at ho
  obtain ⟨c, g1, g2, _⟩ := ho.lookup_int (t := t) (Keyed.of_law K) ht he (hz _) hkey
  rw [Maps.atKey_put_same hD.isMap ((Keyed.of_law K).key hkey)] at g2
  have g2 := lit_inj g2
  rw [g1, ← g2]
 refine ⟨st, _, h1, ⟨rfl, rfl, rfl, by simp [ChangeMaps.setBlock], fun i _ hi => ChangeMaps.heap_setBlock_other hb _ (fun e => hi (by rw [e]))⟩, by simp [ChangeMaps.setBlock], hL, hL1, fun w2 hw2 => ?_⟩
 have hb2 : w2.heap[b]? = some (.map es1 clock1) := by rw [hw2]; exact ChangeMaps.heap_setBlock_same hb _
 obtain ⟨es', clock', h3, h4⟩ := h2 w2 (.int .i64 ((F.count q : Nat) + 1)) hb2
 obtain ⟨w4, h5, ho, hg⟩ := World.ownsMap.update (val := .int .i64 ((F.count q : Nat) + 1)) ⟨es, clock, hb, hFit, hs, hDe⟩ (Keyed.of_law K) ht (by unfold maxLen; omega) hkey (plainElem_int (H := H) he hwf)
 rw [h4] at h5
 injection h5 with h5 h6
 refine ⟨_, h3, ?_, ⟨rfl, rfl, rfl, by simp [ChangeMaps.setBlock], fun i _ hi => ChangeMaps.heap_setBlock_other hb2 _ (fun e => hi (by rw [e]))⟩, by simp [ChangeMaps.setBlock]⟩
 rw [← h6] at ho
 obtain ⟨es2, clock2, g1, g2, g3, g4⟩ := ho
 rw [ChangeMaps.heap_setBlock_same hb] at g1
 injection g1 with g1
 injection g1 with g1 g1'
 subst g1; subst g1'
 exact ⟨es', clock', ChangeMaps.heap_setBlock_same hb2 _, g2, g3, g4⟩
theorem CntD.next {left : Lit → Bool} {cnt r : Nat} (hD : CntD F D) (hF : ∀ p ∈ F, p.1 ≤ 300 ∧ p.2 ≤ 300) (K : KeyLaw P k) (hk : ∀ p : Nat × Nat, p.1 ≤ 300 → p.2 ≤ 300 → keyOf P k (pairV p) = some (kk p)) (he : P.underlying e = some (.int .i64))
  (hl : ∀ kl, left kl = true → Maps.has D kl = true) (h : w.ranges P k (plainElem P e) b r n D left cnt) (ty : TypeId) :
  (cnt = 0 ∧ (∀ kl, left kl = false) ∧ (Instr.next (.pointer (some ⟨r, 0, none⟩)) false ty).run P w = .ok (.tuple #[.bool false]) w) ∨
  ∃ p w' cnt', p ∈ F ∧ left (kk p) = true ∧ (Instr.next (.pointer (some ⟨r, 0, none⟩)) false ty).run P w = .ok (.tuple #[.bool true, pairV p, .int .i64 (F.count p : Nat)]) w' ∧
    w'.ranges P k (plainElem P e) b r n D (fun x => left x && !x.sameKey (kk p)) cnt' ∧ cnt' < cnt ∧ w.grownBy w' (some r) ∧ w'.heap.size = w.heap.size ∧
    (Instr.entry (.pointer (some ⟨r, 0, none⟩))).run P w' = .ok (.tuple #[pairV p, .int .i64 (F.count p : Nat)]) w' := by
 rcases h.next (Keyed.of_law K) ty with h0 | ⟨key, v, kl, y, w', cnt', hkey, hlk, hR, hat, hrun, hrg, hlt, hg, hs, hen⟩
 ·exact .inl h0
 ·obtain ⟨p, hp, rfl⟩ := hD.has_ kl (hl kl hlk)
  obtain rfl : key = pairV p := K.inj hkey (hk p (hF p hp).1 (hF p hp).2)
  obtain ⟨a, rfl, hy, _⟩ := plainElem_int_inv he hR
  have h1 := hat (.lit (.int .i64 0))
  rw [hD.at_ p (hF p hp).1 (hF p hp).2, hy] at h1
  simp at h1
  subst h1
  exact .inr ⟨p, w', cnt', hp, hlk, hrun, hrg, hlt, hg, hs, hen⟩
end
end Go.Proofs.YtnbikkcalcpedaaGreatDoor
namespace Go.Proofs.YtnbikkcalcpedaaGreatDoor
open Go.Shelf
end Go.Proofs.YtnbikkcalcpedaaGreatDoor
namespace Go.Proofs.YtnbikkcalcpedaaGreatDoor
open Go.Shelf Go.RowKit
set_option linter.unusedVariables false
def lay_lays166_ren : Go.Shelf.Ren := ⟨fun | 166 => 318 | 240 => 343 | 276 => 353 | n => n, fun | 0 => 0 | 3 => 3 | 4 => 4 | 9 => 9 | 20 => 20 | 37 => 169 | 70 => 347 | 72 => 349 | 75 => 326 | 164 => 383 | 5 => 5 | 80 => 282 | n => n, fun | n => n⟩
theorem lay_lays166 : Go.Proofs.Lays.n166 Tryz.prog lay_lays166_ren := {
 mixed := by kernel_rfl
 f166 := Tryz.func318.trans (congrArg some (by kernel_rfl))
 f240 := Tryz.func343.trans (congrArg some (by kernel_rfl))
 f276 := Tryz.func353.trans (congrArg some (by kernel_rfl))
 t0 := Tryz.underlying0
 a0 := Tryz.isAgg0
 z0 := Tryz.sizeOf0
 v0 := Tryz.zeroValue0
 t3 := Tryz.underlying3
 a3 := Tryz.isAgg3
 z3 := Tryz.sizeOf3
 v3 := Tryz.zeroValue3
 t4 := Tryz.underlying4
 a4 := Tryz.isAgg4
 z4 := Tryz.sizeOf4
 v4 := Tryz.zeroValue4
 t9 := Tryz.underlying9
 a9 := Tryz.isAgg9
 z9 := Tryz.sizeOf9
 v9 := Tryz.zeroValue9
 t20 := Tryz.underlying20
 a20 := Tryz.isAgg20
 z20 := Tryz.sizeOf20
 v20 := Tryz.zeroValue20
 t37 := Tryz.underlying169
 a37 := Tryz.isAgg169
 z37 := Tryz.sizeOf169
 v37 := Tryz.zeroValue169
 t70 := Tryz.underlying347
 a70 := Tryz.isAgg347
 z70 := Tryz.sizeOf347
 v70 := Tryz.zeroValue347
 t72 := Tryz.underlying349
 a72 := Tryz.isAgg349
 z72 := Tryz.sizeOf349
 v72 := Tryz.zeroValue349
 t75 := Tryz.underlying326
 a75 := Tryz.isAgg326
 z75 := Tryz.sizeOf326
 v75 := Tryz.zeroValue326
 t164 := Tryz.underlying383
 a164 := Tryz.isAgg383
 z164 := Tryz.sizeOf383
 v164 := Tryz.zeroValue383 }
theorem lay_Builder_Extra_166 : Builder.Extra Tryz.prog lay_lays166_ren := {
 sizeBuilder := by kernel_rfl
 liesBuilder := by kernel_rfl
 t5 := Tryz.underlying5
 a5 := Tryz.isAgg5
 z5 := Tryz.sizeOf5
 v5 := Tryz.zeroValue5
 infoByte := by kernel_rfl
 cellsByte := by kernel_rfl
 sizeByte := by kernel_rfl
 neB5 := by decide }
open Go.RowKit in
theorem lay_Builder_WriteString (B b : Nat) (bs : List Value) (s : ByteArray) (w : World) (h : Lib.IsBuilder 349 5 B b bs w) (hlen : bs.length + s.size ≤ 140737488355328) (hBw : B ≤ w.heap.size) :
  Calls Tryz.prog 318 #[.pointer (some ⟨b, 0, none⟩), .string s] w fun e w' => e = .returned (.tuple #[.int .i64 s.size, .nilIface]) ∧ (Lib.BuilderAt 349 5 B b (.pointer (some ⟨b, 0, none⟩)) (bs ++ Lib.strCells s) w' ∧ Below B w w') := Any.Builder_WriteString lay_lays166 lay_Builder_Extra_166 B b bs s w h hlen hBw
def lay_lays169_ren : Go.Shelf.Ren := ⟨fun | 169 => 320 | n => n, fun | 70 => 347 | 9 => 9 | 0 => 0 | 72 => 349 | 37 => 169 | 127 => 371 | 3 => 3 | 5 => 5 | n => n, fun | n => n⟩
theorem lay_lays169 : Go.Proofs.Lays.n169 Tryz.prog lay_lays169_ren := {
 mixed := by kernel_rfl
 f169 := Tryz.func320.trans (congrArg some (by kernel_rfl))
 t0 := Tryz.underlying0
 a0 := Tryz.isAgg0
 z0 := Tryz.sizeOf0
 v0 := Tryz.zeroValue0
 t3 := Tryz.underlying3
 a3 := Tryz.isAgg3
 z3 := Tryz.sizeOf3
 v3 := Tryz.zeroValue3
 t9 := Tryz.underlying9
 a9 := Tryz.isAgg9
 z9 := Tryz.sizeOf9
 v9 := Tryz.zeroValue9
 t37 := Tryz.underlying169
 a37 := Tryz.isAgg169
 z37 := Tryz.sizeOf169
 v37 := Tryz.zeroValue169
 t70 := Tryz.underlying347
 a70 := Tryz.isAgg347
 z70 := Tryz.sizeOf347
 v70 := Tryz.zeroValue347
 t72 := Tryz.underlying349
 a72 := Tryz.isAgg349
 z72 := Tryz.sizeOf349
 v72 := Tryz.zeroValue349
 t127 := Tryz.underlying371
 a127 := Tryz.isAgg371
 z127 := Tryz.sizeOf371
 v127 := Tryz.zeroValue371 }
theorem lay_Builder_Extra_169 : Builder.Extra Tryz.prog lay_lays169_ren := {
 sizeBuilder := by kernel_rfl
 liesBuilder := by kernel_rfl
 t5 := Tryz.underlying5
 a5 := Tryz.isAgg5
 z5 := Tryz.sizeOf5
 v5 := Tryz.zeroValue5
 infoByte := by kernel_rfl
 cellsByte := by kernel_rfl
 sizeByte := by kernel_rfl
 neB5 := by decide }
theorem lay_Builder_String (B b : Nat) (l : List UInt8) (w : World) (h : Lib.IsBuilder 349 5 B b (Lib.byteCells l) w) (h0 : l ≠ []) :
  Calls Tryz.prog 320 #[.pointer (some ⟨b, 0, none⟩)] w fun e w' => e = .returned (.string ⟨l.toArray⟩) ∧ Below B w w' := Any.Builder_String lay_lays169 lay_Builder_Extra_169 B b l w h h0
end Go.Proofs.YtnbikkcalcpedaaGreatDoor
namespace Go.Proofs.YtnbikkcalcpedaaGreatDoor
open Go.Shelf Go.RowKit Go.Sort
set_option linter.unusedVariables false
def lay_laysM171_ren : Go.Shelf.Ren := ⟨fun | 171 => 67 | 243 => 127 | 246 => 184 | 283 => 239 | 284 => 240 | 285 => 241 | 286 => 242 | 129 => 177 | 317 => 292 | 318 => 293 | 319 => 294 | 320 => 295 | 337 => 322 | 338 => 323 | n => n, fun | 3 => 3 | 9 => 9 | 2 => 2 | 4 => 4 | 171 => 286 | 0 => 0 | 53 => 211 | 37 => 169 | 5 => 5 | 173 => 288 | 212 => 331 | 51 => 209 | 20 => 20 | 213 => 332 | 46 => 161 | 232 => 372 | 233 => 373 | n => n, fun | 17 => 0 | 18 => 1 | 19 => 2 | n => n⟩
theorem lay_laysM171 : Go.Proofs.LaysM.n171 Tryz.prog lay_laysM171_ren := {
 mixed := by kernel_rfl
 f129 := Tryz.func177.trans (congrArg some (by kernel_rfl))
 f171 := Tryz.func67.trans (congrArg some (by kernel_rfl))
 f243 := Tryz.func127.trans (congrArg some (by kernel_rfl))
 f246 := Tryz.func184.trans (congrArg some (by kernel_rfl))
 f283 := Tryz.func239.trans (congrArg some (by kernel_rfl))
 f284 := Tryz.func240.trans (congrArg some (by kernel_rfl))
 f285 := Tryz.func241.trans (congrArg some (by kernel_rfl))
 f286 := Tryz.func242.trans (congrArg some (by kernel_rfl))
 f317 := Tryz.func292.trans (congrArg some (by kernel_rfl))
 f318 := Tryz.func293.trans (congrArg some (by kernel_rfl))
 f319 := Tryz.func294.trans (congrArg some (by kernel_rfl))
 f320 := Tryz.func295.trans (congrArg some (by kernel_rfl))
 f337 := Tryz.func322.trans (congrArg some (by kernel_rfl))
 f338 := Tryz.func323.trans (congrArg some (by kernel_rfl))
 t0 := Tryz.underlying0
 a0 := Tryz.isAgg0
 z0 := Tryz.sizeOf0
 v0 := Tryz.zeroValue0
 t2 := Tryz.underlying2
 a2 := Tryz.isAgg2
 z2 := Tryz.sizeOf2
 v2 := Tryz.zeroValue2
 t3 := Tryz.underlying3
 a3 := Tryz.isAgg3
 z3 := Tryz.sizeOf3
 v3 := Tryz.zeroValue3
 t4 := Tryz.underlying4
 a4 := Tryz.isAgg4
 z4 := Tryz.sizeOf4
 v4 := Tryz.zeroValue4
 t5 := Tryz.underlying5
 a5 := Tryz.isAgg5
 z5 := Tryz.sizeOf5
 v5 := Tryz.zeroValue5
 t9 := Tryz.underlying9
 a9 := Tryz.isAgg9
 z9 := Tryz.sizeOf9
 v9 := Tryz.zeroValue9
 t20 := Tryz.underlying20
 a20 := Tryz.isAgg20
 z20 := Tryz.sizeOf20
 v20 := Tryz.zeroValue20
 t37 := Tryz.underlying169
 a37 := Tryz.isAgg169
 z37 := Tryz.sizeOf169
 v37 := Tryz.zeroValue169
 t46 := Tryz.underlying161
 a46 := Tryz.isAgg161
 z46 := Tryz.sizeOf161
 v46 := Tryz.zeroValue161
 t51 := Tryz.underlying209
 a51 := Tryz.isAgg209
 z51 := Tryz.sizeOf209
 v51 := Tryz.zeroValue209
 t53 := Tryz.underlying211
 a53 := Tryz.isAgg211
 z53 := Tryz.sizeOf211
 v53 := Tryz.zeroValue211
 t171 := Tryz.underlying286
 a171 := Tryz.isAgg286
 z171 := Tryz.sizeOf286
 v171 := Tryz.zeroValue286
 t173 := Tryz.underlying288
 a173 := Tryz.isAgg288
 z173 := Tryz.sizeOf288
 v173 := Tryz.zeroValue288
 t212 := Tryz.underlying331
 a212 := Tryz.isAgg331
 z212 := Tryz.sizeOf331
 v212 := Tryz.zeroValue331
 t213 := Tryz.underlying332
 a213 := Tryz.isAgg332
 z213 := Tryz.sizeOf332
 t232 := Tryz.underlying372
 a232 := Tryz.isAgg372
 z232 := Tryz.sizeOf372
 v232 := Tryz.zeroValue372
 t233 := Tryz.underlying373
 a233 := Tryz.isAgg373
 z233 := Tryz.sizeOf373
 v233 := Tryz.zeroValue373
 g17 := by kernel_rfl
 g18 := by kernel_rfl
 g19 := by kernel_rfl
 i0 := by kernel_rfl
 i2 := by kernel_rfl
 i3 := by kernel_rfl
 i4 := by kernel_rfl
 i5 := by kernel_rfl
 i9 := by kernel_rfl
 i20 := by kernel_rfl
 i37 := by kernel_rfl
 i46 := by kernel_rfl
 i51 := by kernel_rfl
 i53 := by kernel_rfl
 i171 := by kernel_rfl
 i173 := by kernel_rfl
 i212 := by kernel_rfl
 i232 := by kernel_rfl
 i233 := by kernel_rfl
 m17 := by kernel_rfl
 m18 := by kernel_rfl
 m19 := by kernel_rfl }
theorem lay_strconv_Itoa (n : Int) (h0 : -9223372036854775808 ≤ n) (h1 : n ≤ 9223372036854775807) (w : World) (htab : Lib.TabIs Tryz.prog w "internal/strconv.uint64pow10" .u64 Lib.pow10Tab) :
  Calls Tryz.prog 67 #[.int .i64 n] w fun e w' => e = .returned (.string ⟨(Lib.itoa n).toArray⟩) ∧ ∃ k os, w' = grow (w.drewN k) os := Any.strconv_Itoa lay_laysM171 n h0 h1 w htab
end Go.Proofs.YtnbikkcalcpedaaGreatDoor
namespace Go.Proofs.YtnbikkcalcpedaaGreatDoor
open Go.Shelf Go.RowKit
set_option linter.unusedVariables false
def lay_lays101_ren : Go.Shelf.Ren := ⟨fun | 101 => 291 | 208 => 321 | 206 => 228 | n => n, fun | 9 => 9 | 4 => 4 | 3 => 3 | n => n, fun | n => n⟩
theorem lay_lays101 : Go.Proofs.Lays.n101 Tryz.prog lay_lays101_ren := {
 mixed := by kernel_rfl
 f101 := Tryz.func291.trans (congrArg some (by kernel_rfl))
 f206 := Tryz.func228.trans (congrArg some (by kernel_rfl))
 f208 := Tryz.func321.trans (congrArg some (by kernel_rfl))
 t3 := Tryz.underlying3
 a3 := Tryz.isAgg3
 z3 := Tryz.sizeOf3
 v3 := Tryz.zeroValue3
 t4 := Tryz.underlying4
 a4 := Tryz.isAgg4
 z4 := Tryz.sizeOf4
 v4 := Tryz.zeroValue4
 t9 := Tryz.underlying9
 a9 := Tryz.isAgg9
 z9 := Tryz.sizeOf9
 v9 := Tryz.zeroValue9 }
theorem lay_strings_TrimPrefix (s p : ByteArray) (w : World) :
  Calls Tryz.prog 291 #[.string s, .string p] w fun e w' => e = .returned (.string ⟨(Lib.trimPrefix s.data.toList p.data.toList).toArray⟩) ∧ w' = w := Any.strings_TrimPrefix lay_lays101 s p w
end Go.Proofs.YtnbikkcalcpedaaGreatDoor
namespace Go.Proofs.YtnbikkcalcpedaaGreatDoor
open Go.Shelf Go.RowKit
set_option linter.unusedVariables false
def lay_laysPu14_ren : Go.Shelf.Ren := ⟨fun | 14 => 289 | 16 => 316 | 17 => 317 | 19 => 337 | 20 => 338 | 21 => 339 | 22 => 340 | 23 => 341 | 24 => 342 | 25 => 351 | 27 => 67 | 26 => 352 | 28 => 127 | 29 => 184 | 30 => 239 | 31 => 240 | 32 => 241 | 33 => 242 | 35 => 177 | 34 => 292 | 36 => 293 | 37 => 294 | 38 => 295 | 39 => 322 | 40 => 323 | n => n, fun | 9 => 9 | 3 => 3 | 22 => 211 | 24 => 326 | 25 => 327 | 4 => 4 | 34 => 363 | 5 => 5 | 36 => 161 | 37 => 169 | 0 => 0 | 39 => 366 | 21 => 21 | 44 => 381 | 47 => 371 | 50 => 393 | 48 => 391 | 2 => 2 | 52 => 286 | 55 => 288 | 59 => 331 | 60 => 209 | 20 => 20 | 61 => 332 | 65 => 372 | 66 => 373 | 67 => 282 | n => n, fun | 0 => 3 | 1 => 4 | 2 => 0 | 3 => 1 | 4 => 2 | n => n⟩
theorem lay_laysPu14 : Go.Proofs.LaysPu.n14 Tryz.prog lay_laysPu14_ren := {
 mixed := by kernel_rfl
 f14 := Tryz.func289.trans (congrArg some (by kernel_rfl))
 f16 := Tryz.func316.trans (congrArg some (by kernel_rfl))
 f17 := Tryz.func317.trans (congrArg some (by kernel_rfl))
 f19 := Tryz.func337.trans (congrArg some (by kernel_rfl))
 f20 := Tryz.func338.trans (congrArg some (by kernel_rfl))
 f21 := Tryz.func339.trans (congrArg some (by kernel_rfl))
 f22 := Tryz.func340.trans (congrArg some (by kernel_rfl))
 f23 := Tryz.func341.trans (congrArg some (by kernel_rfl))
 f24 := Tryz.func342.trans (congrArg some (by kernel_rfl))
 f25 := Tryz.func351.trans (congrArg some (by kernel_rfl))
 f26 := Tryz.func352.trans (congrArg some (by kernel_rfl))
 f27 := Tryz.func67.trans (congrArg some (by kernel_rfl))
 f28 := Tryz.func127.trans (congrArg some (by kernel_rfl))
 f29 := Tryz.func184.trans (congrArg some (by kernel_rfl))
 f30 := Tryz.func239.trans (congrArg some (by kernel_rfl))
 f31 := Tryz.func240.trans (congrArg some (by kernel_rfl))
 f32 := Tryz.func241.trans (congrArg some (by kernel_rfl))
 f33 := Tryz.func242.trans (congrArg some (by kernel_rfl))
 f34 := Tryz.func292.trans (congrArg some (by kernel_rfl))
 f35 := Tryz.func177.trans (congrArg some (by kernel_rfl))
 f36 := Tryz.func293.trans (congrArg some (by kernel_rfl))
 f37 := Tryz.func294.trans (congrArg some (by kernel_rfl))
 f38 := Tryz.func295.trans (congrArg some (by kernel_rfl))
 f39 := Tryz.func322.trans (congrArg some (by kernel_rfl))
 f40 := Tryz.func323.trans (congrArg some (by kernel_rfl))
 t0 := Tryz.underlying0
 a0 := Tryz.isAgg0
 z0 := Tryz.sizeOf0
 v0 := Tryz.zeroValue0
 i0 := by kernel_rfl
 t2 := Tryz.underlying2
 a2 := Tryz.isAgg2
 z2 := Tryz.sizeOf2
 v2 := Tryz.zeroValue2
 i2 := by kernel_rfl
 t3 := Tryz.underlying3
 a3 := Tryz.isAgg3
 z3 := Tryz.sizeOf3
 v3 := Tryz.zeroValue3
 i3 := by kernel_rfl
 t4 := Tryz.underlying4
 a4 := Tryz.isAgg4
 z4 := Tryz.sizeOf4
 v4 := Tryz.zeroValue4
 i4 := by kernel_rfl
 t5 := Tryz.underlying5
 a5 := Tryz.isAgg5
 z5 := Tryz.sizeOf5
 v5 := Tryz.zeroValue5
 i5 := by kernel_rfl
 t9 := Tryz.underlying9
 a9 := Tryz.isAgg9
 z9 := Tryz.sizeOf9
 v9 := Tryz.zeroValue9
 i9 := by kernel_rfl
 t20 := Tryz.underlying20
 a20 := Tryz.isAgg20
 z20 := Tryz.sizeOf20
 v20 := Tryz.zeroValue20
 i20 := by kernel_rfl
 t21 := Tryz.underlying21
 a21 := Tryz.isAgg21
 z21 := Tryz.sizeOf21
 v21 := Tryz.zeroValue21
 i21 := by kernel_rfl
 t22 := Tryz.underlying211
 a22 := Tryz.isAgg211
 z22 := Tryz.sizeOf211
 v22 := Tryz.zeroValue211
 i22 := by kernel_rfl
 t24 := Tryz.underlying326
 a24 := Tryz.isAgg326
 z24 := Tryz.sizeOf326
 v24 := Tryz.zeroValue326
 i24 := by kernel_rfl
 t25 := Tryz.underlying327
 a25 := Tryz.isAgg327
 z25 := Tryz.sizeOf327
 v25 := Tryz.zeroValue327
 i25 := by kernel_rfl
 t34 := Tryz.underlying363
 a34 := Tryz.isAgg363
 z34 := Tryz.sizeOf363
 v34 := Tryz.zeroValue363
 i34 := by kernel_rfl
 c34 := by kernel_rfl
 t36 := Tryz.underlying161
 a36 := Tryz.isAgg161
 z36 := Tryz.sizeOf161
 v36 := Tryz.zeroValue161
 i36 := by kernel_rfl
 t37 := Tryz.underlying169
 a37 := Tryz.isAgg169
 z37 := Tryz.sizeOf169
 v37 := Tryz.zeroValue169
 i37 := by kernel_rfl
 t39 := Tryz.underlying366
 a39 := Tryz.isAgg366
 z39 := Tryz.sizeOf366
 v39 := Tryz.zeroValue366
 i39 := by kernel_rfl
 t44 := Tryz.underlying381
 a44 := Tryz.isAgg381
 z44 := Tryz.sizeOf381
 v44 := Tryz.zeroValue381
 i44 := by kernel_rfl
 t47 := Tryz.underlying371
 a47 := Tryz.isAgg371
 z47 := Tryz.sizeOf371
 v47 := Tryz.zeroValue371
 i47 := by kernel_rfl
 t48 := Tryz.underlying391
 a48 := Tryz.isAgg391
 z48 := Tryz.sizeOf391
 v48 := Tryz.zeroValue391
 i48 := by kernel_rfl
 t50 := Tryz.underlying393
 a50 := Tryz.isAgg393
 z50 := Tryz.sizeOf393
 v50 := Tryz.zeroValue393
 i50 := by kernel_rfl
 t52 := Tryz.underlying286
 a52 := Tryz.isAgg286
 z52 := Tryz.sizeOf286
 v52 := Tryz.zeroValue286
 i52 := by kernel_rfl
 t55 := Tryz.underlying288
 a55 := Tryz.isAgg288
 z55 := Tryz.sizeOf288
 v55 := Tryz.zeroValue288
 i55 := by kernel_rfl
 t59 := Tryz.underlying331
 a59 := Tryz.isAgg331
 z59 := Tryz.sizeOf331
 v59 := Tryz.zeroValue331
 i59 := by kernel_rfl
 t60 := Tryz.underlying209
 a60 := Tryz.isAgg209
 z60 := Tryz.sizeOf209
 v60 := Tryz.zeroValue209
 i60 := by kernel_rfl
 t61 := Tryz.underlying332
 a61 := Tryz.isAgg332
 z61 := Tryz.sizeOf332
 t65 := Tryz.underlying372
 a65 := Tryz.isAgg372
 z65 := Tryz.sizeOf372
 v65 := Tryz.zeroValue372
 i65 := by kernel_rfl
 t66 := Tryz.underlying373
 a66 := Tryz.isAgg373
 z66 := Tryz.sizeOf373
 v66 := Tryz.zeroValue373
 i66 := by kernel_rfl
 t67 := Tryz.underlying282
 a67 := Tryz.isAgg282
 z67 := Tryz.sizeOf282
 v67 := Tryz.zeroValue282
 i67 := by kernel_rfl
 g0 := by kernel_rfl
 m0 := by kernel_rfl
 g1 := by kernel_rfl
 m1 := by kernel_rfl
 g2 := by kernel_rfl
 m2 := by kernel_rfl
 g3 := by kernel_rfl
 m3 := by kernel_rfl
 g4 := by kernel_rfl
 m4 := by kernel_rfl }
theorem lay_strconv_ParseUint_10_at32_ok (s : ByteArray) (hmax : s.size ≤ 9223372036854775806) (u : Nat) (h : Lib.parseUintB 32 s.data.toList = .ok u) (w : World) :
  Calls Tryz.prog 289 #[.string s, .int .i64 10, .int .i64 32] w fun e w' => e = .returned (.tuple #[.int .u64 u, .nilIface]) ∧ (w' = w ∨ w' = Lib.bytesWorld w 5 s) := Any.strconv_ParseUint_10_at32_ok lay_laysPu14 s hmax u h w
end Go.Proofs.YtnbikkcalcpedaaGreatDoor
namespace Go.Proofs.YtnbikkcalcpedaaGreatDoor
open Go.WideMaps
end Go.Proofs.YtnbikkcalcpedaaGreatDoor
namespace Go.Proofs.YtnbikkcalcpedaaGreatDoor
open Go.Lib
section
def asc (d : Nat) : UInt8 := UInt8.ofNat (48 + d)
theorem asc_nat {d : Nat} (h : d < 10) : (asc d).toNat = 48 + d := by
 unfold asc; rw [UInt8.toNat_ofNat']; omega
theorem dec_dig {n : Nat} (h : 0 < n) : decDigits n = (digB 10 n).reverse.map asc := by
 induction n using Nat.strongRecOn with
 | _ n ih =>
   rw [decDigits, digB_pos (by omega) h, List.reverse_cons, List.map_append]
   by_cases h1 : n < 10
   ·rw [dif_pos h1, show n / 10 = 0 by omega, digB_zero, show n % 10 = n by omega]; rfl
   ·rw [dif_neg h1, ih (n / 10) (by omega) (by omega)]; rfl
end
end Go.Proofs.YtnbikkcalcpedaaGreatDoor
namespace Go.Proofs.YtnbikkcalcpedaaGreatDoor
open Go.Maps Go.WideMaps
section
variable {H : Type} {P : Program} (w : World) {ops : Array Oper} {rest : List Oper} {o : Oper} {a : Act} {Q : Exit → Act → World → Prop}
end
end Go.Proofs.YtnbikkcalcpedaaGreatDoor
namespace Go.Proofs.YtnbikkcalcpedaaGreatDoor
open Go.RowKit Go.Lib
def numS (i : Nat) : ByteArray := ⟨(Lib.decDigits i).toArray⟩
end Go.Proofs.YtnbikkcalcpedaaGreatDoor
namespace Go.Proofs.YtnbikkcalcpedaaGreatDoor
open Go.RowKit
def intS (z : Int) : ByteArray := ⟨(Lib.itoa z).toArray⟩
theorem numS_int (i : Nat) : numS i = intS i := by
 unfold numS intS Lib.itoa
 rw [if_neg (by omega), Int.toNat_natCast]
def tmCells : List Tm → List Value
 | [] => []
 | e :: es => .int .i64 (e.1.1 : Nat) :: .int .i64 (e.1.2 : Nat) :: .string (intS e.2) :: tmCells es
theorem tmCells_length (es : List Tm) : (tmCells es).length = es.length * 3 := by
 induction es with
 | nil => rfl
 | cons e es ih => simp [tmCells, ih]; omega
theorem tmCells_append (es fs : List Tm) : tmCells (es ++ fs) = tmCells es ++ tmCells fs := by
 induction es with
 | nil => rfl
 | cons e es ih => simp [tmCells, ih]
theorem tmCells_at {es : List Tm} {k : Nat} {e : Tm} (h : es[k]? = some e) :
  (tmCells es)[k * 3]? = some (.int .i64 (e.1.1 : Nat)) ∧ (tmCells es)[k * 3 + 1]? = some (.int .i64 (e.1.2 : Nat)) ∧ (tmCells es)[k * 3 + 2]? = some (.string (intS e.2)) := by
 induction es generalizing k with
 | nil => simp at h
 | cons f es ih =>
   rcases k with _ | k
   ·simp at h; subst h; simp [tmCells]
   ·have := ih (k := k) (by simpa using h)
    rw [show (k + 1) * 3 = k * 3 + 1 + 1 + 1 from by omega, show k * 3 + 1 + 1 + 1 + 1 = (k * 3 + 1) + 1 + 1 + 1 from by omega, show k * 3 + 1 + 1 + 1 + 2 = (k * 3 + 2) + 1 + 1 + 1 from by omega]
    simpa [tmCells] using this
theorem Reads.tm {w : World} {B n : Nat} {A : Option Addr} {es : List Tm} {k : Nat} {e : Tm} (h : Reads w B 3 A n (tmCells es)) (he : es[k]? = some e) :
  ∃ b off, A = some ⟨b, off, none⟩ ∧ b < B ∧ w.cell? ⟨b, off + k * 3, none⟩ = some (.int .i64 (e.1.1 : Nat)) ∧ w.cell? ⟨b, off + k * 3 + 1, none⟩ = some (.int .i64 (e.1.2 : Nat)) ∧ w.cell? ⟨b, off + k * 3 + 1 + 1, none⟩ = some (.string (intS e.2)) := by
 have hk : k < es.length := (List.getElem?_eq_some_iff.1 he).1
 have hl := h.1
 rw [tmCells_length] at hl
 obtain ⟨b, off, hA, hb, hc⟩ := h.2 (by omega)
 obtain ⟨h1, h2, h3⟩ := tmCells_at he
 exact ⟨b, off, hA, hb, hc _ _ h1, by have := hc _ _ h2; rwa [show off + (k * 3 + 1) = off + k * 3 + 1 from by omega] at this, by have := hc _ _ h3; rwa [show off + (k * 3 + 2) = off + k * 3 + 1 + 1 from by omega] at this⟩
theorem info_tm : (Tryz.prog.info? 87).map (fun i => (i.zero, i.size, i.bytes)) = some (some (.agg #[.int .i64 0, .int .i64 0, .string ⟨#[]⟩]), 3, 32) := by kernel_rfl
def OwnT (w : World) (base : Nat) (A : Option Addr) (c : Nat) (es : List Tm) : Prop := w.ownsRow base 87 3 (.slice A es.length c) es.length (tmCells es)
section
variable {w w' : World} {base : Nat} {A : Option Addr} {c : Nat} {es : List Tm}
theorem OwnT.nil_ (w : World) (base : Nat) : OwnT w base none 0 [] := World.ownsRow_nil _ _ _ _
theorem OwnT.reads (h : OwnT w base A c es) : Reads w w.heap.size 3 A es.length (tmCells es) := Reads.of_own h
theorem OwnT.alloc (h : OwnT w base A c es) (o : Obj) : OwnT (w.alloc o) base A c es := World.ownsRow.alloc h o
theorem OwnT.drewN (h : OwnT w base A c es) (n : Nat) : OwnT (w.drewN n) base A c es := h
theorem OwnT.lt (h : OwnT w base A c es) : ∀ k, blockOf A k → base ≤ k ∧ k < w.heap.size := fun k hk => World.ownsRow.lt h k (blockOf_own.2 hk)
theorem OwnT.kept (h : OwnT w base A c es) (hk : ∀ k, blockOf A k → w'.heap[k]? = w.heap[k]?) : OwnT w' base A c es := by
 obtain ⟨h1, h2⟩ := h
 refine ⟨h1, ?_⟩
 rcases h2 with h2 | ⟨g, cap, cur, hv, hg, hh, r⟩
 ·exact .inl h2
 ·have hgb : (Value.slice A es.length c).ownBlock = some g := by rw [hv]; rfl
  exact .inr ⟨g, cap, cur, hv, hg, (hk g (blockOf_own.1 hgb)).trans hh, r⟩
theorem OwnT.next (h : OwnT w base A c es) (hb : Below w.heap.size w w') : OwnT w' base A c es := h.kept fun k hk => hb.block k (h.lt k hk).2
theorem OwnT.mono {base' : Nat} (h : OwnT w base A c es) (hb : base' ≤ base) : OwnT w base' A c es := by
 obtain ⟨h1, h2⟩ := h
 refine ⟨h1, ?_⟩
 rcases h2 with h2 | ⟨g, cap, cur, hv, hg, r⟩
 ·exact .inl h2
 ·exact .inr ⟨g, cap, cur, hv, by omega, r⟩
theorem OwnT.set_blk {g : Nat} {t : TypeId} {cs : Array Value} (h : OwnT w base A c es) (hg : Blk w g t cs) (ht : 87 ≠ t) (o : Nat) (u : Value) : OwnT (w.setCell ⟨g, o, none⟩ u) base A c es := by
 have hne := own_blk_ne h hg ht
 refine h.kept fun k hk => Below.heap_setCell w ⟨g, o, none⟩ u k ?_
 rintro rfl
 exact hne (blockOf_own.2 hk).symm
end
end Go.Proofs.YtnbikkcalcpedaaGreatDoor
namespace Go.Proofs.YtnbikkcalcpedaaGreatDoor
open Go.ChangeShapes Go.WideShapes Go.ChangeAt Go.RowKit
def lay31 (cs : Array Value) : Obj → Obj
 | .cells _ t frozen => .cells cs t frozen
 | o => o
end Go.Proofs.YtnbikkcalcpedaaGreatDoor
