/-
  Texts of this claim, put together: LayPu, PolyK, DecT, PolyD, IntOf, Term, Card31.
-/
import Derived.Shelf.Pu.ParseUintPublic10
import Derived.Test.YtnbikkcalcpedaaGreatDoorProg
import Derived.Test.YtnbikkcalcpedaaGreatDoorK33
import Derived.DeepKeys4
import Derived.Lib.ItoaNum
import Derived.Lib.Atoi
import Derived.Test.YtnbikkcalcpedaaGreatDoorK03
import Derived.Test.YtnbikkcalcpedaaGreatDoorK07
import Derived.Test.YtnbikkcalcpedaaGreatDoorK04
import Derived.Lib.Walk
import Derived.Lib.Strings
import Derived.Lib.ItoaWalk
import Derived.Lib.Hide
import Derived.WalkKit
import Derived.BigCall
import Derived.Test.YtnbikkcalcpedaaGreatDoorK10
import Derived.Test.YtnbikkcalcpedaaGreatDoorCards
import Derived.Test.YtnbikkcalcpedaaGreatDoorTie
import Derived.ProofKit
import Derived.OpenShut
import Derived.Deep.DeepHandedRow
import Derived.Lib.LaidTab
/-! strconv.ParseUint at base 10 and 32 bits, laid at this program (printed by the kit's lay-plain.mjs, turned to names by lay3tpl.py). -/
namespace Go.Proofs.YtnbikkcalcpedaaGreatDoor
open Go.Shelf Go.RowKit
set_option linter.unusedVariables false
def lay_laysPu14_ren : Go.Shelf.Ren := ⟨fun | 14 => 289 | 16 => 316 | 17 => 317 | 19 => 337 | 20 => 338 | 21 => 339 | 22 => 340 | 23 => 341 | 24 => 342 | 25 => 351 | 27 => 67 | 26 => 352 | 28 => 127 | 29 => 184 | 30 => 239 | 31 => 240 | 32 => 241 | 33 => 242 | 35 => 177 | 34 => 292 | 36 => 293 | 37 => 294 | 38 => 295 | 39 => 322 | 40 => 323 | n => n, fun | 9 => 9 | 3 => 3 | 22 => 211 | 24 => 326 | 25 => 327 | 4 => 4 | 34 => 363 | 5 => 5 | 36 => 161 | 37 => 169 | 0 => 0 | 39 => 366 | 21 => 21 | 44 => 381 | 47 => 371 | 50 => 393 | 48 => 391 | 2 => 2 | 52 => 286 | 55 => 288 | 59 => 331 | 60 => 209 | 20 => 20 | 61 => 332 | 65 => 372 | 66 => 373 | 67 => 282 | n => n, fun | 0 => 3 | 1 => 4 | 2 => 0 | 3 => 1 | 4 => 2 | n => n⟩
theorem lay_laysPu14 : Go.Proofs.LaysPu.n14 Tryz.prog lay_laysPu14_ren := {
  mixed := by kernel_rfl
  f14 := Tryz.func289.trans (congrArg some (by kernel_rfl))
  f16 := Tryz.func316.trans (congrArg some (by kernel_rfl))
  f17 := Tryz.func317.trans (congrArg some (by kernel_rfl))
  f19 := Tryz.func337.trans (congrArg some (by kernel_rfl))
  f20 := Tryz.func338.trans (congrArg some (by kernel_rfl))
  f21 := Tryz.func339.trans (congrArg some (by kernel_rfl))
  f22 := Tryz.func340.trans (congrArg some (by kernel_rfl))
  f23 := Tryz.func341.trans (congrArg some (by kernel_rfl))
  f24 := Tryz.func342.trans (congrArg some (by kernel_rfl))
  f25 := Tryz.func351.trans (congrArg some (by kernel_rfl))
  f26 := Tryz.func352.trans (congrArg some (by kernel_rfl))
  f27 := Tryz.func67.trans (congrArg some (by kernel_rfl))
  f28 := Tryz.func127.trans (congrArg some (by kernel_rfl))
  f29 := Tryz.func184.trans (congrArg some (by kernel_rfl))
  f30 := Tryz.func239.trans (congrArg some (by kernel_rfl))
  f31 := Tryz.func240.trans (congrArg some (by kernel_rfl))
  f32 := Tryz.func241.trans (congrArg some (by kernel_rfl))
  f33 := Tryz.func242.trans (congrArg some (by kernel_rfl))
  f34 := Tryz.func292.trans (congrArg some (by kernel_rfl))
  f35 := Tryz.func177.trans (congrArg some (by kernel_rfl))
  f36 := Tryz.func293.trans (congrArg some (by kernel_rfl))
  f37 := Tryz.func294.trans (congrArg some (by kernel_rfl))
  f38 := Tryz.func295.trans (congrArg some (by kernel_rfl))
  f39 := Tryz.func322.trans (congrArg some (by kernel_rfl))
  f40 := Tryz.func323.trans (congrArg some (by kernel_rfl))
  t0 := Tryz.underlying0
  a0 := Tryz.isAgg0
  z0 := Tryz.sizeOf0
  v0 := Tryz.zeroValue0
  i0 := by kernel_rfl
  t2 := Tryz.underlying2
  a2 := Tryz.isAgg2
  z2 := Tryz.sizeOf2
  v2 := Tryz.zeroValue2
  i2 := by kernel_rfl
  t3 := Tryz.underlying3
  a3 := Tryz.isAgg3
  z3 := Tryz.sizeOf3
  v3 := Tryz.zeroValue3
  i3 := by kernel_rfl
  t4 := Tryz.underlying4
  a4 := Tryz.isAgg4
  z4 := Tryz.sizeOf4
  v4 := Tryz.zeroValue4
  i4 := by kernel_rfl
  t5 := Tryz.underlying5
  a5 := Tryz.isAgg5
  z5 := Tryz.sizeOf5
  v5 := Tryz.zeroValue5
  i5 := by kernel_rfl
  t9 := Tryz.underlying9
  a9 := Tryz.isAgg9
  z9 := Tryz.sizeOf9
  v9 := Tryz.zeroValue9
  i9 := by kernel_rfl
  t20 := Tryz.underlying20
  a20 := Tryz.isAgg20
  z20 := Tryz.sizeOf20
  v20 := Tryz.zeroValue20
  i20 := by kernel_rfl
  t21 := Tryz.underlying21
  a21 := Tryz.isAgg21
  z21 := Tryz.sizeOf21
  v21 := Tryz.zeroValue21
  i21 := by kernel_rfl
  t22 := Tryz.underlying211
  a22 := Tryz.isAgg211
  z22 := Tryz.sizeOf211
  v22 := Tryz.zeroValue211
  i22 := by kernel_rfl
  t24 := Tryz.underlying326
  a24 := Tryz.isAgg326
  z24 := Tryz.sizeOf326
  v24 := Tryz.zeroValue326
  i24 := by kernel_rfl
  t25 := Tryz.underlying327
  a25 := Tryz.isAgg327
  z25 := Tryz.sizeOf327
  v25 := Tryz.zeroValue327
  i25 := by kernel_rfl
  t34 := Tryz.underlying363
  a34 := Tryz.isAgg363
  z34 := Tryz.sizeOf363
  v34 := Tryz.zeroValue363
  i34 := by kernel_rfl
  c34 := by kernel_rfl
  t36 := Tryz.underlying161
  a36 := Tryz.isAgg161
  z36 := Tryz.sizeOf161
  v36 := Tryz.zeroValue161
  i36 := by kernel_rfl
  t37 := Tryz.underlying169
  a37 := Tryz.isAgg169
  z37 := Tryz.sizeOf169
  v37 := Tryz.zeroValue169
  i37 := by kernel_rfl
  t39 := Tryz.underlying366
  a39 := Tryz.isAgg366
  z39 := Tryz.sizeOf366
  v39 := Tryz.zeroValue366
  i39 := by kernel_rfl
  t44 := Tryz.underlying381
  a44 := Tryz.isAgg381
  z44 := Tryz.sizeOf381
  v44 := Tryz.zeroValue381
  i44 := by kernel_rfl
  t47 := Tryz.underlying371
  a47 := Tryz.isAgg371
  z47 := Tryz.sizeOf371
  v47 := Tryz.zeroValue371
  i47 := by kernel_rfl
  t48 := Tryz.underlying391
  a48 := Tryz.isAgg391
  z48 := Tryz.sizeOf391
  v48 := Tryz.zeroValue391
  i48 := by kernel_rfl
  t50 := Tryz.underlying393
  a50 := Tryz.isAgg393
  z50 := Tryz.sizeOf393
  v50 := Tryz.zeroValue393
  i50 := by kernel_rfl
  t52 := Tryz.underlying286
  a52 := Tryz.isAgg286
  z52 := Tryz.sizeOf286
  v52 := Tryz.zeroValue286
  i52 := by kernel_rfl
  t55 := Tryz.underlying288
  a55 := Tryz.isAgg288
  z55 := Tryz.sizeOf288
  v55 := Tryz.zeroValue288
  i55 := by kernel_rfl
  t59 := Tryz.underlying331
  a59 := Tryz.isAgg331
  z59 := Tryz.sizeOf331
  v59 := Tryz.zeroValue331
  i59 := by kernel_rfl
  t60 := Tryz.underlying209
  a60 := Tryz.isAgg209
  z60 := Tryz.sizeOf209
  v60 := Tryz.zeroValue209
  i60 := by kernel_rfl
  t61 := Tryz.underlying332
  a61 := Tryz.isAgg332
  z61 := Tryz.sizeOf332
  t65 := Tryz.underlying372
  a65 := Tryz.isAgg372
  z65 := Tryz.sizeOf372
  v65 := Tryz.zeroValue372
  i65 := by kernel_rfl
  t66 := Tryz.underlying373
  a66 := Tryz.isAgg373
  z66 := Tryz.sizeOf373
  v66 := Tryz.zeroValue373
  i66 := by kernel_rfl
  t67 := Tryz.underlying282
  a67 := Tryz.isAgg282
  z67 := Tryz.sizeOf282
  v67 := Tryz.zeroValue282
  i67 := by kernel_rfl
  g0 := by kernel_rfl
  m0 := by kernel_rfl
  g1 := by kernel_rfl
  m1 := by kernel_rfl
  g2 := by kernel_rfl
  m2 := by kernel_rfl
  g3 := by kernel_rfl
  m3 := by kernel_rfl
  g4 := by kernel_rfl
  m4 := by kernel_rfl }
theorem lay_strconv_ParseUint_10_at32_ok (s : ByteArray) (hmax : s.size ≤ 9223372036854775806) (u : Nat) (h : Lib.parseUintB 32 s.data.toList = .ok u) (w : World) :
    Calls Tryz.prog 289 #[.string s, .int .i64 10, .int .i64 32] w fun e w' => e = .returned (.tuple #[.int .u64 u, .nilIface]) ∧ (w' = w ∨ w' = Lib.bytesWorld w 5 s) := Any.strconv_ParseUint_10_at32_ok lay_laysPu14 s hmax u h w
end Go.Proofs.YtnbikkcalcpedaaGreatDoor

/-! Pairs of ints as keys of a map. -/
namespace Go.Proofs.YtnbikkcalcpedaaGreatDoor
open Go.WideMaps
theorem laidKeys : laidOutB Tryz.prog = true := by kernel_rfl
theorem pairLaw : KeyLaw Tryz.prog 50 := deep_law_laid laidKeys (m := 2) (by omega) (of_decide_eq_true (by kernel_rfl)) (by kernel_rfl) (by kernel_rfl)
theorem cellsPair : Tryz.prog.cellsOf 50 = 2 := by kernel_rfl
theorem cellsOne : Tryz.prog.cellsOf 3 = 1 := by kernel_rfl
theorem keyPair : Tryz.prog.keyType 50 = true := by kernel_rfl
theorem sizeTypes : ∃ m, Tryz.prog.types.size = m + 1 := ⟨Tryz.prog.types.size - 1, by
  have h : 0 < Tryz.prog.types.size := of_decide_eq_true (by kernel_rfl)
  omega⟩
theorem keyOf_pair (p : Nat × Nat) (h1 : p.1 ≤ 300) (h2 : p.2 ≤ 300) : keyOf Tryz.prog 50 (pairV p) = some (kk p) := by
  have hw : ∀ n : Nat, n ≤ 300 → (Lit.int .i64 (n : Int)).wf = true := fun n h => by simp [Lit.wf, IntKind.min, IntKind.max, IntKind.signed, IntKind.bits]; omega
  have hf : (pairV p).formed Tryz.prog 50 = true := by simp [pairV, Value.formed, Tryz.underlying50, cellsPair]
  have hl : ∀ m, Tryz.prog.keyLits (m + 2) 50 [.int .i64 p.1, .int .i64 p.2] = some [.int .i64 p.1, .int .i64 p.2] := fun m => by
    simp [Program.keyLits, Tryz.underlying50, Tryz.underlying3, cellsPair, cellsOne, hw _ h1, hw _ h2, List.range_succ]
  obtain ⟨m, hm⟩ := sizeTypes
  unfold keyOf
  rw [Tryz.underlying50]
  simp only [keyPair, hf, Bool.and_self, if_true, hm]
  rw [show (pairV p).cells.toList = [.int .i64 p.1, .int .i64 p.2] from rfl, hl m]
  rfl
end Go.Proofs.YtnbikkcalcpedaaGreatDoor

/-! Texts of ints: their digits, their pieces, their reading. No program is in sight. -/
namespace Go.Proofs.YtnbikkcalcpedaaGreatDoor
open Go.Lib
section
/-- The byte of a digit. -/
def asc (d : Nat) : UInt8 := UInt8.ofNat (48 + d)
theorem asc_nat {d : Nat} (h : d < 10) : (asc d).toNat = 48 + d := by
  unfold asc; rw [UInt8.toNat_ofNat']; omega
/-- A numeral is its digits. -/
theorem dec_dig {n : Nat} (h : 0 < n) : decDigits n = (digB 10 n).reverse.map asc := by
  induction n using Nat.strongRecOn with
  | _ n ih =>
    rw [decDigits, digB_pos (by omega) h, List.reverse_cons, List.map_append]
    by_cases h1 : n < 10
    · rw [dif_pos h1, show n / 10 = 0 by omega, digB_zero, show n % 10 = n by omega]; rfl
    · rw [dif_neg h1, ih (n / 10) (by omega) (by omega)]; rfl
end
end Go.Proofs.YtnbikkcalcpedaaGreatDoor

/-! What a count of monomials gives behind the sort; the range's step over a map that counts. -/
namespace Go.Proofs.YtnbikkcalcpedaaGreatDoor
open Go.Maps Go.WideMaps
theorem count_cf {F : List (Nat × Nat)} : ∀ {L : List (Nat × Nat)}, L.Nodup → ∀ k, cfP (L.map fun p => (p, (F.count p : Int))) k = if k ∈ L then (F.count k : Int) else 0
  | [], _, k => by simp [cfP_nil]
  | p :: L, hn, k => by
    obtain ⟨h1, h2⟩ := List.nodup_cons.1 hn
    rw [List.map_cons, cfP_cons, count_cf h2 k]
    by_cases h : p = k
    · subst h
      rw [if_pos rfl, if_neg h1, if_pos (by simp)]
      simp
    · rw [if_neg h]
      have h3 : k ≠ p := fun hc => h hc.symm
      by_cases h4 : k ∈ L
      · rw [if_pos h4, if_pos (by simp [h4])]; simp
      · rw [if_neg h4, if_neg (by simp [h3, h4])]; simp
/-- The terms of a count, sorted, are the sum of the monomials. -/
theorem poly_done {F L : List (Nat × Nat)} (hn : L.Nodup) (hm : ∀ p, p ∈ L ↔ p ∈ F) {p' : List Tm} (hp : (L.map fun p => (p, (F.count p : Int))).Perm p') (hs : p'.Pairwise fun a b => abv b.1 a.1 = false) : p' = sumP F := by
  have hd : p'.Pairwise (fun a b => a.1 ≠ b.1) := (hp.pairwise_iff (fun {a b} h => Ne.symm h)).1 (List.pairwise_map.2 hn)
  refine canon_eq ⟨?_, fun a ha => ?_⟩ (sumP_canon F) fun k => ?_
  · exact (hs.and hd).imp fun {a b} h => by
      cases hc : abv a.1 b.1 with
      | true => rfl
      | false => exact absurd (abv_an hc h.1) h.2
  · obtain ⟨q, hq, rfl⟩ := List.mem_map.1 (hp.mem_iff.2 ha)
    have := List.count_pos_iff.2 ((hm q).1 hq)
    show ((F.count q : Nat) : Int) ≠ 0
    omega
  · rw [← cfP_perm hp, sumP_cf, count_cf hn]
    by_cases h : k ∈ L
    · rw [if_pos h]
    · rw [if_neg h, List.count_eq_zero_of_not_mem fun hc => h ((hm k).2 hc)]; rfl
section
variable {H : Type} {P : Program} (w : World) {ops : Array Oper} {rest : List Oper} {o : Oper} {a : Act} {Q : Exit → Act → World → Prop}
theorem wpList_next_cnt (hg : o.guard = none) (it : Operand) (hop : o.op = Op.next it false) {k e : TypeId} (K : KeyLaw P k) (hk : ∀ p : Nat × Nat, p.1 ≤ 300 → p.2 ≤ 300 → keyOf P k (pairV p) = some (kk p)) (he : P.underlying e = some (.int .i64)) {F : List (Nat × Nat)} (hF : ∀ p ∈ F, p.1 ≤ 300 ∧ p.2 ≤ 300)
    (b r n : Nat) (D : DataW H) (hD : CntD F D) (left : Lit → Bool) (hl : ∀ kl, left kl = true → Maps.has D kl = true) (cnt : Nat)
    (hit : a.eval it = .pointer (some ⟨r, 0, none⟩)) (h : w.ranges P k (plainElem P e) b r n D left cnt)
    (hDone : cnt = 0 → (∀ kl, left kl = false) → wpList P ops Q rest (a.put o.dst (.tuple #[.bool false])) w)
    (hMore : ∀ (p : Nat × Nat) (w' : World) (cnt' : Nat), p ∈ F → left (kk p) = true → w'.ranges P k (plainElem P e) b r n D (fun z => left z && !z.sameKey (kk p)) cnt' → cnt' < cnt →
      w.grownBy w' (some r) → w'.heap.size = w.heap.size → (Instr.entry (.pointer (some ⟨r, 0, none⟩))).run P w' = .ok (.tuple #[pairV p, .int .i64 (F.count p : Nat)]) w' → wpList P ops Q rest (a.put o.dst (.tuple #[.bool true, pairV p, .int .i64 (F.count p : Nat)])) w') :
    wpList P ops Q (o :: rest) a w := by
  refine wpList_plain hg fun K' hK' => ?_
  unfold Oper.wp
  rcases hD.next hF K hk he hl h o.type with ⟨h0, hl, hrun⟩ | ⟨p, w', cnt', hp, hlk, hrun, hrg, hlt, hgr, hsz, hen⟩
  · simp [execOp, hop, hit, hrun, Result.andThen]
    exact hK' _ _ (hDone h0 hl)
  · simp [execOp, hop, hit, hrun, Result.andThen]
    exact hK' _ _ (hMore p w' cnt' hp hlk hrg hlt hgr hsz hen)
end
theorem ownsMap_size {H : Type} {P : Program} {k : TypeId} {R : Value → Option (DataW H × List MemPlace)} {w : World} {b n : Nat} {D : DataW H} (h : w.ownsMap P k R b n D) : Maps.size D ≤ n := by
  obtain ⟨es, clock, _, _, hs, rfl⟩ := h
  show ((es.toList.map (WideElems.rg P k R)).foldr DataW.insert []).length ≤ n
  rw [length_sorted]
  simpa using hs
/-- The block of a map that nothing has written. -/
theorem ownsMap_below {H : Type} {P : Program} {k : TypeId} {R : Value → Option (DataW H × List MemPlace)} {w w' : World} {b n B : Nat} {D : DataW H} (h : w.ownsMap P k R b n D) (hb : b < B) (hB : RowKit.Below B w w') : w'.ownsMap P k R b n D := by
  obtain ⟨es, clock, h1, rest⟩ := h
  exact ⟨es, clock, (hB.block b hb).trans h1, rest⟩
theorem ranges_below {H : Type} {P : Program} {k : TypeId} {R : Value → Option (DataW H × List MemPlace)} {w w' : World} {b r n B : Nat} {D : DataW H} {left : Lit → Bool} {cnt : Nat} (h : w.ranges P k R b r n D left cnt) (hb : b < B) (hr : r < B) (hB : RowKit.Below B w w') : w'.ranges P k R b r n D left cnt := by
  obtain ⟨es, clock, since, seen, c0, h1, F, hs, hD, h2, rest⟩ := h
  exact ⟨es, clock, since, seen, c0, (hB.block b hb).trans h1, F, hs, hD, (hB.block r hr).trans h2, rest⟩
end Go.Proofs.YtnbikkcalcpedaaGreatDoor

/-! integer.Of at small numbers: the decimal digits. -/
namespace Go.Proofs.YtnbikkcalcpedaaGreatDoor
open Go.RowKit Go.Lib

/-- The decimal numeral. -/
def numS (i : Nat) : ByteArray := ⟨(Lib.decDigits i).toArray⟩
theorem ba_eq (b : ByteArray) (l : List UInt8) (h : b.data.toList = l) : b = ⟨l.toArray⟩ := by
  cases b with
  | mk d => simp at h; rw [← h]
set_option maxHeartbeats 2000000 in
set_option maxRecDepth 100000 in
theorem small_any (i : Nat) (h : i < 100) (w : World) :
    Calls Tryz.prog 239 #[.int .i64 i] w fun e w' => e = .returned (.string (numS i)) ∧ w' = w := by
  go_enter Tryz.func239, Tryz.ntmps239
  go_name_bytes_deep 45 SM hSM
  have eSM : SM = Lib.smalls := by rw [← hSM]; decide +kernel
  subst eSM
  clear hSM
  go_name_bytes_deep 30 DG hDG
  have eDG : DG = Lib.digits36 := by rw [← hDG]; decide +kernel
  subst eDG
  clear hDG
  by_cases h10 : i < 10
  · have hsl : ∀ w, (Instr.slice 9 (.string Lib.digits36) (some (.int .i64 (i : Int))) (some (.int .i64 ((i : Int) + 1))) none).run Tryz.prog w = .ok (.string (Lib.digits36.extract i (i + 1))) w := fun w => by
      rw [run_slice_string w 9 Lib.digits36 .i64 .i64 _ _ Tryz.underlying9 (by omega) (by omega) (by rw [Lib.digits36_size]; omega), show ((i : Int)).toNat = i by omega, show ((i : Int) + 1).toNat = i + 1 by omega]
    go_wp2
    go_ret
    refine ⟨?_, rfl⟩
    show Ending.returned (Value.string (Lib.digits36.extract i (i + 1))) = _
    rw [numS, ← ba_eq _ (Lib.decDigits i) (by rw [Lib.extract_data]; exact Lib.digits36_piece h10)]
  · have hsl : ∀ w, (Instr.slice 9 (.string Lib.smalls) (some (.int .i64 ((i : Int) * 2))) (some (.int .i64 ((i : Int) * 2 + 2))) none).run Tryz.prog w = .ok (.string (Lib.smalls.extract (i * 2) (i * 2 + 2))) w := fun w => by
      rw [run_slice_string w 9 Lib.smalls .i64 .i64 _ _ Tryz.underlying9 (by omega) (by omega) (by rw [Lib.smalls_size]; omega), show ((i : Int) * 2).toNat = i * 2 by omega, show ((i : Int) * 2 + 2).toNat = i * 2 + 2 by omega]
    go_wp2
    go_ret
    refine ⟨?_, rfl⟩
    show Ending.returned (Value.string (Lib.smalls.extract (i * 2) (i * 2 + 2))) = _
    rw [numS, ← ba_eq _ (Lib.decDigits i) (by rw [Lib.extract_data]; exact Lib.smalls_piece h10 h)]
set_option maxHeartbeats 1000000 in
theorem formatInt_any (i : Nat) (h : i < 100) (w : World) :
    Calls Tryz.prog 184 #[.int .i64 i, .int .i64 10] w fun e w' => e = .returned (.string (numS i)) ∧ w' = w := by
  have SC := Lib.hid (small_any i h)
  have h0 : (0 : Int) ≤ (i : Int) := by omega
  have h1 : (i : Int) < 100 := by omega
  have h2 : decide ((i : Int) < 100) = true := decide_eq_true h1
  go_enter Tryz.func184, Tryz.ntmps184
  go_wp2_with fail
  refine (SC.out _).mono ?_
  rintro e w' ⟨rfl, rfl⟩
  go_wp2
  go_ret
  exact ⟨rfl, rfl⟩
set_option maxHeartbeats 1000000 in
theorem itoaI_any (i : Nat) (h : i < 100) (w : World) :
    Calls Tryz.prog 127 #[.int .i64 i] w fun e w' => e = .returned (.string (numS i)) ∧ w' = w := by
  have SC := Lib.hid (formatInt_any i h)
  go_enter Tryz.func127, Tryz.ntmps127
  go_wp2_with fail
  refine (SC.out _).mono ?_
  rintro e w' ⟨rfl, rfl⟩
  go_wp2
  go_ret
  exact ⟨rfl, rfl⟩
set_option maxHeartbeats 1000000 in
theorem itoa_any (i : Nat) (h : i < 100) (w : World) :
    Calls Tryz.prog 67 #[.int .i64 i] w fun e w' => e = .returned (.string (numS i)) ∧ w' = w := by
  have SC := Lib.hid (itoaI_any i h)
  go_enter Tryz.func67, Tryz.ntmps67
  go_wp2_with fail
  refine (SC.out _).mono ?_
  rintro e w' ⟨rfl, rfl⟩
  go_wp2
  go_ret
  exact ⟨rfl, rfl⟩
set_option maxHeartbeats 1000000 in
theorem intOf_any (i : Nat) (h : i < 100) (w : World) :
    Calls Tryz.prog 19 #[.int .i64 i] w fun e w' => e = .returned (.string (numS i)) ∧ w' = w := by
  have SC := Lib.hid (itoa_any i h)
  go_enter Tryz.func19, Tryz.ntmps19
  go_wp2_with fail
  refine (SC.out _).mono ?_
  rintro e w' ⟨rfl, rfl⟩
  go_wp2
  go_ret
  exact ⟨rfl, rfl⟩
end Go.Proofs.YtnbikkcalcpedaaGreatDoor

/-! Polynomials in memory: slices of terms (three cells each: both exponents, and the coefficient's text). -/
namespace Go.Proofs.YtnbikkcalcpedaaGreatDoor
open Go.RowKit

/-- The text of an int. -/
def intS (z : Int) : ByteArray := ⟨(Lib.itoa z).toArray⟩
theorem numS_int (i : Nat) : numS i = intS i := by
  unfold numS intS Lib.itoa
  rw [if_neg (by omega), Int.toNat_natCast]
def tmCells : List Tm → List Value
  | [] => []
  | e :: es => .int .i64 (e.1.1 : Nat) :: .int .i64 (e.1.2 : Nat) :: .string (intS e.2) :: tmCells es
theorem tmCells_length (es : List Tm) : (tmCells es).length = es.length * 3 := by
  induction es with
  | nil => rfl
  | cons e es ih => simp [tmCells, ih]; omega
theorem tmCells_append (es fs : List Tm) : tmCells (es ++ fs) = tmCells es ++ tmCells fs := by
  induction es with
  | nil => rfl
  | cons e es ih => simp [tmCells, ih]
theorem tmCells_at {es : List Tm} {k : Nat} {e : Tm} (h : es[k]? = some e) :
    (tmCells es)[k * 3]? = some (.int .i64 (e.1.1 : Nat)) ∧ (tmCells es)[k * 3 + 1]? = some (.int .i64 (e.1.2 : Nat)) ∧ (tmCells es)[k * 3 + 2]? = some (.string (intS e.2)) := by
  induction es generalizing k with
  | nil => simp at h
  | cons f es ih =>
    rcases k with _ | k
    · simp at h; subst h; simp [tmCells]
    · have := ih (k := k) (by simpa using h)
      rw [show (k + 1) * 3 = k * 3 + 1 + 1 + 1 from by omega, show k * 3 + 1 + 1 + 1 + 1 = (k * 3 + 1) + 1 + 1 + 1 from by omega, show k * 3 + 1 + 1 + 1 + 2 = (k * 3 + 2) + 1 + 1 + 1 from by omega]
      simpa [tmCells] using this
theorem Reads.tm {w : World} {B n : Nat} {A : Option Addr} {es : List Tm} {k : Nat} {e : Tm} (h : Reads w B 3 A n (tmCells es)) (he : es[k]? = some e) :
    ∃ b off, A = some ⟨b, off, none⟩ ∧ b < B ∧ w.cell? ⟨b, off + k * 3, none⟩ = some (.int .i64 (e.1.1 : Nat)) ∧ w.cell? ⟨b, off + k * 3 + 1, none⟩ = some (.int .i64 (e.1.2 : Nat)) ∧ w.cell? ⟨b, off + k * 3 + 1 + 1, none⟩ = some (.string (intS e.2)) := by
  have hk : k < es.length := (List.getElem?_eq_some_iff.1 he).1
  have hl := h.1
  rw [tmCells_length] at hl
  obtain ⟨b, off, hA, hb, hc⟩ := h.2 (by omega)
  obtain ⟨h1, h2, h3⟩ := tmCells_at he
  exact ⟨b, off, hA, hb, hc _ _ h1, by have := hc _ _ h2; rwa [show off + (k * 3 + 1) = off + k * 3 + 1 from by omega] at this, by have := hc _ _ h3; rwa [show off + (k * 3 + 2) = off + k * 3 + 1 + 1 from by omega] at this⟩

theorem info_tm : (Tryz.prog.info? 87).map (fun i => (i.zero, i.size, i.bytes)) = some (some (.agg #[.int .i64 0, .int .i64 0, .string ⟨#[]⟩]), 3, 32) := by kernel_rfl

/-- The slice value is the call's own row of terms. -/
def OwnT (w : World) (base : Nat) (A : Option Addr) (c : Nat) (es : List Tm) : Prop := w.ownsRow base 87 3 (.slice A es.length c) es.length (tmCells es)
section
variable {w w' : World} {base : Nat} {A : Option Addr} {c : Nat} {es : List Tm}
theorem OwnT.nil_ (w : World) (base : Nat) : OwnT w base none 0 [] := World.ownsRow_nil _ _ _ _
theorem OwnT.reads (h : OwnT w base A c es) : Reads w w.heap.size 3 A es.length (tmCells es) := Reads.of_own h
theorem OwnT.alloc (h : OwnT w base A c es) (o : Obj) : OwnT (w.alloc o) base A c es := World.ownsRow.alloc h o
theorem OwnT.drewN (h : OwnT w base A c es) (n : Nat) : OwnT (w.drewN n) base A c es := h
theorem OwnT.lt (h : OwnT w base A c es) : ∀ k, blockOf A k → base ≤ k ∧ k < w.heap.size := fun k hk => World.ownsRow.lt h k (blockOf_own.2 hk)
theorem OwnT.kept (h : OwnT w base A c es) (hk : ∀ k, blockOf A k → w'.heap[k]? = w.heap[k]?) : OwnT w' base A c es := by
  obtain ⟨h1, h2⟩ := h
  refine ⟨h1, ?_⟩
  rcases h2 with h2 | ⟨g, cap, cur, hv, hg, hh, r⟩
  · exact .inl h2
  · have hgb : (Value.slice A es.length c).ownBlock = some g := by rw [hv]; rfl
    exact .inr ⟨g, cap, cur, hv, hg, (hk g (blockOf_own.1 hgb)).trans hh, r⟩
theorem OwnT.next (h : OwnT w base A c es) (hb : Below w.heap.size w w') : OwnT w' base A c es := h.kept fun k hk => hb.block k (h.lt k hk).2
theorem OwnT.mono {base' : Nat} (h : OwnT w base A c es) (hb : base' ≤ base) : OwnT w base' A c es := by
  obtain ⟨h1, h2⟩ := h
  refine ⟨h1, ?_⟩
  rcases h2 with h2 | ⟨g, cap, cur, hv, hg, r⟩
  · exact .inl h2
  · exact .inr ⟨g, cap, cur, hv, by omega, r⟩
end
/-- append at the operation, where a region has come to it. -/
theorem append_wp {P : Program} {o : Oper} {a : Act} {K : Act → World → Prop} {Q : Exit → Act → World → Prop} {w : World} (hgd : o.guard = none) (s x : Operand) (t : TypeId)
    (ho : o.op = .call { callee := .builtin .append, args := #[s, x], argTypes := #[t, t] })
    (base : Nat) (e : TypeId) {z : Value} {size bytes : Nat} (ht : P.underlying t = some (.slice e)) (hinfo : (P.info? e).map (fun i => (i.zero, i.size, i.bytes)) = some (some z, size, bytes)) (hzs : z.cells.size = size) (hby : 0 < size ∧ bytes ≤ 64)
    (A0 : Option Addr) (c0 n : Nat) (xs : List Value) (hs : a.eval s = .slice A0 n c0) (hown : w.ownsRow base e size (.slice A0 n c0) n xs)
    (B : Nat) {A : Option Addr} {m c : Nat} (news : List Value) (hx : a.eval x = .slice A m c) (hr : Reads w B size A m news) (h1 : ∀ u ∈ news, u.oneCell' = true) (hn : n + m ≤ 1048576) (hbase : base ≤ w.heap.size)
    (h : ∀ A' c' w', w'.ownsRow base e size (.slice A' (n + m) c') (n + m) (xs ++ news) → w.grownBy w' (Value.slice A0 n c0).ownBlock → Below base w w' →
      ((Value.slice A' (n + m) c').ownBlock = (Value.slice A0 n c0).ownBlock ∨ (Value.slice A' (n + m) c').ownBlock = some w.heap.size) → K (a.put o.dst (.slice A' (n + m) c')) w') : Oper.wp P o a w K Q := by
  have h2 := append_step2 (ops := #[]) (E := True) (Q := Q) hgd s x t t ho base e e ht ht hinfo hzs hby A0 c0 n xs hs hown B news hx hr h1 hn hbase h
  rwa [if_pos (by simp [Region.wanted, hgd])] at h2
end Go.Proofs.YtnbikkcalcpedaaGreatDoor

/-! What the frames of the Activity cards share: a world that holds the three tables that the rows list. -/
namespace Go.Proofs.YtnbikkcalcpedaaGreatDoor
open Go.ChangeShapes Go.WideShapes Go.ChangeAt Go.RowKit

/-- A block's cells laid. -/
def lay31 (cs : Array Value) : Obj → Obj
  | .cells _ t frozen => .cells cs t frozen
  | o => o
end Go.Proofs.YtnbikkcalcpedaaGreatDoor

