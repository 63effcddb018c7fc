/-
  Texts of this claim, put together: PolyD, IntOf, BagK, Term, Card31, Mono, Same06.
-/
import Derived.Test.YtnbikkcalcpedaaGreatDoorK07
import Derived.Test.YtnbikkcalcpedaaGreatDoorK33
import Derived.Test.YtnbikkcalcpedaaGreatDoorK04
import Derived.Lib.Walk
import Derived.Lib.ItoaNum
import Derived.Lib.Strings
import Derived.Lib.ItoaWalk
import Derived.Lib.Hide
import Derived.WalkKit
import Derived.BigCall
import Derived.Test.YtnbikkcalcpedaaGreatDoorK10
import Derived.Lib.Atoi
import Derived.Test.YtnbikkcalcpedaaGreatDoorCards
import Derived.Test.YtnbikkcalcpedaaGreatDoorTie
import Derived.Test.YtnbikkcalcpedaaGreatDoorK11
import Derived.ProofKit
import Derived.OpenShut
import Derived.Deep.DeepHandedRow
import Derived.Lib.LaidTab
import Derived.Lib.ConvBytes
/-! What a count of monomials gives behind the sort; the range's step over a map that counts. -/
namespace Go.Proofs.YtnbikkcalcpedaaGreatDoor
open Go.Maps Go.WideMaps
theorem count_cf {F : List (Nat × Nat)} : ∀ {L : List (Nat × Nat)}, L.Nodup → ∀ k, cfP (L.map fun p => (p, (F.count p : Int))) k = if k ∈ L then (F.count k : Int) else 0
  | [], _, k => by simp [cfP_nil]
  | p :: L, hn, k => by
    obtain ⟨h1, h2⟩ := List.nodup_cons.1 hn
    rw [List.map_cons, cfP_cons, count_cf h2 k]
    by_cases h : p = k
    · subst h
      rw [if_pos rfl, if_neg h1, if_pos (by simp)]
      simp
    · rw [if_neg h]
      have h3 : k ≠ p := fun hc => h hc.symm
      by_cases h4 : k ∈ L
      · rw [if_pos h4, if_pos (by simp [h4])]; simp
      · rw [if_neg h4, if_neg (by simp [h3, h4])]; simp
/-- The terms of a count, sorted, are the sum of the monomials. -/
theorem poly_done {F L : List (Nat × Nat)} (hn : L.Nodup) (hm : ∀ p, p ∈ L ↔ p ∈ F) {p' : List Tm} (hp : (L.map fun p => (p, (F.count p : Int))).Perm p') (hs : p'.Pairwise fun a b => abv b.1 a.1 = false) : p' = sumP F := by
  have hd : p'.Pairwise (fun a b => a.1 ≠ b.1) := (hp.pairwise_iff (fun {a b} h => Ne.symm h)).1 (List.pairwise_map.2 hn)
  refine canon_eq ⟨?_, fun a ha => ?_⟩ (sumP_canon F) fun k => ?_
  · exact (hs.and hd).imp fun {a b} h => by
      cases hc : abv a.1 b.1 with
      | true => rfl
      | false => exact absurd (abv_an hc h.1) h.2
  · obtain ⟨q, hq, rfl⟩ := List.mem_map.1 (hp.mem_iff.2 ha)
    have := List.count_pos_iff.2 ((hm q).1 hq)
    show ((F.count q : Nat) : Int) ≠ 0
    omega
  · rw [← cfP_perm hp, sumP_cf, count_cf hn]
    by_cases h : k ∈ L
    · rw [if_pos h]
    · rw [if_neg h, List.count_eq_zero_of_not_mem fun hc => h ((hm k).2 hc)]; rfl
section
variable {H : Type} {P : Program} (w : World) {ops : Array Oper} {rest : List Oper} {o : Oper} {a : Act} {Q : Exit → Act → World → Prop}
theorem wpList_next_cnt (hg : o.guard = none) (it : Operand) (hop : o.op = Op.next it false) {k e : TypeId} (K : KeyLaw P k) (hk : ∀ p : Nat × Nat, p.1 ≤ 300 → p.2 ≤ 300 → keyOf P k (pairV p) = some (kk p)) (he : P.underlying e = some (.int .i64)) {F : List (Nat × Nat)} (hF : ∀ p ∈ F, p.1 ≤ 300 ∧ p.2 ≤ 300)
    (b r n : Nat) (D : DataW H) (hD : CntD F D) (left : Lit → Bool) (hl : ∀ kl, left kl = true → Maps.has D kl = true) (cnt : Nat)
    (hit : a.eval it = .pointer (some ⟨r, 0, none⟩)) (h : w.ranges P k (plainElem P e) b r n D left cnt)
    (hDone : cnt = 0 → (∀ kl, left kl = false) → wpList P ops Q rest (a.put o.dst (.tuple #[.bool false])) w)
    (hMore : ∀ (p : Nat × Nat) (w' : World) (cnt' : Nat), p ∈ F → left (kk p) = true → w'.ranges P k (plainElem P e) b r n D (fun z => left z && !z.sameKey (kk p)) cnt' → cnt' < cnt →
      w.grownBy w' (some r) → w'.heap.size = w.heap.size → (Instr.entry (.pointer (some ⟨r, 0, none⟩))).run P w' = .ok (.tuple #[pairV p, .int .i64 (F.count p : Nat)]) w' → wpList P ops Q rest (a.put o.dst (.tuple #[.bool true, pairV p, .int .i64 (F.count p : Nat)])) w') :
    wpList P ops Q (o :: rest) a w := by
  refine wpList_plain hg fun K' hK' => ?_
  unfold Oper.wp
  rcases hD.next hF K hk he hl h o.type with ⟨h0, hl, hrun⟩ | ⟨p, w', cnt', hp, hlk, hrun, hrg, hlt, hgr, hsz, hen⟩
  · simp [execOp, hop, hit, hrun, Result.andThen]
    exact hK' _ _ (hDone h0 hl)
  · simp [execOp, hop, hit, hrun, Result.andThen]
    exact hK' _ _ (hMore p w' cnt' hp hlk hrg hlt hgr hsz hen)
end
theorem ownsMap_size {H : Type} {P : Program} {k : TypeId} {R : Value → Option (DataW H × List MemPlace)} {w : World} {b n : Nat} {D : DataW H} (h : w.ownsMap P k R b n D) : Maps.size D ≤ n := by
  obtain ⟨es, clock, _, _, hs, rfl⟩ := h
  show ((es.toList.map (WideElems.rg P k R)).foldr DataW.insert []).length ≤ n
  rw [length_sorted]
  simpa using hs
/-- The block of a map that nothing has written. -/
theorem ownsMap_below {H : Type} {P : Program} {k : TypeId} {R : Value → Option (DataW H × List MemPlace)} {w w' : World} {b n B : Nat} {D : DataW H} (h : w.ownsMap P k R b n D) (hb : b < B) (hB : RowKit.Below B w w') : w'.ownsMap P k R b n D := by
  obtain ⟨es, clock, h1, rest⟩ := h
  exact ⟨es, clock, (hB.block b hb).trans h1, rest⟩
theorem ranges_below {H : Type} {P : Program} {k : TypeId} {R : Value → Option (DataW H × List MemPlace)} {w w' : World} {b r n B : Nat} {D : DataW H} {left : Lit → Bool} {cnt : Nat} (h : w.ranges P k R b r n D left cnt) (hb : b < B) (hr : r < B) (hB : RowKit.Below B w w') : w'.ranges P k R b r n D left cnt := by
  obtain ⟨es, clock, since, seen, c0, h1, F, hs, hD, h2, rest⟩ := h
  exact ⟨es, clock, since, seen, c0, (hB.block b hb).trans h1, F, hs, hD, (hB.block r hr).trans h2, rest⟩
end Go.Proofs.YtnbikkcalcpedaaGreatDoor

/-! integer.Of at small numbers: the decimal digits. -/
namespace Go.Proofs.YtnbikkcalcpedaaGreatDoor
open Go.RowKit Go.Lib

/-- The decimal numeral. -/
def numS (i : Nat) : ByteArray := ⟨(Lib.decDigits i).toArray⟩
theorem ba_eq (b : ByteArray) (l : List UInt8) (h : b.data.toList = l) : b = ⟨l.toArray⟩ := by
  cases b with
  | mk d => simp at h; rw [← h]
set_option maxHeartbeats 2000000 in
set_option maxRecDepth 100000 in
theorem small_any (i : Nat) (h : i < 100) (w : World) :
    Calls Tryz.prog 239 #[.int .i64 i] w fun e w' => e = .returned (.string (numS i)) ∧ w' = w := by
  go_enter Tryz.func239, Tryz.ntmps239
  go_name_bytes_deep 45 SM hSM
  have eSM : SM = Lib.smalls := by rw [← hSM]; decide +kernel
  subst eSM
  clear hSM
  go_name_bytes_deep 30 DG hDG
  have eDG : DG = Lib.digits36 := by rw [← hDG]; decide +kernel
  subst eDG
  clear hDG
  by_cases h10 : i < 10
  · have hsl : ∀ w, (Instr.slice 9 (.string Lib.digits36) (some (.int .i64 (i : Int))) (some (.int .i64 ((i : Int) + 1))) none).run Tryz.prog w = .ok (.string (Lib.digits36.extract i (i + 1))) w := fun w => by
      rw [run_slice_string w 9 Lib.digits36 .i64 .i64 _ _ Tryz.underlying9 (by omega) (by omega) (by rw [Lib.digits36_size]; omega), show ((i : Int)).toNat = i by omega, show ((i : Int) + 1).toNat = i + 1 by omega]
    go_wp2
    go_ret
    refine ⟨?_, rfl⟩
    show Ending.returned (Value.string (Lib.digits36.extract i (i + 1))) = _
    rw [numS, ← ba_eq _ (Lib.decDigits i) (by rw [Lib.extract_data]; exact Lib.digits36_piece h10)]
  · have hsl : ∀ w, (Instr.slice 9 (.string Lib.smalls) (some (.int .i64 ((i : Int) * 2))) (some (.int .i64 ((i : Int) * 2 + 2))) none).run Tryz.prog w = .ok (.string (Lib.smalls.extract (i * 2) (i * 2 + 2))) w := fun w => by
      rw [run_slice_string w 9 Lib.smalls .i64 .i64 _ _ Tryz.underlying9 (by omega) (by omega) (by rw [Lib.smalls_size]; omega), show ((i : Int) * 2).toNat = i * 2 by omega, show ((i : Int) * 2 + 2).toNat = i * 2 + 2 by omega]
    go_wp2
    go_ret
    refine ⟨?_, rfl⟩
    show Ending.returned (Value.string (Lib.smalls.extract (i * 2) (i * 2 + 2))) = _
    rw [numS, ← ba_eq _ (Lib.decDigits i) (by rw [Lib.extract_data]; exact Lib.smalls_piece h10 h)]
set_option maxHeartbeats 1000000 in
theorem formatInt_any (i : Nat) (h : i < 100) (w : World) :
    Calls Tryz.prog 184 #[.int .i64 i, .int .i64 10] w fun e w' => e = .returned (.string (numS i)) ∧ w' = w := by
  have SC := Lib.hid (small_any i h)
  have h0 : (0 : Int) ≤ (i : Int) := by omega
  have h1 : (i : Int) < 100 := by omega
  have h2 : decide ((i : Int) < 100) = true := decide_eq_true h1
  go_enter Tryz.func184, Tryz.ntmps184
  go_wp2_with fail
  refine (SC.out _).mono ?_
  rintro e w' ⟨rfl, rfl⟩
  go_wp2
  go_ret
  exact ⟨rfl, rfl⟩
set_option maxHeartbeats 1000000 in
theorem itoaI_any (i : Nat) (h : i < 100) (w : World) :
    Calls Tryz.prog 127 #[.int .i64 i] w fun e w' => e = .returned (.string (numS i)) ∧ w' = w := by
  have SC := Lib.hid (formatInt_any i h)
  go_enter Tryz.func127, Tryz.ntmps127
  go_wp2_with fail
  refine (SC.out _).mono ?_
  rintro e w' ⟨rfl, rfl⟩
  go_wp2
  go_ret
  exact ⟨rfl, rfl⟩
set_option maxHeartbeats 1000000 in
theorem itoa_any (i : Nat) (h : i < 100) (w : World) :
    Calls Tryz.prog 67 #[.int .i64 i] w fun e w' => e = .returned (.string (numS i)) ∧ w' = w := by
  have SC := Lib.hid (itoaI_any i h)
  go_enter Tryz.func67, Tryz.ntmps67
  go_wp2_with fail
  refine (SC.out _).mono ?_
  rintro e w' ⟨rfl, rfl⟩
  go_wp2
  go_ret
  exact ⟨rfl, rfl⟩
set_option maxHeartbeats 1000000 in
theorem intOf_any (i : Nat) (h : i < 100) (w : World) :
    Calls Tryz.prog 19 #[.int .i64 i] w fun e w' => e = .returned (.string (numS i)) ∧ w' = w := by
  have SC := Lib.hid (itoa_any i h)
  go_enter Tryz.func19, Tryz.ntmps19
  go_wp2_with fail
  refine (SC.out _).mono ?_
  rintro e w' ⟨rfl, rfl⟩
  go_wp2
  go_ret
  exact ⟨rfl, rfl⟩
end Go.Proofs.YtnbikkcalcpedaaGreatDoor

/-! Pairs of vertices as keys of a bag. -/
namespace Go.Proofs.YtnbikkcalcpedaaGreatDoor
open Go.Maps Go.WideMaps
theorem gpairLaw : KeyLaw Tryz.prog 152 := deep_law_laid laidKeys (m := 2) (by omega) (of_decide_eq_true (by kernel_rfl)) (by kernel_rfl) (by kernel_rfl)
theorem cellsGpair : Tryz.prog.cellsOf 152 = 2 := by kernel_rfl
theorem keyGpair : Tryz.prog.keyType 152 = true := by kernel_rfl
theorem keyOf_gpair (p : Nat × Nat) (h1 : p.1 ≤ 300) (h2 : p.2 ≤ 300) : keyOf Tryz.prog 152 (pairV p) = some (kk p) := by
  have hw : ∀ n : Nat, n ≤ 300 → (Lit.int .i64 (n : Int)).wf = true := fun n h => by simp [Lit.wf, IntKind.min, IntKind.max, IntKind.signed, IntKind.bits]; omega
  have hf : (pairV p).formed Tryz.prog 152 = true := by simp [pairV, Value.formed, Tryz.underlying152, cellsGpair]
  have hl : ∀ m, Tryz.prog.keyLits (m + 2) 152 [.int .i64 p.1, .int .i64 p.2] = some [.int .i64 p.1, .int .i64 p.2] := fun m => by
    simp [Program.keyLits, Tryz.underlying152, Tryz.underlying3, cellsGpair, cellsOne, hw _ h1, hw _ h2]
  obtain ⟨m, hm⟩ := sizeTypes
  unfold keyOf
  rw [Tryz.underlying152]
  simp only [keyGpair, hf, Bool.and_self, if_true, hm]
  rw [show (pairV p).cells.toList = [.int .i64 p.1, .int .i64 p.2] from rfl, hl m]
  rfl
section
variable {H : Type} {P : Program} {k t e : TypeId} {w : World} {b n : Nat} {D : DataW H} {F : List (Nat × Nat)}
/-- 'm[k] = x' at a key that the map has not. -/
theorem CntD.put (h : CntD F D) (K : KeyLaw P k) (hk : ∀ p : Nat × Nat, p.1 ≤ 300 → p.2 ≤ 300 → keyOf P k (pairV p) = some (kk p)) {q : Nat × Nat} (hq : q.1 ≤ 300 ∧ q.2 ≤ 300) (hn : q ∉ F) {m : Nat} (hm : 0 < m) :
    CntD (F ++ List.replicate m q) (D.put (kk q) (.lit (.int .i64 (m : Nat)))) := by
  have hkey : WideAt.IsKeyLit (kk q) := (Keyed.of_law K).key (hk q hq.1 hq.2)
  refine ⟨h.isMap.put _ _, fun p h1 h2 => ?_, fun kl hkl => ?_, fun p hp => ?_⟩
  · by_cases hpq : p = q
    · subst hpq
      rw [Maps.atKey_put_same h.isMap hkey, List.count_append, List.count_replicate_self, List.count_eq_zero_of_not_mem hn, Nat.zero_add]
    · rw [Maps.atKey_put_other (fun hc => hpq (kk_inj K hk ⟨h1, h2⟩ hq hc)), h.at_ p h1 h2, List.count_append, List.count_replicate]
      have : (q == p) = false := by simpa using fun hc => hpq hc.symm
      rw [this]; rfl
  · by_cases hc : kl = kk q
    · exact ⟨q, by simp; omega, hc⟩
    · rw [Maps.has_put_other hc] at hkl
      obtain ⟨p, hp, he⟩ := h.has_ kl hkl
      exact ⟨p, by simp [hp], he⟩
  · by_cases hc : kk p = kk q
    · rw [hc]; exact Maps.has_put_same h.isMap hkey _
    · rw [Maps.has_put_other hc]
      rcases List.mem_append.1 hp with hp | hp
      · exact h.mem_ p hp
      · have := List.eq_of_mem_replicate hp
        subst this; exact absurd rfl hc
theorem CntD.update (hD : CntD F D) (h : w.ownsMap P k (plainElem P e) b n D) (K : KeyLaw P k) (hk : ∀ p : Nat × Nat, p.1 ≤ 300 → p.2 ≤ 300 → keyOf P k (pairV p) = some (kk p))
    (ht : P.underlying t = some (.map k e)) (he : P.underlying e = some (.int .i64)) (hn : n < 1000000) {q : Nat × Nat} (hq : q.1 ≤ 300 ∧ q.2 ≤ 300) (hqF : q ∉ F) {m : Nat} (hm : 0 < m) (hm2 : m < 1000000) :
    ∃ w1, (Instr.mapUpdate t (.map (some b)) (pairV q) (.int .i64 (m : Nat))).run P w = .ok () w1 ∧ (∃ D' : DataW H, w1.ownsMap P k (plainElem P e) b (n + 1) D' ∧ CntD (F ++ List.replicate m q) D') ∧ w.grownBy w1 (some b) := by
  have hkey := hk q hq.1 hq.2
  have hwf : (Lit.int .i64 ((m : Nat) : Int)).wf = true := by simp [Lit.wf, IntKind.min, IntKind.max, IntKind.signed, IntKind.bits]; omega
  obtain ⟨w4, h5, ho, hg⟩ := World.ownsMap.update (val := .int .i64 (m : Nat)) h (Keyed.of_law K) ht (by unfold maxLen; omega) hkey (plainElem_int (H := H) he hwf)
  exact ⟨w4, h5, ⟨_, ho, hD.put K hk hq hqF hm⟩, hg⟩
end
end Go.Proofs.YtnbikkcalcpedaaGreatDoor

/-! Polynomials in memory: slices of terms (three cells each: both exponents, and the coefficient's text). -/
namespace Go.Proofs.YtnbikkcalcpedaaGreatDoor
open Go.RowKit

/-- The text of an int. -/
def intS (z : Int) : ByteArray := ⟨(Lib.itoa z).toArray⟩
theorem numS_int (i : Nat) : numS i = intS i := by
  unfold numS intS Lib.itoa
  rw [if_neg (by omega), Int.toNat_natCast]
def tmCells : List Tm → List Value
  | [] => []
  | e :: es => .int .i64 (e.1.1 : Nat) :: .int .i64 (e.1.2 : Nat) :: .string (intS e.2) :: tmCells es
theorem tmCells_length (es : List Tm) : (tmCells es).length = es.length * 3 := by
  induction es with
  | nil => rfl
  | cons e es ih => simp [tmCells, ih]; omega
theorem tmCells_append (es fs : List Tm) : tmCells (es ++ fs) = tmCells es ++ tmCells fs := by
  induction es with
  | nil => rfl
  | cons e es ih => simp [tmCells, ih]
theorem tmCells_at {es : List Tm} {k : Nat} {e : Tm} (h : es[k]? = some e) :
    (tmCells es)[k * 3]? = some (.int .i64 (e.1.1 : Nat)) ∧ (tmCells es)[k * 3 + 1]? = some (.int .i64 (e.1.2 : Nat)) ∧ (tmCells es)[k * 3 + 2]? = some (.string (intS e.2)) := by
  induction es generalizing k with
  | nil => simp at h
  | cons f es ih =>
    rcases k with _ | k
    · simp at h; subst h; simp [tmCells]
    · have := ih (k := k) (by simpa using h)
      rw [show (k + 1) * 3 = k * 3 + 1 + 1 + 1 from by omega, show k * 3 + 1 + 1 + 1 + 1 = (k * 3 + 1) + 1 + 1 + 1 from by omega, show k * 3 + 1 + 1 + 1 + 2 = (k * 3 + 2) + 1 + 1 + 1 from by omega]
      simpa [tmCells] using this
theorem Reads.tm {w : World} {B n : Nat} {A : Option Addr} {es : List Tm} {k : Nat} {e : Tm} (h : Reads w B 3 A n (tmCells es)) (he : es[k]? = some e) :
    ∃ b off, A = some ⟨b, off, none⟩ ∧ b < B ∧ w.cell? ⟨b, off + k * 3, none⟩ = some (.int .i64 (e.1.1 : Nat)) ∧ w.cell? ⟨b, off + k * 3 + 1, none⟩ = some (.int .i64 (e.1.2 : Nat)) ∧ w.cell? ⟨b, off + k * 3 + 1 + 1, none⟩ = some (.string (intS e.2)) := by
  have hk : k < es.length := (List.getElem?_eq_some_iff.1 he).1
  have hl := h.1
  rw [tmCells_length] at hl
  obtain ⟨b, off, hA, hb, hc⟩ := h.2 (by omega)
  obtain ⟨h1, h2, h3⟩ := tmCells_at he
  exact ⟨b, off, hA, hb, hc _ _ h1, by have := hc _ _ h2; rwa [show off + (k * 3 + 1) = off + k * 3 + 1 from by omega] at this, by have := hc _ _ h3; rwa [show off + (k * 3 + 2) = off + k * 3 + 1 + 1 from by omega] at this⟩

theorem info_tm : (Tryz.prog.info? 87).map (fun i => (i.zero, i.size, i.bytes)) = some (some (.agg #[.int .i64 0, .int .i64 0, .string ⟨#[]⟩]), 3, 32) := by kernel_rfl

/-- The slice value is the call's own row of terms. -/
def OwnT (w : World) (base : Nat) (A : Option Addr) (c : Nat) (es : List Tm) : Prop := w.ownsRow base 87 3 (.slice A es.length c) es.length (tmCells es)
section
variable {w w' : World} {base : Nat} {A : Option Addr} {c : Nat} {es : List Tm}
theorem OwnT.nil_ (w : World) (base : Nat) : OwnT w base none 0 [] := World.ownsRow_nil _ _ _ _
theorem OwnT.reads (h : OwnT w base A c es) : Reads w w.heap.size 3 A es.length (tmCells es) := Reads.of_own h
theorem OwnT.alloc (h : OwnT w base A c es) (o : Obj) : OwnT (w.alloc o) base A c es := World.ownsRow.alloc h o
theorem OwnT.drewN (h : OwnT w base A c es) (n : Nat) : OwnT (w.drewN n) base A c es := h
theorem OwnT.lt (h : OwnT w base A c es) : ∀ k, blockOf A k → base ≤ k ∧ k < w.heap.size := fun k hk => World.ownsRow.lt h k (blockOf_own.2 hk)
theorem OwnT.kept (h : OwnT w base A c es) (hk : ∀ k, blockOf A k → w'.heap[k]? = w.heap[k]?) : OwnT w' base A c es := by
  obtain ⟨h1, h2⟩ := h
  refine ⟨h1, ?_⟩
  rcases h2 with h2 | ⟨g, cap, cur, hv, hg, hh, r⟩
  · exact .inl h2
  · have hgb : (Value.slice A es.length c).ownBlock = some g := by rw [hv]; rfl
    exact .inr ⟨g, cap, cur, hv, hg, (hk g (blockOf_own.1 hgb)).trans hh, r⟩
theorem OwnT.next (h : OwnT w base A c es) (hb : Below w.heap.size w w') : OwnT w' base A c es := h.kept fun k hk => hb.block k (h.lt k hk).2
theorem OwnT.mono {base' : Nat} (h : OwnT w base A c es) (hb : base' ≤ base) : OwnT w base' A c es := by
  obtain ⟨h1, h2⟩ := h
  refine ⟨h1, ?_⟩
  rcases h2 with h2 | ⟨g, cap, cur, hv, hg, r⟩
  · exact .inl h2
  · exact .inr ⟨g, cap, cur, hv, by omega, r⟩
end
/-- append at the operation, where a region has come to it. -/
theorem append_wp {P : Program} {o : Oper} {a : Act} {K : Act → World → Prop} {Q : Exit → Act → World → Prop} {w : World} (hgd : o.guard = none) (s x : Operand) (t : TypeId)
    (ho : o.op = .call { callee := .builtin .append, args := #[s, x], argTypes := #[t, t] })
    (base : Nat) (e : TypeId) {z : Value} {size bytes : Nat} (ht : P.underlying t = some (.slice e)) (hinfo : (P.info? e).map (fun i => (i.zero, i.size, i.bytes)) = some (some z, size, bytes)) (hzs : z.cells.size = size) (hby : 0 < size ∧ bytes ≤ 64)
    (A0 : Option Addr) (c0 n : Nat) (xs : List Value) (hs : a.eval s = .slice A0 n c0) (hown : w.ownsRow base e size (.slice A0 n c0) n xs)
    (B : Nat) {A : Option Addr} {m c : Nat} (news : List Value) (hx : a.eval x = .slice A m c) (hr : Reads w B size A m news) (h1 : ∀ u ∈ news, u.oneCell' = true) (hn : n + m ≤ 1048576) (hbase : base ≤ w.heap.size)
    (h : ∀ A' c' w', w'.ownsRow base e size (.slice A' (n + m) c') (n + m) (xs ++ news) → w.grownBy w' (Value.slice A0 n c0).ownBlock → Below base w w' →
      ((Value.slice A' (n + m) c').ownBlock = (Value.slice A0 n c0).ownBlock ∨ (Value.slice A' (n + m) c').ownBlock = some w.heap.size) → K (a.put o.dst (.slice A' (n + m) c')) w') : Oper.wp P o a w K Q := by
  have h2 := append_step2 (ops := #[]) (E := True) (Q := Q) hgd s x t t ho base e e ht ht hinfo hzs hby A0 c0 n xs hs hown B news hx hr h1 hn hbase h
  rwa [if_pos (by simp [Region.wanted, hgd])] at h2
end Go.Proofs.YtnbikkcalcpedaaGreatDoor

/-! What the frames of the Activity cards share: a world that holds the three tables that the rows list. -/
namespace Go.Proofs.YtnbikkcalcpedaaGreatDoor
open Go.ChangeShapes Go.WideShapes Go.ChangeAt Go.RowKit

/-- A block's cells laid. -/
def lay31 (cs : Array Value) : Obj → Obj
  | .cells _ t frozen => .cells cs t frozen
  | o => o
/-- The settled world, the tables' blocks holding what their initialisers lay. -/
noncomputable def laidWorld31 (os : Os) : World :=
  { World.holding Tryz.prog os ⟨#[], #[], []⟩ with heap := ((((World.holding Tryz.prog os ⟨#[], #[], []⟩).heap.modify 0 (lay31 #[.int .u64 1, .int .u64 10, .int .u64 100, .int .u64 1000, .int .u64 10000, .int .u64 100000, .int .u64 1000000, .int .u64 10000000, .int .u64 100000000, .int .u64 1000000000, .int .u64 10000000000, .int .u64 100000000000, .int .u64 1000000000000, .int .u64 10000000000000, .int .u64 100000000000000, .int .u64 1000000000000000, .int .u64 10000000000000000, .int .u64 100000000000000000, .int .u64 1000000000000000000, .int .u64 10000000000000000000])).modify 1 (lay31 #[.int .u8 0, .int .u8 1, .int .u8 28, .int .u8 2, .int .u8 29, .int .u8 14, .int .u8 24, .int .u8 3, .int .u8 30, .int .u8 22, .int .u8 20, .int .u8 15, .int .u8 25, .int .u8 17, .int .u8 4, .int .u8 8, .int .u8 31, .int .u8 27, .int .u8 13, .int .u8 23, .int .u8 21, .int .u8 19, .int .u8 16, .int .u8 7, .int .u8 26, .int .u8 12, .int .u8 18, .int .u8 6, .int .u8 11, .int .u8 5, .int .u8 10, .int .u8 9])).modify 2 (lay31 #[.int .u8 0, .int .u8 1, .int .u8 56, .int .u8 2, .int .u8 57, .int .u8 49, .int .u8 28, .int .u8 3, .int .u8 61, .int .u8 58, .int .u8 42, .int .u8 50, .int .u8 38, .int .u8 29, .int .u8 17, .int .u8 4, .int .u8 62, .int .u8 47, .int .u8 59, .int .u8 36, .int .u8 45, .int .u8 43, .int .u8 51, .int .u8 22, .int .u8 53, .int .u8 39, .int .u8 33, .int .u8 30, .int .u8 24, .int .u8 18, .int .u8 12, .int .u8 5, .int .u8 63, .int .u8 55, .int .u8 48, .int .u8 27, .int .u8 60, .int .u8 41, .int .u8 37, .int .u8 16, .int .u8 46, .int .u8 35, .int .u8 44, .int .u8 21, .int .u8 52, .int .u8 32, .int .u8 23, .int .u8 11, .int .u8 54, .int .u8 26, .int .u8 40, .int .u8 15, .int .u8 34, .int .u8 20, .int .u8 31, .int .u8 10, .int .u8 25, .int .u8 14, .int .u8 19, .int .u8 9, .int .u8 13, .int .u8 8, .int .u8 7, .int .u8 6])) }
end Go.Proofs.YtnbikkcalcpedaaGreatDoor

/-! integer.Check at numerals without a sign. -/
namespace Go.Proofs.YtnbikkcalcpedaaGreatDoor
open Go.RowKit Go.Lib

/-- The digits of a numeral. -/
structure DigL (l : List UInt8) : Prop where
  pos : l ≠ []
  dig : ∀ b ∈ l, 48 ≤ b.toNat ∧ b.toNat ≤ 57
  head : l.length = 1 ∨ l.head? ≠ some 48
theorem dig_byte {d : Nat} (h : d < 10) : (UInt8.ofNat (48 + d)).toNat = 48 + d := by rw [UInt8.toNat_ofNat']; omega
theorem decDigits_step (n : Nat) (h : ¬ n < 10) : decDigits n = decDigits (n / 10) ++ [UInt8.ofNat (48 + n % 10)] := by
  rw [decDigits, dif_neg h]
theorem dec_pos (n : Nat) : decDigits n ≠ [] := by
  by_cases h : n < 10
  · rw [decDigits_one h]; simp
  · rw [decDigits_step n h]; simp
theorem dec_dig2 (n : Nat) : ∀ b ∈ decDigits n, 48 ≤ b.toNat ∧ b.toNat ≤ 57 := by
  induction n using Nat.strongRecOn with
  | _ n ih =>
    intro b hb
    by_cases h : n < 10
    · rw [decDigits_one h, List.mem_singleton] at hb
      subst hb
      rw [dig_byte h]; omega
    · rw [decDigits_step n h] at hb
      rcases List.mem_append.1 hb with hb | hb
      · exact ih (n / 10) (by omega) b hb
      · rw [List.mem_singleton] at hb
        subst hb
        rw [dig_byte (by omega)]; omega
theorem decHead31 (n : Nat) (h0 : 0 < n) : (decDigits n).head? ≠ some 48 := by
  induction n using Nat.strongRecOn with
  | _ n ih =>
    by_cases h : n < 10
    · rw [decDigits_one h, List.head?_cons]
      intro hc
      injection hc with hc
      have := congrArg UInt8.toNat hc
      rw [dig_byte h] at this
      have h48 : (48 : UInt8).toNat = 48 := rfl
      omega
    · have h1 := ih (n / 10) (by omega) (by omega)
      obtain ⟨a, l, h2⟩ := List.exists_cons_of_ne_nil (dec_pos (n / 10))
      rw [h2, List.head?_cons] at h1
      rw [decDigits_step n h, h2, List.cons_append, List.head?_cons]
      exact h1
theorem digL_dec (n : Nat) : DigL (decDigits n) := ⟨dec_pos n, dec_dig2 n, by
  by_cases h : n = 0
  · subst h; left; rw [decDigits_one (by omega)]; rfl
  · exact .inr (decHead31 n (by omega))⟩
set_option maxRecDepth 100000 in
set_option maxHeartbeats 2000000 in
theorem cutpre_no (s : ByteArray) (h1 : 1 ≤ s.size) (hx : ((s.extract 0 1).toList == [45]) = false) (w : World) : Calls Tryz.prog 123 #[.string s, .string ⟨#[45]⟩] w fun e w' => e = .returned (.tuple #[.string s, .bool false]) ∧ w' = w := by
  have hs : (1 : Int) ≤ (s.size : Int) := by omega
  have h0 : (0 : Int) ≤ (s.size : Int) := by omega
  have hsl : ∀ w, (Instr.slice 9 (.string s) none (some (.int .i64 1)) none).run Tryz.prog w = .ok (.string (s.extract 0 1)) w := fun w => by
    have := run_slice_string_h (P := Tryz.prog) (w := w) (t := 9) (s := s) Tryz.underlying9 .i64 1 (by omega) hs
    simpa using this
  go_enter Tryz.func123, Tryz.ntmps123
  go_wp2
  go_ret2
  exact ⟨rfl, rfl⟩
theorem bytes_below (w : World) (e : TypeId) (s : ByteArray) : Below w.heap.size w (bytesWorld w e s) :=
  ⟨rfl, rfl, rfl, by rw [bytesWorld_size]; omega, fun k hk => bytesWorld_at_old w e s k hk⟩
set_option maxRecDepth 100000 in
set_option maxHeartbeats 2000000 in
theorem check_num (l : List UInt8) (hl : DigL l) (hn : l.length ≤ 1024) (w : World) : Calls Tryz.prog 65 #[.string ⟨l.toArray⟩] w fun e w' => e = .returned (.int .i64 0) ∧ Below w.heap.size w w' := by
  have hne : l ≠ [] := hl.pos
  have hdig := Lib.hid hl.dig
  have hhead := Lib.hid hl.head
  obtain ⟨a, r, rfl⟩ := List.exists_cons_of_ne_nil hne
  obtain ⟨s, hs⟩ : ∃ s : ByteArray, (⟨(a :: r).toArray⟩ : ByteArray) = s := ⟨_, rfl⟩
  have hsl : s.data.toList = a :: r := by rw [← hs]
  have hsz : s.size = (a :: r).length := by rw [size_eq, hsl]
  have ha := hdig.out a (by simp)
  have hx : ((s.extract 0 1).toList == [45]) = false := by
    rw [extract_toList, hsl]
    simp
    intro hc
    rw [hc] at ha
    have h45 : (45 : UInt8).toNat = 45 := rfl
    omega
  have CC := Lib.hid (cutpre_no s (by rw [hsz]; simp) hx w)
  have hcv := Go.Lib.run_convert_string_bytes (P := Tryz.prog) w 9 169 5 s Tryz.underlying9 Tryz.underlying169 Tryz.underlying5
  have hB := bytes_below w 5 s
  have hcell := Lib.hid (bytesWorld_cell w 5 s)
  obtain ⟨BW, hBW⟩ : ∃ BW, bytesWorld w 5 s = BW := ⟨_, rfl⟩
  obtain ⟨cap, hcap⟩ : ∃ c, grownCap w s.size 0 5 = c := ⟨_, rfl⟩
  rw [hBW] at hcv hB hcell
  rw [hcap] at hcv
  obtain ⟨n, hN⟩ : ∃ n, s.size = n := ⟨_, rfl⟩
  have hie : s.toList.isEmpty = false := by rw [toList_data, hsl]; rfl
  have hix : ∀ w, (Instr.index 9 (.string s) (.int .i64 0)).run Tryz.prog w = .ok (.int .u8 (a.toNat : Nat)) w := fun w => by
    have h0 : 0 < s.size := by rw [hsz]; simp
    rw [run_index_string w 9 s .i64 0 Tryz.underlying9, dif_pos ⟨by omega, by omega⟩]
    have hd : s[(0 : Int).toNat]'(by simpa using h0) = a := by
      show s.data[0]'_ = a
      have h1 : s.data.toList[0]'(by rw [hsl]; simp) = a := by simp [hsl]
      rw [Array.getElem_toList] at h1
      exact h1
    rw [hd]
  have hnn : n = r.length + 1 := by rw [← hN, hsz]; rfl
  rw [hs]
  rw [hN] at hcv hcell hsz
  have HSL := Lib.hid hsl
  have HSZ := Lib.hid hsz
  have HNN := Lib.hid hnn
  have HA := Lib.hid ha
  have hn24 : ¬ (1024 : Int) < (n : Int) := by simp at hn; omega
  have hn0 : (0 : Int) < (n : Int) := by omega
  clear hBW hcap hs hx hne hsl hsz hnn ha hn hl
  go_enter Tryz.func65, Tryz.ntmps65
  go_wp2_with fail
  refine (CC.out).mono ?_
  rintro e w' ⟨rfl, rfl⟩
  go_wp2
  go_loopw [6, 15] (fun _ i wr => ∃ k : Nat, k ≤ n ∧ i = .int .i64 k ∧ wr = BW) (fun _ i _ => n - (RowKit.intOf i).toNat)
  case atStart => exact ⟨0, by omega, rfl, rfl⟩
  case round =>
    obtain ⟨k, hk, rfl, rfl⟩ := hrel
    by_cases hlt : k < n
    · have hi : (k : Int) < (n : Int) := by omega
      have hc := hcell.out k (by omega)
      have hmem : s.data.toList.getD k 0 ∈ a :: r := by
        have hkl : k < (a :: r).length := by rw [← HSZ.out]; exact hlt
        rw [HSL.out, List.getD_eq_getElem?_getD, List.getElem?_eq_getElem hkl]
        exact List.getElem_mem _
      have hb := hdig.out _ hmem
      obtain ⟨b, hbb⟩ : ∃ b, (s.data.toList.getD k 0).toNat = b := ⟨_, rfl⟩
      rw [hbb] at hc hb
      have hb1 : ¬ (b : Int) < 48 := by omega
      have hb2 : ¬ (57 : Int) < (b : Int) := by omega
      have hb3 : decide ((b : Int) < 48) = false := decide_eq_false hb1
      have hb4 : decide ((57 : Int) < (b : Int)) = false := decide_eq_false hb2
      clear hmem hbb hb hcv
      go_wp2
      go_roundw
      case rel => exact ⟨k + 1, by omega, by go_num, trivial⟩
      case measure => simp [RowKit.intOf]; omega
    · obtain rfl : k = n := by omega
      have hf : ¬ (k : Int) < (k : Int) := by omega
      clear hcv
      by_cases h48 : (a.toNat : Int) = 48
      · have h1 : ¬ (1 : Int) < (k : Int) := by
          rcases hhead.out with h | h
          · rw [← HSZ.out] at h; omega
          · refine absurd ?_ h
            rw [List.head?_cons]
            congr 1
            exact UInt8.toNat_inj.1 (show a.toNat = 48 by omega)
        have hk1 : decide ((1 : Int) < (k : Int)) = false := decide_eq_false h1
        go_wp2
        go_ret
        exact ⟨rfl, hB⟩
      · go_wp2
        go_ret
        exact ⟨rfl, hB⟩
theorem nDig_le : ∀ (k n : Nat), n < 10 ^ (k + 1) → nDigits n ≤ k + 1
  | 0, n, h => by rw [nDigits_small (by simpa using h)]; omega
  | k + 1, n, h => by
    by_cases h1 : n < 10
    · rw [nDigits_small h1]; omega
    · rw [nDigits_big h1]
      have := nDig_le k (n / 10) (by rw [Nat.pow_succ] at h; omega)
      omega
theorem check_int (n : Nat) (hn : n < 10 ^ 100) (w : World) : Calls Tryz.prog 65 #[.string (intS n)] w fun e w' => e = .returned (.int .i64 0) ∧ Below w.heap.size w w' := by
  have h := check_num (decDigits n) (digL_dec n) (by
    rw [decDigits_length]
    have := nDig_le 99 n hn
    omega) w
  unfold intS itoa
  rw [if_neg (by omega), Int.toNat_natCast]
  exact h
end Go.Proofs.YtnbikkcalcpedaaGreatDoor

/-! ref06.Same at equal polynomials. -/
namespace Go.Proofs.YtnbikkcalcpedaaGreatDoor
open Go.RowKit

set_option maxRecDepth 100000 in
set_option maxHeartbeats 2000000 in
theorem rsame06_any (A : Option Addr) (c : Nat) (p : List Tm) (B : Option Addr) (d : Nat) (hn : p.length ≤ 1048576) (w : World) (h : Reads w w.heap.size 3 A p.length (tmCells p)) (h' : Reads w w.heap.size 3 B p.length (tmCells p)) :
    Calls Tryz.prog 41 #[.slice A p.length c, .slice B p.length d] w fun e w' => e = .returned (.bool true) ∧ Below w.heap.size w w' := by
  obtain ⟨N, hN⟩ : ∃ N, p.length = N := ⟨_, rfl⟩
  have HN := Lib.hid hN
  rw [hN] at h h' hn ⊢
  clear hN
  go_enter Tryz.func41, Tryz.ntmps41
  go_wp2
  go_loopw [5] (fun i wr => ∃ k : Nat, k ≤ N ∧ i = .int .i64 k ∧ Below w.heap.size w wr) (fun i _ => N - (intOf i).toNat)
  case atStart => exact ⟨0, by omega, rfl, Below.refl _ _⟩
  case round =>
    obtain ⟨k, hk, rfl, hbel⟩ := hrel
    by_cases hlt : k < N
    · obtain ⟨x, hx⟩ : ∃ x, p[k]? = some x := ⟨_, List.getElem?_eq_getElem (by rw [HN.out]; exact hlt)⟩
      obtain ⟨b, off, rfl, hb, q0, q1, q2⟩ := (h.below hbel).tm hx
      obtain ⟨b', off', rfl, hb', s0, s1, s2⟩ := (h'.below hbel).tm hx
      have hi : (k : Int) < (N : Int) := by omega
      obtain ⟨S, hS⟩ : ∃ S, intS x.2 = S := ⟨_, rfl⟩
      rw [hS] at q2 s2
      clear hx h h' hS
      go_wp2
      go_quiet (fail)
      go_wp2
      go_roundw
      case rel => exact ⟨k + 1, by omega, by go_num, below_drewN hbel _⟩
      case measure => simp [intOf]; omega
    · have hf : ¬ (k : Int) < (N : Int) := by omega
      go_wp2
      go_ret
      exact ⟨rfl, hbel⟩
end Go.Proofs.YtnbikkcalcpedaaGreatDoor

