/-
  Texts of this claim, put together: FireW, TakeF, FireX.
-/
import Derived.Test.YtghigdcpinengaaGreatK05
import Derived.Test.YtghigdcpinengaaGreatK06
import Derived.Test.YtghigdcpinengaaGreatK13
/-! The fire of treebijection in memory. -/
namespace Go.Proofs.YtghigdcpinengaaGreat
open Go.RowKit

/-- Where the fire's slices lie. -/
structure FireA where
  AE : Option Addr
  cE : Nat
  gB : Nat
  gT : Nat
  AS : Option Addr
  cS : Nat
  AO : Option Addr
  cO : Nat
  AD : Option Addr
  cD : Nat
  AH : Option Addr
  cH : Nat
def fireC (E : List (Nat × Nat)) (n : Nat) (lv : Value) (a : FireA) (s : FireS) (H : List Int) : Array Value :=
  #[.slice a.AE E.length a.cE, lv, .slice (some ⟨a.gB, 0, none⟩) n n, .slice (some ⟨a.gT, 0, none⟩) n n, .slice a.AS s.steps.length a.cS, .slice a.AO s.order.length a.cO, .slice a.AD s.tree.length a.cD, .slice a.AH H.length a.cH]
/-- Two slices in blocks of their own. -/
def Dj (A B : Option Addr) : Prop := ∀ k, blockOf A k → ¬ blockOf B k
theorem Dj.symm {A B : Option Addr} (h : Dj A B) : Dj B A := fun k h1 h2 => h k h2 h1
theorem Dj.upd {A A' B : Option Addr} {N : Nat} (h : Dj A B) (h1 : ∀ k, blockOf A' k → blockOf A k ∨ N ≤ k) (h2 : ∀ k, blockOf B k → k < N) : Dj A' B := fun k k1 k2 => by
  rcases h1 k k1 with h3 | h3
  · exact h k h3 k2
  · have := h2 k k2; omega
def bntL (n : Nat) (order : List Nat) : List Bool := (List.range n).map fun v => decide (v ∈ order)
theorem bntL_at {n v : Nat} {order : List Nat} (hv : v < n) : (bools (bntL n order))[v]? = some (.bool (decide (v ∈ order))) := by simp [bools, bntL, hv]
theorem bntL_set {n v : Nat} {order : List Nat} (hv : v < n) : (bools (bntL n order)).setIfInBounds v (.bool true) = bools (bntL n (order ++ [v])) := by
  apply Array.ext_getElem?
  intro i
  rw [Array.getElem?_setIfInBounds]
  by_cases hi : i < n
  · rw [bntL_at (order := order) hi, bntL_at (order := order ++ [v]) hi]
    by_cases h : v = i
    · subst h
      have hsz : v < (bools (bntL n order)).size := by simp [bools, bntL]; exact hv
      rw [if_pos rfl, if_pos hsz]; simp
    · rw [if_neg h]; simp [show ¬ i = v from fun e => h e.symm]
  · have h1 : (bools (bntL n order))[i]? = none := by simp [bools, bntL]; omega
    have h2 : (bools (bntL n (order ++ [v])))[i]? = none := by simp [bools, bntL]; omega
    rw [h1, h2]
    by_cases h : v = i
    · omega
    · rw [if_neg h]
structure FireW (w : World) (base b : Nat) (E : List (Nat × Nat)) (n : Nat) (lv : Value) (a : FireA) (s : FireS) (H : List Int) : Prop where
  blk : Blk w b 89 (fireC E n lv a s H)
  ends : Reads w base 2 a.AE E.length (pair2 E)
  burnt : Blk w a.gB 4 (bools (bntL n s.order))
  hb : base ≤ b
  hgB : base ≤ a.gB
  times : OwnI w base (some ⟨a.gT, 0, none⟩) n s.times
  tlen : s.times.length = n
  steps : OwnI w base a.AS a.cS (nI s.steps)
  order : OwnI w base a.AO a.cO (nI s.order)
  tree : OwnI w base a.AD a.cD (nI s.tree)
  next : OwnI w base a.AH a.cH H
  tS : Dj (some ⟨a.gT, 0, none⟩) a.AS
  tO : Dj (some ⟨a.gT, 0, none⟩) a.AO
  tD : Dj (some ⟨a.gT, 0, none⟩) a.AD
  tH : Dj (some ⟨a.gT, 0, none⟩) a.AH
  sO : Dj a.AS a.AO
  sD : Dj a.AS a.AD
  sH : Dj a.AS a.AH
  oD : Dj a.AO a.AD
  oH : Dj a.AO a.AH
  dH : Dj a.AD a.AH
section
variable {w w' : World} {base b n : Nat} {E : List (Nat × Nat)} {lv : Value} {a : FireA} {s : FireS} {H : List Int}
theorem own_ltI {A : Option Addr} {c : Nat} {xs : List Int} (h : OwnI w base A c xs) : ∀ k, blockOf A k → k < w.heap.size := fun _ hk => (own_lt h hk).2
theorem own_geI {A : Option Addr} {c : Nat} {xs : List Int} (h : OwnI w base A c xs) : ∀ k, blockOf A k → base ≤ k := fun _ hk => (own_lt h hk).1
theorem own_neB {A : Option Addr} {c g : Nat} {xs : List Int} {t : TypeId} {cs : Array Value} (h : OwnI w base A c xs) (hg : Blk w g t cs) (ht : 3 ≠ t) : ∀ k, blockOf A k → k ≠ g := fun _ hk => own_blk h hg ht hk
theorem FireW.ne (h : FireW w base b E n lv a s H) : a.gB ≠ b := fun e => Blk.ne_ h.burnt h.blk (by decide) e
/-- What has only made memory keeps the fire. -/
theorem FireW.keep (h : FireW w base b E n lv a s H) (hs : base ≤ w.heap.size) (hb : Below w.heap.size w w') : FireW w' base b E n lv a s H := by
  refine { h with blk := h.blk.next hb, ends := h.ends.below (hb.mono hs), burnt := h.burnt.next hb, times := h.times.next hb, steps := h.steps.next hb, order := h.order.next hb, tree := h.tree.next hb, next := h.next.next hb }
/-- The queue has turned (heap.Push, heap.Pop). -/
theorem FireW.queue {H' : List Int} {A' : Option Addr} {c' : Nat} (h : FireW w base b E n lv a s H) (hO : OwnI w' base A' c' H') (hB : Blk w' b 89 ((fireC E n lv a s H).setIfInBounds 7 (.slice A' H'.length c'))) (hW : Only (fun k => ofA a.AH k ∨ k = b) w w') (hA : ∀ k, blockOf A' k → blockOf a.AH k ∨ w.heap.size ≤ k) (hs : base ≤ w.heap.size) :
    FireW w' base b E n lv { a with AH := A', cH := c' } s H' := by
  have keepI : ∀ {A : Option Addr} {c : Nat} {xs : List Int}, OwnI w base A c xs → Dj A a.AH → OwnI w' base A c xs := fun {A c xs} ho hd => own_kept ho fun k hk => hW.block k (own_ltI ho k hk) fun hc => by
    rcases hc with hc | hc
    · exact hd k hk hc
    · exact own_neB ho h.blk (by decide) k hk hc
  have hbel : Below base w w' := hW.below (fun k hk hc => by
    rcases hc with hc | hc
    · have := own_geI h.next k hc; omega
    · have := h.hb; omega) hs
  refine { blk := hB, ends := h.ends.below hbel, burnt := ?_, hb := h.hb, hgB := h.hgB, times := keepI h.times h.tH, tlen := h.tlen, steps := keepI h.steps h.sH, order := keepI h.order h.oH, tree := keepI h.tree h.dH, next := hO, tS := h.tS, tO := h.tO, tD := h.tD, tH := ?_, sO := h.sO, sD := h.sD, sH := ?_, oD := h.oD, oH := ?_, dH := ?_ }
  · refine (hW.block a.gB h.burnt.lt fun hc => ?_).trans h.burnt
    rcases hc with hc | hc
    · exact own_neB h.next h.burnt (by decide) _ hc rfl
    · exact h.ne hc
  · exact (h.tH.symm.upd hA (own_ltI h.times)).symm
  · exact (h.sH.symm.upd hA (own_ltI h.steps)).symm
  · exact (h.oH.symm.upd hA (own_ltI h.order)).symm
  · exact (h.dH.symm.upd hA (own_ltI h.tree)).symm
/-- A vertex is marked as burnt and joins the order. -/
theorem FireW.mark {v : Nat} {w1 : World} {A' : Option Addr} {c' : Nat} {x : Nat} (h : FireW w base b E n lv a s H) (hv : v < n)
    (hg : ((w.setCell ⟨a.gB, v, none⟩ (.bool true)).alloc (.cells #[.int .i64 v] 3)).grownBy w1 (Value.slice a.AO x a.cO).ownBlock)
    (hO : OwnI w1 base A' c' (nI (s.order ++ [v]))) (hA : ∀ k, blockOf A' k → blockOf a.AO k ∨ w.heap.size ≤ k) :
    FireW (w1.setCell ⟨b, 5, none⟩ (.slice A' (s.order.length + 1) c')) base b E n lv { a with AO := A', cO := c' } { s with order := s.order ++ [v] } H := by
  have hk : ∀ k, k < w.heap.size → k ≠ b → k ≠ a.gB → ¬ blockOf a.AO k → (w1.setCell ⟨b, 5, none⟩ (.slice A' (s.order.length + 1) c')).heap[k]? = w.heap[k]? := fun k k1 k2 k3 k4 =>
    (Below.heap_setCell w1 ⟨b, 5, none⟩ _ k k2).trans ((hg.block k (by simp [World.setCell]; omega) (fun e => k4 (blockOf_own.1 e.symm))).trans ((Below.heap_alloc (w.setCell ⟨a.gB, v, none⟩ (.bool true)) _ k (by simp [World.setCell]; exact k1)).trans (Below.heap_setCell w ⟨a.gB, v, none⟩ _ k k3)))
  have keepI : ∀ {A : Option Addr} {c : Nat} {xs : List Int}, OwnI w base A c xs → Dj A a.AO → OwnI (w1.setCell ⟨b, 5, none⟩ (.slice A' (s.order.length + 1) c')) base A c xs := fun {A c xs} ho hd => own_kept ho fun k k1 => hk k (own_ltI ho k k1) (own_neB ho h.blk (by decide) k k1) (own_neB ho h.burnt (by decide) k k1) (hd k k1)
  have b1 : Blk w1 b 89 (fireC E n lv a s H) := (hg.block b (by have := h.blk.lt; simp [World.setCell]; omega) (fun e => own_neB h.order h.blk (by decide) b (blockOf_own.1 e.symm) rfl)).trans ((h.blk.far (p := ⟨a.gB, v, none⟩) (fun e => h.ne e.symm) _).alloc _)
  have g1 : Blk w1 a.gB 4 (bools (bntL n (s.order ++ [v]))) := by
    rw [← bntL_set hv]
    exact (hg.block a.gB (by have := h.burnt.lt; simp [World.setCell]; omega) (fun e => own_neB h.order h.burnt (by decide) a.gB (blockOf_own.1 e.symm) rfl)).trans ((h.burnt.set_ v _).alloc _)
  have hO' : OwnI (w1.setCell ⟨b, 5, none⟩ (.slice A' (s.order.length + 1) c')) base A' c' (nI (s.order ++ [v])) := own_kept hO fun k k1 => Below.heap_setCell w1 ⟨b, 5, none⟩ _ k (own_neB hO b1 (by decide) k k1)
  refine { blk := ?_, ends := ?_, burnt := g1.far (fun e => h.ne e) _, hb := h.hb, hgB := h.hgB, times := keepI h.times h.tO, tlen := h.tlen, steps := keepI h.steps h.sO, order := hO', tree := keepI h.tree h.oD.symm, next := keepI h.next h.oH.symm, tS := h.tS, tO := ?_, tD := h.tD, tH := h.tH, sO := ?_, sD := h.sD, sH := h.sH, oD := ?_, oH := ?_, dH := h.dH }
  · have := b1.set_ 5 (.slice A' (s.order.length + 1) c')
    have e : (fireC E n lv a s H).setIfInBounds 5 (.slice A' (s.order.length + 1) c') = fireC E n lv { a with AO := A', cO := c' } { s with order := s.order ++ [v] } H := by simp [fireC]
    rw [e] at this; exact this
  · refine h.ends.keep fun p hp => ?_
    have h1 := h.hb
    have h2 := h.hgB
    have hne : ¬ blockOf a.AO p.block := fun hc => by have := own_geI h.order _ hc; omega
    have e := hk p.block (by have := h.burnt.lt; omega) (by omega) (by omega) hne
    simp only [World.cell?, e]
  · exact (h.tO.symm.upd hA (own_ltI h.times)).symm
  · exact (h.sO.symm.upd hA (own_ltI h.steps)).symm
  · exact h.oD.upd hA (own_ltI h.tree)
  · exact h.oH.upd hA (own_ltI h.next)
end
theorem new_push {E : List (Nat × Nat)} {order : List Nat} {v k x0 x1 : Nat} (hp : E.getD k (0, 0) = (x0, x1)) (h0 : x0 ≠ x1) (h1 : x0 = v ∨ x1 = v) (h2 : x0 + x1 - v ∉ order) : newL E order v (k + 1) = newL E order v k ++ [k] := by
  unfold newL
  rw [List.range_succ, List.filter_append, List.filter_cons, hp]
  have : (decide (x0 ≠ x1) && (decide (x0 = v) || decide (x1 = v)) && !decide (x0 + x1 - v ∈ order)) = true := by
    rw [decide_eq_true h0, decide_eq_false h2]
    rcases h1 with h1 | h1 <;> simp [h1]
  simp only [this, if_pos, List.filter_nil]
theorem new_skip {E : List (Nat × Nat)} {order : List Nat} {v k x0 x1 : Nat} (hp : E.getD k (0, 0) = (x0, x1)) (h : x0 = x1 ∨ (x0 ≠ v ∧ x1 ≠ v) ∨ x0 + x1 - v ∈ order) : newL E order v (k + 1) = newL E order v k := by
  unfold newL
  rw [List.range_succ, List.filter_append, List.filter_cons, hp]
  have : (decide (x0 ≠ x1) && (decide (x0 = v) || decide (x1 = v)) && !decide (x0 + x1 - v ∈ order)) = false := by
    rcases h with h | ⟨h, h'⟩ | h
    · simp [h]
    · simp [h, h']
    · simp [h]
  simp only [this]
  simp
end Go.Proofs.YtghigdcpinengaaGreat

/-! (*fire).take: a vertex burns; its single edges wait. -/
namespace Go.Proofs.YtghigdcpinengaaGreat
open Go.RowKit

set_option maxRecDepth 100000 in
set_option maxHeartbeats 8000000 in
theorem take_any (base b n v : Nat) (E : List (Nat × Nat)) (lv : Value) (a : FireA) (s : FireS) (H : List Int) (hn : n ≤ 12) (hv : v < n) (hE : BdP n E) (hEl : E.length ≤ 200) (hHl : H.length ≤ 200) (hol : s.order.length ≤ 1000) (hH : HeapN H H.length) (w : World) (hF : FireW w base b E n lv a s H) (hs : base ≤ w.heap.size) :
    Calls Tryz.prog 139 #[.pointer (some ⟨b, 0, none⟩), .int .i64 v] w fun e w' => e = .returned (.tuple #[]) ∧ ∃ a' H', FireW w' base b E n lv a' { s with order := s.order ++ [v] } H' ∧ H'.Perm (H ++ nI (newL E (s.order ++ [v]) v E.length)) ∧ HeapN H' H'.length ∧ Below base w w' := by
  have HF := Lib.hid hF
  obtain ⟨AE, hAE⟩ : ∃ x, a.AE = x := ⟨_, rfl⟩
  have HAE := Lib.hid hAE
  clear hAE
  have kB := hF.blk.cell 2
  have fB := hF.burnt.frozen v
  have cB := (hF.burnt.cell v).trans (bntL_at hv)
  have hvi : (v : Int) < (n : Int) := by omega
  have b0 : Blk (w.setCell ⟨a.gB, v, none⟩ (.bool true)) b 89 (fireC E n lv a s H) := hF.blk.far (p := ⟨a.gB, v, none⟩) (fun e => hF.ne e.symm) _
  have o0 : OwnI (w.setCell ⟨a.gB, v, none⟩ (.bool true)) base a.AO a.cO (nI s.order) := own_kept hF.order fun k hk => Below.heap_setCell w ⟨a.gB, v, none⟩ _ k (own_neB hF.order hF.burnt (by decide) k hk)
  have z0 : base ≤ (w.setCell ⟨a.gB, v, none⟩ (.bool true)).heap.size := by simpa [World.setCell] using hs
  have own0 := own_lenH o0 (nI_length s.order)
  have hnb : ∀ k, blockOf a.AO k → k ≠ b := own_neB o0 b0 (by decide)
  have kB2 : w.cell? ⟨b, 2, none⟩ = some (.slice (some ⟨a.gB, 0, none⟩) n n) := kB
  have k52 : (w.setCell ⟨a.gB, v, none⟩ (.bool true)).cell? ⟨b, 5, none⟩ = some (.slice a.AO s.order.length a.cO) := b0.cell 5
  have HH := Lib.hid hH
  have HEB := Lib.hid hE
  have HNB := Lib.hid hnb
  have B0 := Lib.hid b0
  have hzw : (w.setCell ⟨a.gB, v, none⟩ (.bool true)).heap.size = w.heap.size := by simp [World.setCell]
  have hrb := Reads.box (w.setCell ⟨a.gB, v, none⟩ (.bool true)) (.int .i64 (v : Int)) 3
  rw [hzw] at hrb
  have HZW := Lib.hid hzw
  clear hF hH hE kB hnb b0 hzw o0
  go_enter Tryz.func139, Tryz.ntmps139
  go_wp2_with (first | (at_builtin; refine append_go rfl (.tmp 16) (.tmp 18) _ rfl base 3 Tryz.underlying25 info_int rfl (by omega) a.AO a.cO s.order.length (ints (nI s.order)) rfl (World.ownsRow.alloc own0 _) (w.heap.size + 1) [.int .i64 (v : Int)] rfl hrb (by simp [Value.oneCell']) (by omega) (by simp; omega) ?_; intro A5 c5 w5 hown5 hg5 hb5 hd5; have b5 : Blk w5 b 89 (fireC E n lv a s H) := (hg5.block b (by have h1 := B0.out.lt; rw [HZW.out] at h1; simp; omega) (fun e => HNB.out b (blockOf_own.1 e.symm) rfl)).trans (B0.out.alloc _); have fz5 := b5.frozen 5; have kc5 : w5.cell? ⟨b, 5, none⟩ = some (.slice a.AO s.order.length a.cO) := b5.cell 5; have kc0 : (w5.setCell ⟨b, 5, none⟩ (.slice A5 (s.order.length + 1) c5)).cell? ⟨b, 0, none⟩ = some (.slice AE E.length a.cE) := (by rw [← HAE.out]; exact (b5.set_ 5 (.slice A5 (s.order.length + 1) c5)).cell 0)) | fail)
  have hF := HF.out
  have hA5 : ∀ k, blockOf A5 k → blockOf a.AO k ∨ w.heap.size ≤ k := by
    intro k hk
    have hk2 : (Value.slice A5 (s.order.length + 1) c5).ownBlock = some k := blockOf_own.2 hk
    rcases hd5 with hd5 | hd5
    · rw [hd5] at hk2; exact .inl (blockOf_own.1 hk2)
    · rw [hd5] at hk2; injection hk2 with hk2; subst hk2; refine .inr ?_; simp [World.setCell]
  have o5 : OwnI w5 base A5 c5 (nI (s.order ++ [v])) := by
    unfold OwnI; rw [nI_length, List.length_append]
    have : ints (nI (s.order ++ [v])) = ints (nI s.order) ++ [.int .i64 (v : Int)] := by simp [nI, ints]
    rw [this]; exact hown5
  have F1 := Lib.hid (hF.mark (x := s.order.length) hv hg5 o5 hA5)
  have HP0 : Hid (Below base w (w5.setCell ⟨b, 5, none⟩ (.slice A5 (s.order.length + 1) c5))) := (((((Below.refl base w).setCell (p := ⟨a.gB, v, none⟩) hF.hgB (.bool true)).alloc z0 (.cells #[.int .i64 (v : Int)] 3)).trans hb5).setCell (p := ⟨b, 5, none⟩) hF.hb _)
  have hz5 : base ≤ (w5.setCell ⟨b, 5, none⟩ (.slice A5 (s.order.length + 1) c5)).heap.size := Nat.le_trans hs HP0.out.size
  have HZ5 := Lib.hid hz5
  clear hF hA5 o5 hown5 hg5 hd5 hb5 b5 fz5 kc5 own0 hrb k52 fB cB kB2 hz5
  go_loopw [27] (fun i wr => ∃ k : Nat, k ≤ E.length ∧ i = .int .i64 k ∧ Hid (base ≤ wr.heap.size) ∧ Hid (Below base w wr) ∧ Hid (∃ A' c' H', FireW wr base b E n lv { a with AO := A5, cO := c5, AH := A', cH := c' } { s with order := s.order ++ [v] } H' ∧ H'.Perm (H ++ nI (newL E (s.order ++ [v]) v k)) ∧ HeapN H' H'.length)) (fun i _ => E.length - (intOf i).toNat)
  case atStart => exact ⟨0, by omega, rfl, HZ5.out, HP0.out, a.AH, a.cH, H, F1.out, by simp [newL, nI], HH.out⟩
  case round =>
    obtain ⟨k, hk, rfl, HZ, HW, HI⟩ := hrel
    clear kc0
    obtain ⟨A1, c1, H1, hF1, hP1, hH1⟩ := HI.out
    by_cases hlt : k < E.length
    · obtain ⟨⟨x0, x1⟩, hp⟩ : ∃ p, E.getD k (0, 0) = p := ⟨_, rfl⟩
      have hab := getD_bd HEB.out hlt
      obtain ⟨bA, oA, hA, hbA, q0, q1⟩ := hF1.ends.pairAt (getD_some hlt)
      have hA2 : AE = some ⟨bA, oA, none⟩ := HAE.out.symm.trans hA
      subst hA2
      clear hA
      have hb2 : wr.cell? ⟨b, 2, none⟩ = some (.slice (some ⟨a.gB, 0, none⟩) n n) := hF1.blk.cell 2
      have hb2a : (wr.alloc (.cells #[.int .i64 (x0 : Int), .int .i64 (x1 : Int)] 63)).cell? ⟨b, 2, none⟩ = some (.slice (some ⟨a.gB, 0, none⟩) n n) := (hF1.blk.alloc _).cell 2
      rw [hp] at hab q0 q1
      dsimp only at hab q0 q1
      obtain ⟨h0, h1⟩ := hab
      have hl1 : H1.length ≤ 500 := by rw [hP1.length_eq, List.length_append, nI_length]; have := List.length_filter_le (fun e => decide ((E.getD e (0, 0)).1 ≠ (E.getD e (0, 0)).2) && (decide ((E.getD e (0, 0)).1 = v) || decide ((E.getD e (0, 0)).2 = v)) && !decide ((E.getD e (0, 0)).1 + (E.getD e (0, 0)).2 - v ∈ s.order ++ [v])) (List.range k); rw [List.length_range] at this; unfold newL; omega
      have QS := Lib.hid (fun W (hB : Below wr.heap.size wr W) => hF1.keep HZ.out hB)
      have hHl1 : H1.length ≤ 500 := hl1
      have PC : Hid (∀ W, Below wr.heap.size wr W → Calls Tryz.prog 157 #[.iface 179 (.pointer (some ⟨b, 7, none⟩)), .iface 3 (.int .i64 (k : Int))] W fun e w' => e = .returned (.tuple #[]) ∧ Hid (base ≤ w'.heap.size) ∧ Hid (Below base w w') ∧ Hid (∃ A' c' H', FireW w' base b E n lv { a with AO := A5, cO := c5, AH := A', cH := c' } { s with order := s.order ++ [v] } H' ∧ H'.Perm (H ++ nI (newL E (s.order ++ [v]) v k) ++ [(k : Int)]) ∧ HeapN H' H'.length)) := by
        intro W hB
        have hFW := QS.out W hB
        have hz : base ≤ W.heap.size := Nat.le_trans HZ.out hB.size
        refine (hpush_any b 7 base 89 (by decide) _ (by simp [fireC]) A1 c1 H1 H1.length rfl (by omega) hH1 (k : Int) W hFW.next hz hFW.blk (by simp [fireC])).mono ?_
        rintro e w' ⟨he, A', c', H', l', p', h', o', b', W', D'⟩
        rw [← l'] at b' h'
        have hbel : Below base W w' := W'.below (fun j hj hc => by
          rcases hc with hc | hc
          · have := own_geI hFW.next j hc; omega
          · have := hFW.hb; omega) hz
        refine ⟨he, Nat.le_trans hz hbel.size, (HW.out.trans (hB.mono HZ.out)).trans hbel, A', c', H', hFW.queue o' b' W' D' hz, ?_, h'⟩
        refine p'.trans ((List.Perm.cons _ hP1).trans ?_)
        exact List.perm_append_comm (l₁ := [(k : Int)])
      have HP := Lib.hid hp
      obtain ⟨y, hy⟩ : ∃ y, x0 + x1 - v = y := ⟨_, rfl⟩
      have hbt := fun (hyn : y < n) => ((hF1.burnt.alloc (w := wr) (.cells #[.int .i64 (x0 : Int), .int .i64 (x1 : Int)] 63)).cell y).trans (bntL_at (order := s.order ++ [v]) hyn)
      have SKIP : Hid ((x0 = x1 ∨ (x0 ≠ v ∧ x1 ≠ v) ∨ x0 + x1 - v ∈ s.order ++ [v]) → ∀ W, Below wr.heap.size wr W → Hid (base ≤ W.heap.size) ∧ Hid (Below base w W) ∧ Hid (∃ A' c' H', FireW W base b E n lv { a with AO := A5, cO := c5, AH := A', cH := c' } { s with order := s.order ++ [v] } H' ∧ H'.Perm (H ++ nI (newL E (s.order ++ [v]) v (k + 1))) ∧ HeapN H' H'.length)) := by
        intro hc W hB
        refine ⟨Nat.le_trans HZ.out hB.size, HW.out.trans (hB.mono HZ.out), A1, c1, H1, QS.out W hB, ?_, hH1⟩
        rw [new_skip HP.out hc]; exact hP1
      clear hF1 hP1 hH1 hp HI hl1 hHl1
      have hki : (k : Int) < (E.length : Int) := by omega
      by_cases e01 : x0 = x1
      · subst e01
        have hne : ((x0 : Int) != (x0 : Int)) = false := by simp
        clear hbt
        have SK := Lib.hid (SKIP.out (.inl rfl))
        clear SKIP
        go_wp2_with fail
        go_quiet (fail)
        go_wp2
        go_roundw
        case rel => exact ⟨k + 1, by omega, by go_num, SK.out _ (by exact below_drewN ((Below.refl _ _).alloc (Nat.le_refl _) _) _)⟩
        case measure => simp [intOf]; omega
      · have hne : ((x0 : Int) != (x1 : Int)) = true := bne_iff_ne.2 (by omega)
        by_cases ev : x0 = v ∨ x1 = v
        · have hyn : y < n := by omega
          have hyi : (y : Int) < (n : Int) := by omega
          have hby := hbt hyn
          have hw1 : IntKind.i64.wrap ((x0 : Int) + (x1 : Int)) = (x0 : Int) + (x1 : Int) := IntWalk.i64_in _ (by omega)
          have hw2 : IntKind.i64.wrap ((x0 : Int) + (x1 : Int) - (v : Int)) = (y : Int) := by rw [IntWalk.i64_in _ (by omega)]; omega
          clear hbt
          rw [hy] at SKIP
          by_cases e0 : x0 = v
          · have hq0 : ((x0 : Int) == (v : Int)) = true := by simp [e0]
            by_cases hbn : x0 + x1 - v ∈ s.order ++ [v]
            · rw [hy] at hbn
              rw [decide_eq_true hbn] at hby
              have E0 := Lib.hid ev
              have EY := Lib.hid hy
              clear ev hy e0
              have SK := Lib.hid (SKIP.out (.inr (.inr hbn)))
              clear SKIP
              go_wp2_with fail
              go_quiet (fail)
              go_wp2
              go_roundw
              case rel => exact ⟨k + 1, by omega, by go_num, SK.out _ (by exact below_drewN ((Below.refl _ _).alloc (Nat.le_refl _) _) _)⟩
              case measure => simp [intOf]; omega
            · have hb2_ := hbn
              rw [hy] at hb2_
              rw [decide_eq_false hb2_] at hby
              have HN := new_push HP.out e01 (.inl e0) hbn
              have HN := Lib.hid HN
              clear e0 ev hy hbn hb2_
              clear SKIP
              go_wp2_with fail
              go_quiet (fail)
              go_wp2_with fail
              refine (PC.out _ (by exact below_drewN ((Below.refl _ _).alloc (Nat.le_refl _) _) _)).mono ?_
              rintro e w8 ⟨rfl, HZ8, HW8, HI8⟩
              go_wp2
              go_roundw
              case rel =>
                refine ⟨k + 1, by omega, by go_num, HZ8, HW8, ?_⟩
                obtain ⟨A', c', H', f', p', h'⟩ := HI8.out
                refine ⟨A', c', H', f', ?_, h'⟩
                rw [HN.out, nI, List.map_append, ← List.append_assoc]; exact p'
              case measure => simp [intOf]; omega
          · have hq0 : ((x0 : Int) == (v : Int)) = false := by simp; omega
            have hq1 : ((x1 : Int) == (v : Int)) = true := by simp; omega
            by_cases hbn : x0 + x1 - v ∈ s.order ++ [v]
            · rw [hy] at hbn
              rw [decide_eq_true hbn] at hby
              have E0 := Lib.hid ev
              have EY := Lib.hid hy
              clear ev hy
              have SK := Lib.hid (SKIP.out (.inr (.inr hbn)))
              clear SKIP
              go_wp2_with fail
              go_quiet (fail)
              go_wp2
              go_roundw
              case rel => exact ⟨k + 1, by omega, by go_num, SK.out _ (by exact below_drewN ((Below.refl _ _).alloc (Nat.le_refl _) _) _)⟩
              case measure => simp [intOf]; omega
            · have hb2_ := hbn
              rw [hy] at hb2_
              rw [decide_eq_false hb2_] at hby
              have HN := new_push HP.out e01 (.inr (by omega)) hbn
              have HN := Lib.hid HN
              clear ev hy hbn hb2_
              clear SKIP
              go_wp2_with fail
              go_quiet (fail)
              go_wp2_with fail
              refine (PC.out _ (by exact below_drewN ((Below.refl _ _).alloc (Nat.le_refl _) _) _)).mono ?_
              rintro e w8 ⟨rfl, HZ8, HW8, HI8⟩
              go_wp2
              go_roundw
              case rel =>
                refine ⟨k + 1, by omega, by go_num, HZ8, HW8, ?_⟩
                obtain ⟨A', c', H', f', p', h'⟩ := HI8.out
                refine ⟨A', c', H', f', ?_, h'⟩
                rw [HN.out, nI, List.map_append, ← List.append_assoc]; exact p'
              case measure => simp [intOf]; omega
        · have hq0 : ((x0 : Int) == (v : Int)) = false := by simp; omega
          have hq1 : ((x1 : Int) == (v : Int)) = false := by simp; omega
          clear hbt
          have SK := Lib.hid (SKIP.out (.inr (.inl ⟨fun e => ev (.inl e), fun e => ev (.inr e)⟩)))
          clear SKIP
          go_wp2_with fail
          go_quiet (fail)
          go_wp2
          go_roundw
          case rel => exact ⟨k + 1, by omega, by go_num, SK.out _ (by exact below_drewN ((Below.refl _ _).alloc (Nat.le_refl _) _) _)⟩
          case measure => simp [intOf]; omega
    · obtain rfl : k = E.length := by omega
      clear HI
      have hF1 := Lib.hid hF1
      have hP1 := Lib.hid hP1
      have hH1 := Lib.hid hH1
      go_wp2
      exact bodyPost_end (results_none rfl _ _ _) rfl ⟨rfl, _, H1, hF1.out, hP1.out, hH1.out, HW.out⟩
end Go.Proofs.YtghigdcpinengaaGreat

/-! The fire's steps in memory: an element joins steps or tree. -/
namespace Go.Proofs.YtghigdcpinengaaGreat
open Go.RowKit
section
variable {w w' : World} {base b n : Nat} {E : List (Nat × Nat)} {lv : Value} {a : FireA} {s : FireS} {H : List Int}
/-- An element joins steps. -/
theorem FireW.step {e : Nat} {w1 : World} {A' : Option Addr} {c' : Nat} {x : Nat} (h : FireW w base b E n lv a s H)
    (hg : (w.alloc (.cells #[.int .i64 e] 3)).grownBy w1 (Value.slice a.AS x a.cS).ownBlock)
    (hO : OwnI w1 base A' c' (nI (s.steps ++ [e]))) (hA : ∀ k, blockOf A' k → blockOf a.AS k ∨ w.heap.size ≤ k) :
    FireW (w1.setCell ⟨b, 4, none⟩ (.slice A' (s.steps.length + 1) c')) base b E n lv { a with AS := A', cS := c' } { s with steps := s.steps ++ [e] } H := by
  have hk : ∀ k, k < w.heap.size → k ≠ b → ¬ blockOf a.AS k → (w1.setCell ⟨b, 4, none⟩ (.slice A' (s.steps.length + 1) c')).heap[k]? = w.heap[k]? := fun k k1 k2 k4 =>
    (Below.heap_setCell w1 ⟨b, 4, none⟩ _ k k2).trans ((hg.block k (by simp; omega) (fun e => k4 (blockOf_own.1 e.symm))).trans (Below.heap_alloc w _ k k1))
  have keepI : ∀ {A : Option Addr} {c : Nat} {xs : List Int}, OwnI w base A c xs → Dj A a.AS → OwnI (w1.setCell ⟨b, 4, none⟩ (.slice A' (s.steps.length + 1) c')) base A c xs := fun {A c xs} ho hd => own_kept ho fun k k1 => hk k (own_ltI ho k k1) (own_neB ho h.blk (by decide) k k1) (hd k k1)
  have b1 : Blk w1 b 89 (fireC E n lv a s H) := (hg.block b (by have := h.blk.lt; simp; omega) (fun e => own_neB h.steps h.blk (by decide) b (blockOf_own.1 e.symm) rfl)).trans (h.blk.alloc _)
  have g1 : Blk w1 a.gB 4 (bools (bntL n s.order)) := (hg.block a.gB (by have := h.burnt.lt; simp; omega) (fun e => own_neB h.steps h.burnt (by decide) a.gB (blockOf_own.1 e.symm) rfl)).trans (h.burnt.alloc _)
  have hO' : OwnI (w1.setCell ⟨b, 4, none⟩ (.slice A' (s.steps.length + 1) c')) base A' c' (nI (s.steps ++ [e])) := own_kept hO fun k k1 => Below.heap_setCell w1 ⟨b, 4, none⟩ _ k (own_neB hO b1 (by decide) k k1)
  refine { blk := ?_, ends := ?_, burnt := g1.far (fun e => h.ne e) _, hb := h.hb, hgB := h.hgB, tlen := h.tlen, times := keepI h.times h.tS, order := keepI h.order h.sO.symm, tree := keepI h.tree h.sD.symm, next := keepI h.next h.sH.symm, steps := hO', tS := (h.tS.symm.upd hA (own_ltI h.times)).symm, tO := h.tO, tD := h.tD, tH := h.tH, sO := h.sO.upd hA (own_ltI h.order), sD := h.sD.upd hA (own_ltI h.tree), sH := h.sH.upd hA (own_ltI h.next), oD := h.oD, oH := h.oH, dH := h.dH }
  · have := b1.set_ 4 (.slice A' (s.steps.length + 1) c')
    have e : (fireC E n lv a s H).setIfInBounds 4 (.slice A' (s.steps.length + 1) c') = fireC E n lv { a with AS := A', cS := c' } { s with steps := s.steps ++ [e] } H := by simp [fireC]
    rw [e] at this; exact this
  · refine h.ends.keep fun p hp => ?_
    have h1 := h.hb
    have hne : ¬ blockOf a.AS p.block := fun hc => by have := own_geI h.steps _ hc; omega
    have e := hk p.block (by have := h.blk.lt; omega) (by omega) hne
    simp only [World.cell?, e]
/-- An element joins tree. -/
theorem FireW.edge {e : Nat} {w1 : World} {A' : Option Addr} {c' : Nat} {x : Nat} (h : FireW w base b E n lv a s H)
    (hg : (w.alloc (.cells #[.int .i64 e] 3)).grownBy w1 (Value.slice a.AD x a.cD).ownBlock)
    (hO : OwnI w1 base A' c' (nI (s.tree ++ [e]))) (hA : ∀ k, blockOf A' k → blockOf a.AD k ∨ w.heap.size ≤ k) :
    FireW (w1.setCell ⟨b, 6, none⟩ (.slice A' (s.tree.length + 1) c')) base b E n lv { a with AD := A', cD := c' } { s with tree := s.tree ++ [e] } H := by
  have hk : ∀ k, k < w.heap.size → k ≠ b → ¬ blockOf a.AD k → (w1.setCell ⟨b, 6, none⟩ (.slice A' (s.tree.length + 1) c')).heap[k]? = w.heap[k]? := fun k k1 k2 k4 =>
    (Below.heap_setCell w1 ⟨b, 6, none⟩ _ k k2).trans ((hg.block k (by simp; omega) (fun e => k4 (blockOf_own.1 e.symm))).trans (Below.heap_alloc w _ k k1))
  have keepI : ∀ {A : Option Addr} {c : Nat} {xs : List Int}, OwnI w base A c xs → Dj A a.AD → OwnI (w1.setCell ⟨b, 6, none⟩ (.slice A' (s.tree.length + 1) c')) base A c xs := fun {A c xs} ho hd => own_kept ho fun k k1 => hk k (own_ltI ho k k1) (own_neB ho h.blk (by decide) k k1) (hd k k1)
  have b1 : Blk w1 b 89 (fireC E n lv a s H) := (hg.block b (by have := h.blk.lt; simp; omega) (fun e => own_neB h.tree h.blk (by decide) b (blockOf_own.1 e.symm) rfl)).trans (h.blk.alloc _)
  have g1 : Blk w1 a.gB 4 (bools (bntL n s.order)) := (hg.block a.gB (by have := h.burnt.lt; simp; omega) (fun e => own_neB h.tree h.burnt (by decide) a.gB (blockOf_own.1 e.symm) rfl)).trans (h.burnt.alloc _)
  have hO' : OwnI (w1.setCell ⟨b, 6, none⟩ (.slice A' (s.tree.length + 1) c')) base A' c' (nI (s.tree ++ [e])) := own_kept hO fun k k1 => Below.heap_setCell w1 ⟨b, 6, none⟩ _ k (own_neB hO b1 (by decide) k k1)
  refine { blk := ?_, ends := ?_, burnt := g1.far (fun e => h.ne e) _, hb := h.hb, hgB := h.hgB, tlen := h.tlen, times := keepI h.times h.tD, order := keepI h.order h.oD, steps := keepI h.steps h.sD, next := keepI h.next h.dH.symm, tree := hO', tS := h.tS, tO := h.tO, tD := (h.tD.symm.upd hA (own_ltI h.times)).symm, tH := h.tH, sO := h.sO, sD := (h.sD.symm.upd hA (own_ltI h.steps)).symm, sH := h.sH, oD := (h.oD.symm.upd hA (own_ltI h.order)).symm, oH := h.oH, dH := h.dH.upd hA (own_ltI h.next) }
  · have := b1.set_ 6 (.slice A' (s.tree.length + 1) c')
    have e : (fireC E n lv a s H).setIfInBounds 6 (.slice A' (s.tree.length + 1) c') = fireC E n lv { a with AD := A', cD := c' } { s with tree := s.tree ++ [e] } H := by simp [fireC]
    rw [e] at this; exact this
  · refine h.ends.keep fun p hp => ?_
    have h1 := h.hb
    have hne : ¬ blockOf a.AD p.block := fun hc => by have := own_geI h.tree _ hc; omega
    have e := hk p.block (by have := h.blk.lt; omega) (by omega) hne
    simp only [World.cell?, e]
/-- A time goes up. -/
theorem FireW.time (h : FireW w base b E n lv a s H) (v : Nat) (x : Int) : FireW (w.setCell ⟨a.gT, v, none⟩ (.int .i64 x)) base b E n lv a { s with times := s.times.set v x } H := by
  have hT : blockOf (some ⟨a.gT, 0, none⟩) a.gT := by simp [blockOf]
  have hbT : base ≤ a.gT := own_geI h.times _ hT
  have nb : a.gT ≠ b := own_neB h.times h.blk (by decide) _ hT
  have ng : a.gT ≠ a.gB := own_neB h.times h.burnt (by decide) _ hT
  have keepI : ∀ {A : Option Addr} {c : Nat} {xs : List Int}, OwnI w base A c xs → Dj (some ⟨a.gT, 0, none⟩) A → OwnI (w.setCell ⟨a.gT, v, none⟩ (.int .i64 x)) base A c xs := fun {A c xs} ho hd => own_kept ho fun k k1 => Below.heap_setCell w ⟨a.gT, v, none⟩ _ k (fun e => by have e : k = a.gT := e; subst e; exact hd _ hT k1)
  refine { h with blk := ?_, ends := ?_, burnt := h.burnt.far (fun e => ng e.symm) _, times := h.times.put v x, tlen := by rw [List.length_set]; exact h.tlen, steps := keepI h.steps h.tS, order := keepI h.order h.tO, tree := keepI h.tree h.tD, next := keepI h.next h.tH }
  · exact h.blk.far (p := ⟨a.gT, v, none⟩) (fun e => nb e.symm) _
  · refine h.ends.keep fun p hp => ?_
    have e := Below.heap_setCell w ⟨a.gT, v, none⟩ (.int .i64 x) p.block (by show p.block ≠ a.gT; omega)
    simp only [World.cell?, e]
/-- A slice's length, read out of its cell. -/
def lenAt (w : World) (b o : Nat) : Nat := match w.cell? ⟨b, o, none⟩ with | some (.slice _ m _) => m | _ => 0
theorem lenAt_of {b o m c : Nat} {A : Option Addr} (h : w.cell? ⟨b, o, none⟩ = some (.slice A m c)) : lenAt w b o = m := by unfold lenAt; rw [h]
theorem FireW.lenH (h : FireW w base b E n lv a s H) : lenAt w b 7 = H.length := lenAt_of (h.blk.cell 7)
theorem FireW.lenO (h : FireW w base b E n lv a s H) : lenAt w b 5 = s.order.length := lenAt_of (h.blk.cell 5)
end
end Go.Proofs.YtghigdcpinengaaGreat

