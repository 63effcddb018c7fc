/-
  Texts of this claim, put together: BtW.
-/
import Derived.Test.YtghigdcpinengaaGreatK44
import Derived.Test.YtghigdcpinengaaGreatK14
import Derived.Test.YtghigdcpinengaaGreatK45
import Derived.Test.YtghigdcpinengaaGreatK10
import Derived.Test.YtghigdcpinengaaGreatK19
import Derived.Deep.CutRange
import Derived.Deep.CutBlock
import Derived.Deep.RegionLaw
/-! ref30.Burnt: the reference's fire. -/
namespace Go.Proofs.YtghigdcpinengaaGreat
open Go.RowKit

/-- Where the reference's fire lies. -/
structure BtA where
  AS : Option Addr
  cS : Nat
  AO : Option Addr
  cO : Nat
  AD : Option Addr
  cD : Nat
  gT : Nat
def btC (n : Nat) (a : BtA) (s : FireS) : Array Value := #[.slice a.AS s.steps.length a.cS, .slice a.AO s.order.length a.cO, .slice a.AD s.tree.length a.cD, .slice (some ⟨a.gT, 0, none⟩) n n]
structure BtW (w : World) (base b n : Nat) (a : BtA) (s : FireS) : Prop where
  blk : Blk w b 35 (btC n a s)
  hb : base ≤ b
  times : OwnI w base (some ⟨a.gT, 0, none⟩) n s.times
  tlen : s.times.length = n
  steps : OwnI w base a.AS a.cS (nI s.steps)
  order : OwnI w base a.AO a.cO (nI s.order)
  tree : OwnI w base a.AD a.cD (nI s.tree)
  tS : Dj (some ⟨a.gT, 0, none⟩) a.AS
  tO : Dj (some ⟨a.gT, 0, none⟩) a.AO
  tD : Dj (some ⟨a.gT, 0, none⟩) a.AD
  sO : Dj a.AS a.AO
  sD : Dj a.AS a.AD
  oD : Dj a.AO a.AD
section
variable {w w' : World} {base b n : Nat} {a : BtA} {s : FireS}
theorem BtW.keep (h : BtW w base b n a s) (hb : Below w.heap.size w w') : BtW w' base b n a s :=
  { h with blk := h.blk.next hb, times := h.times.next hb, steps := h.steps.next hb, order := h.order.next hb, tree := h.tree.next hb }
/-- An element joins steps. -/
theorem BtW.step {e : Nat} {w1 : World} {A' : Option Addr} {c' x : Nat} (h : BtW w base b n a s)
    (hg : (w.alloc (.cells #[.int .i64 e] 3)).grownBy w1 (Value.slice a.AS x a.cS).ownBlock)
    (hO : OwnI w1 base A' c' (nI (s.steps ++ [e]))) (hA : ∀ k, blockOf A' k → blockOf a.AS k ∨ w.heap.size ≤ k) :
    BtW (w1.setCell ⟨b, 0, none⟩ (.slice A' (s.steps.length + 1) c')) base b n { a with AS := A', cS := c' } { s with steps := s.steps ++ [e] } := by
  have hk : ∀ k, k < w.heap.size → k ≠ b → ¬ blockOf a.AS k → (w1.setCell ⟨b, 0, none⟩ (.slice A' (s.steps.length + 1) c')).heap[k]? = w.heap[k]? := fun k k1 k2 k4 =>
    (Below.heap_setCell w1 ⟨b, 0, none⟩ _ k k2).trans ((hg.block k (by simp; omega) (fun e => k4 (blockOf_own.1 e.symm))).trans (Below.heap_alloc w _ k k1))
  have keepI : ∀ {A : Option Addr} {c : Nat} {xs : List Int}, OwnI w base A c xs → Dj A a.AS → OwnI (w1.setCell ⟨b, 0, none⟩ (.slice A' (s.steps.length + 1) c')) base A c xs := fun {A c xs} ho hd => own_kept ho fun k k1 => hk k (own_ltI ho k k1) (own_neB ho h.blk (by decide) k k1) (hd k k1)
  have b1 : Blk w1 b 35 (btC n a s) := (hg.block b (by have := h.blk.lt; simp; omega) (fun e => own_neB h.steps h.blk (by decide) b (blockOf_own.1 e.symm) rfl)).trans (h.blk.alloc _)
  have hO' : OwnI (w1.setCell ⟨b, 0, none⟩ (.slice A' (s.steps.length + 1) c')) base A' c' (nI (s.steps ++ [e])) := own_kept hO fun k k1 => Below.heap_setCell w1 ⟨b, 0, none⟩ _ k (own_neB hO b1 (by decide) k k1)
  refine { blk := ?_, hb := h.hb, times := keepI h.times h.tS, tlen := h.tlen, steps := hO', order := keepI h.order h.sO.symm, tree := keepI h.tree h.sD.symm, tS := (h.tS.symm.upd hA (own_ltI h.times)).symm, tO := h.tO, tD := h.tD, sO := h.sO.upd hA (own_ltI h.order), sD := h.sD.upd hA (own_ltI h.tree), oD := h.oD }
  have := b1.set_ 0 (.slice A' (s.steps.length + 1) c')
  have e : (btC n a s).setIfInBounds 0 (.slice A' (s.steps.length + 1) c') = btC n { a with AS := A', cS := c' } { s with steps := s.steps ++ [e] } := by simp [btC]
  rw [e] at this; exact this
/-- A time goes up. -/
theorem BtW.time (h : BtW w base b n a s) (v : Nat) (x : Int) : BtW (w.setCell ⟨a.gT, v, none⟩ (.int .i64 x)) base b n a { s with times := s.times.set v x } := by
  have hT : blockOf (some ⟨a.gT, 0, none⟩) a.gT := by simp [blockOf]
  have nb : a.gT ≠ b := own_neB h.times h.blk (by decide) _ hT
  have keepI : ∀ {A : Option Addr} {c : Nat} {xs : List Int}, OwnI w base A c xs → Dj (some ⟨a.gT, 0, none⟩) A → OwnI (w.setCell ⟨a.gT, v, none⟩ (.int .i64 x)) base A c xs := fun {A c xs} ho hd => own_kept ho fun k k1 => Below.heap_setCell w ⟨a.gT, v, none⟩ _ k (fun e => by have e : k = a.gT := e; subst e; exact hd _ hT k1)
  exact { h with blk := h.blk.far (p := ⟨a.gT, v, none⟩) (fun e => nb e.symm) _, times := h.times.put v x, tlen := by rw [List.length_set]; exact h.tlen, steps := keepI h.steps h.tS, order := keepI h.order h.tO, tree := keepI h.tree h.tD }
/-- Order and tree have grown, in whatever order, and their cells are stored. -/
theorem BtW.both {v e : Nat} {w5 : World} {A1 A2 : Option Addr} {c1 c2 : Nat} (h : BtW w base b n a s)
    (hk : ∀ k, k < w.heap.size → ¬ blockOf a.AO k → ¬ blockOf a.AD k → w5.heap[k]? = w.heap[k]?) (hO : OwnI w5 base A1 c1 (nI (s.order ++ [v]))) (hD : OwnI w5 base A2 c2 (nI (s.tree ++ [e])))
    (h1 : ∀ k, blockOf A1 k → blockOf a.AO k ∨ w.heap.size ≤ k) (h2 : ∀ k, blockOf A2 k → blockOf a.AD k ∨ w.heap.size ≤ k) (h12 : Dj A1 A2) :
    BtW ((w5.setCell ⟨b, 1, none⟩ (.slice A1 (s.order.length + 1) c1)).setCell ⟨b, 2, none⟩ (.slice A2 (s.tree.length + 1) c2)) base b n { a with AO := A1, cO := c1, AD := A2, cD := c2 } { s with order := s.order ++ [v], tree := s.tree ++ [e] } := by
  have b5 : Blk w5 b 35 (btC n a s) := (hk b h.blk.lt (fun hc => own_neB h.order h.blk (by decide) b hc rfl) (fun hc => own_neB h.tree h.blk (by decide) b hc rfl)).trans h.blk
  have hst : ∀ k, k ≠ b → ((w5.setCell ⟨b, 1, none⟩ (.slice A1 (s.order.length + 1) c1)).setCell ⟨b, 2, none⟩ (.slice A2 (s.tree.length + 1) c2)).heap[k]? = w5.heap[k]? := fun k hkb => (Below.heap_setCell _ ⟨b, 2, none⟩ _ k hkb).trans (Below.heap_setCell _ ⟨b, 1, none⟩ _ k hkb)
  have keepI : ∀ {A : Option Addr} {c : Nat} {xs : List Int}, OwnI w base A c xs → Dj A a.AO → Dj A a.AD → OwnI ((w5.setCell ⟨b, 1, none⟩ (.slice A1 (s.order.length + 1) c1)).setCell ⟨b, 2, none⟩ (.slice A2 (s.tree.length + 1) c2)) base A c xs := fun {A c xs} ho hd1 hd2 => own_kept ho fun k k1 => (hst k (own_neB ho h.blk (by decide) k k1)).trans (hk k (own_ltI ho k k1) (hd1 k k1) (hd2 k k1))
  have new5 : ∀ {A : Option Addr} {c : Nat} {xs : List Int}, OwnI w5 base A c xs → OwnI ((w5.setCell ⟨b, 1, none⟩ (.slice A1 (s.order.length + 1) c1)).setCell ⟨b, 2, none⟩ (.slice A2 (s.tree.length + 1) c2)) base A c xs := fun {A c xs} ho => own_kept ho fun k k1 => hst k (own_neB ho b5 (by decide) k k1)
  refine { blk := ?_, hb := h.hb, times := keepI h.times h.tO h.tD, tlen := h.tlen, steps := keepI h.steps h.sO h.sD, order := new5 hO, tree := new5 hD, tS := h.tS, tO := (h.tO.symm.upd h1 (own_ltI h.times)).symm, tD := (h.tD.symm.upd h2 (own_ltI h.times)).symm, sO := (h.sO.symm.upd h1 (own_ltI h.steps)).symm, sD := (h.sD.symm.upd h2 (own_ltI h.steps)).symm, oD := h12 }
  have := (b5.set_ 1 (.slice A1 (s.order.length + 1) c1)).set_ 2 (.slice A2 (s.tree.length + 1) c2)
  have e : ((btC n a s).setIfInBounds 1 (.slice A1 (s.order.length + 1) c1)).setIfInBounds 2 (.slice A2 (s.tree.length + 1) c2) = btC n { a with AO := A1, cO := c1, AD := A2, cD := c2 } { s with order := s.order ++ [v], tree := s.tree ++ [e] } := by simp [btC]
  rw [e] at this; exact this
end
theorem readsNB {w : World} {base : Nat} {A : Option Addr} {c k : Nat} {l : List Nat} (h : OwnI w base A c (nI l)) (hk : l.length = k) : Reads w w.heap.size 1 A k (ints (nI l)) := by
  have := h.reads
  rw [nI_length, hk] at this
  exact this
theorem sort_asc {m : Nat} {l : List Nat} (hn : l.Nodup) (hl : ∀ e ∈ l, e < m) : sortG ltI (nI l) = nI (ascN m l) := by
  refine sortI_eq ((asc_perm hn hl).symm.map _) ?_
  unfold nI
  rw [List.pairwise_map]
  exact (asc_set m l).1.imp fun h => by omega
theorem info_rfire : (Tryz.prog.info? 35).map (·.size) = some 4 := by kernel_rfl
theorem results_rf {fn : Func} {p : Tmp} {tmps : Array Value} {w : World} {g : Nat} {cs : Array Value} (h : fn.results = #[.cell p 35]) (hp : tmps.getD p undef = .pointer (some ⟨g, 0, none⟩)) (hg : Blk w g 35 cs) (hs : cs.size = 4) :
    (results fn tmps).run Tryz.prog w = .ok (.agg cs) w := by
  exact results_cell_row h tmps w g _ cs _ _ hp hg Tryz.underlying35 rfl (by rw [info_rfire, hs])
theorem fin5 {w : World} {base b r : Nat} {A : Option Addr} {c : Nat} {xs : List Int} {cs ds : Array Value} (h : OwnI w base A c xs) (hb : Blk w b 35 cs) (hr : Blk w r 35 ds) (hne : r ≠ b) (u0 u1 u2 u3 u4 : Value) :
    OwnI (((((w.setCell ⟨b, 2, none⟩ u0).setCell ⟨r, 0, none⟩ u1).setCell ⟨r, 1, none⟩ u2).setCell ⟨r, 2, none⟩ u3).setCell ⟨r, 3, none⟩ u4) base A c xs := by
  have r1 := hr.far (p := ⟨b, 2, none⟩) hne u0
  have r2 := r1.set_ 0 u1
  have r3 := r2.set_ 1 u2
  have r4 := r3.set_ 2 u3
  exact ((((h.set_blk hb (by decide) 2 u0).set_blk r1 (by decide) 0 u1).set_blk r2 (by decide) 1 u2).set_blk r3 (by decide) 2 u3).set_blk r4 (by decide) 3 u4
theorem own_grownI {X W w5 : World} {base : Nat} {A D : Option Addr} {c x : Nat} {xs : List Int} (h : OwnI X base D c xs) (hW : Below X.heap.size X W) {cA : Nat} (hg : W.grownBy w5 (Value.slice A x cA).ownBlock) (hd : Dj A D) : OwnI w5 base D c xs :=
  own_kept h fun k hk => (hg.block k (Nat.lt_of_lt_of_le (own_ltI h k hk) hW.size) fun e => hd k (blockOf_own.1 e.symm) hk).trans (hW.block k (own_ltI h k hk))
theorem blk_grown {X W w5 : World} {g : Nat} {T : TypeId} {cs : Array Value} {A : Option Addr} {x cA : Nat} (h : Blk X g T cs) (hW : Below X.heap.size X W) (hg : W.grownBy w5 (Value.slice A x cA).ownBlock) (hd : ¬ blockOf A g) : Blk w5 g T cs :=
  (hg.block g (Nat.lt_of_lt_of_le h.lt hW.size) fun e => hd (blockOf_own.1 e.symm)).trans (hW.block g h.lt |>.trans h)
theorem box_blk {W : World} {g B : Nat} {u : Value} (h5 : Blk W g 3 #[u]) (hB : g < B) : Reads W B 1 (some ⟨g, 0, none⟩) 1 [u] := by
  refine ⟨rfl, fun _ => ⟨g, 0, rfl, hB, fun j v hv => ?_⟩⟩
  have hj : j = 0 := by
    rcases Nat.eq_zero_or_pos j with h | h
    · exact h
    · rw [List.getElem?_eq_none (by simp; omega)] at hv; cases hv
  subst hj
  have : u = v := by simpa using hv
  subst this
  exact h5.cell 0
theorem box_grown2 {X W w5 : World} {g : Nat} {A : Option Addr} {x cA : Nat} {u : Value} (h : Blk W g 3 #[u]) (hgl : X.heap.size ≤ g) (hA : ∀ k, blockOf A k → k < X.heap.size) (hg : W.grownBy w5 (Value.slice A x cA).ownBlock) : Reads w5 (w5.heap.size + 1) 1 (some ⟨g, 0, none⟩) 1 [u] := by
  have h5 : Blk w5 g 3 #[u] := (hg.block g h.lt fun e => by have := hA g (blockOf_own.1 e.symm); omega).trans h
  refine ⟨rfl, fun _ => ⟨g, 0, rfl, by have := h5.lt; omega, fun j v hv => ?_⟩⟩
  have hj : j = 0 := by
    rcases Nat.eq_zero_or_pos j with h | h
    · exact h
    · rw [List.getElem?_eq_none (by simp; omega)] at hv; cases hv
  subst hj
  have : u = v := by simpa using hv
  subst this
  exact h5.cell 0
theorem both_leaf {X W w5 W' w9 : World} {base b n v e : Nat} {a : BtA} {s : FireS} {A5 A9 : Option Addr} {c5 c9 : Nat} (h : BtW X base b n a s) (hs : base ≤ X.heap.size) (hW : Below X.heap.size X W)
    (hown5 : w5.ownsRow base 3 1 (.slice A5 (s.order.length + 1) c5) (s.order.length + 1) (ints (nI s.order) ++ [.int .i64 (v : Int)])) (hg5 : W.grownBy w5 (Value.slice a.AO s.order.length a.cO).ownBlock) (hb5 : Below base W w5)
    (hd5 : (Value.slice A5 (s.order.length + 1) c5).ownBlock = (Value.slice a.AO s.order.length a.cO).ownBlock ∨ (Value.slice A5 (s.order.length + 1) c5).ownBlock = some W.heap.size) (hW' : Below w5.heap.size w5 W')
    (hown9 : w9.ownsRow base 3 1 (.slice A9 (s.tree.length + 1) c9) (s.tree.length + 1) (ints (nI s.tree) ++ [.int .i64 (e : Int)])) (hg9 : W'.grownBy w9 (Value.slice a.AD s.tree.length a.cD).ownBlock) (hb9 : Below base W' w9)
    (hd9 : (Value.slice A9 (s.tree.length + 1) c9).ownBlock = (Value.slice a.AD s.tree.length a.cD).ownBlock ∨ (Value.slice A9 (s.tree.length + 1) c9).ownBlock = some W'.heap.size) :
    (∃ a', BtW ((w9.setCell ⟨b, 1, none⟩ (.slice A5 (s.order.length + 1) c5)).setCell ⟨b, 2, none⟩ (.slice A9 (s.tree.length + 1) c9)) base b n a' { s with order := s.order ++ [v], tree := s.tree ++ [e] }) ∧
      Below base X ((w9.setCell ⟨b, 1, none⟩ (.slice A5 (s.order.length + 1) c5)).setCell ⟨b, 2, none⟩ (.slice A9 (s.tree.length + 1) c9)) := by
  have e1 : ∀ (l : List Nat) (x : Nat), ints (nI (l ++ [x])) = ints (nI l) ++ [.int .i64 (x : Int)] := fun l x => by simp [nI, ints]
  have o5 : OwnI w5 base A5 c5 (nI (s.order ++ [v])) := by unfold OwnI; rw [nI_length, List.length_append, e1]; exact hown5
  have o9 : OwnI w9 base A9 c9 (nI (s.tree ++ [e])) := by unfold OwnI; rw [nI_length, List.length_append, e1]; exact hown9
  have h5 : ∀ k, blockOf A5 k → blockOf a.AO k ∨ W.heap.size = k := fun k hk => by
    have hk2 := (blockOf_own (n := s.order.length + 1) (c := c5)).2 hk
    rcases hd5 with hd | hd
    · rw [hd] at hk2; exact .inl (blockOf_own.1 hk2)
    · rw [hd] at hk2; injection hk2 with hk2; exact .inr hk2
  have h9 : ∀ k, blockOf A9 k → blockOf a.AD k ∨ W'.heap.size = k := fun k hk => by
    have hk2 := (blockOf_own (n := s.tree.length + 1) (c := c9)).2 hk
    rcases hd9 with hd | hd
    · rw [hd] at hk2; exact .inl (blockOf_own.1 hk2)
    · rw [hd] at hk2; injection hk2 with hk2; exact .inr hk2
  have z1 := hW.size
  have z2 := hg5.size
  have z3 := hW'.size
  have hnoD : ∀ k, blockOf A5 k → ¬ blockOf a.AD k := fun k hk hd => by
    rcases h5 k hk with h1 | h1
    · exact h.oD k h1 hd
    · have := own_ltI h.tree k hd; omega
  have o5' : OwnI w9 base A5 c5 (nI (s.order ++ [v])) := own_kept o5 fun k hk => (hg9.block k (Nat.lt_of_lt_of_le (own_ltI o5 k hk) z3) fun e => hnoD k hk (blockOf_own.1 e.symm)).trans (hW'.block k (own_ltI o5 k hk))
  refine ⟨⟨_, h.both (w5 := w9) (fun k hk h1 h2 => ?_) o5' o9 (fun k hk => (h5 k hk).imp id fun hx => by omega) (fun k hk => (h9 k hk).imp id fun hx => by omega) fun k hk hk' => ?_⟩, ?_⟩
  · have k1 : k < W.heap.size := by omega
    have k2 : k < w5.heap.size := by omega
    have k3 : k < W'.heap.size := by omega
    exact (hg9.block k k3 fun e => h2 (blockOf_own.1 e.symm)).trans ((hW'.block k k2).trans ((hg5.block k k1 fun e => h1 (blockOf_own.1 e.symm)).trans (hW.block k hk)))
  · rcases h9 k hk' with h1 | h1
    · exact hnoD k hk h1
    · have := own_ltI o5 k hk; omega
  · exact (((hW.mono hs).trans (hb5.trans ((hW'.mono (by have := hb5.size; omega)).trans hb9))).setCell (p := ⟨b, 1, none⟩) h.hb _).setCell (p := ⟨b, 2, none⟩) h.hb _
end Go.Proofs.YtghigdcpinengaaGreat

