/-
  Texts of this claim, put together: RFall2.
-/
import Derived.Test.YtplgbapbgcipdaaGreatK26
import Derived.Test.YtplgbapbgcipdaaGreatK08
import Derived.Test.YtplgbapbgcipdaaGreatK22
import Derived.Test.YtplgbapbgcipdaaGreatK21
/-! ref19.Fallen: stabilization, firing by firing. -/
namespace Go.Proofs.YtplgbapbgcipdaaGreat
open Go.RowKit

/-- A stabilization on the way, in the block b. -/
structure FallW (w : World) (base b gl cl gt n : Nat) (AM : Option Addr) (cM : Nat) (left times moves : List Int) (size : Int) (over : Bool) : Prop where
  st : Blk w b 149 #[.slice (some ⟨gl, 0, none⟩) n cl, .slice (some ⟨gt, 0, none⟩) n n, .slice AM moves.length cM, .int .i64 size, .bool over]
  oL : OwnI w base (some ⟨gl, 0, none⟩) cl left
  ll : left.length = n
  oT : Blk w gt 3 (intCells times)
  tl : times.length = n
  oM : OwnI w base AM cM moves
  lo : base ≤ b ∧ base ≤ gl ∧ base ≤ gt
  ne : gl ≠ gt ∧ (∀ k, blockOf AM k → k ≠ gl ∧ k ≠ gt)
section
variable {w w' : World} {base b gl cl gt n : Nat} {AM : Option Addr} {cM : Nat} {left times moves : List Int} {size : Int} {over : Bool}
theorem FallW.next (h : FallW w base b gl cl gt n AM cM left times moves size over) (hb : Below w.heap.size w w') : FallW w' base b gl cl gt n AM cM left times moves size over :=
  ⟨h.st.next hb, h.oL.next hb, h.ll, h.oT.next hb, h.tl, h.oM.next hb, h.lo, h.ne⟩
theorem FallW.drewN (h : FallW w base b gl cl gt n AM cM left times moves size over) (k : Nat) : FallW (w.drewN k) base b gl cl gt n AM cM left times moves size over :=
  ⟨h.st, h.oL.drewN k, h.ll, h.oT, h.tl, h.oM.drewN k, h.lo, h.ne⟩
theorem FallW.glt (h : FallW w base b gl cl gt n AM cM left times moves size over) : gl < w.heap.size := (own_lt h.oL ⟨_, rfl, rfl⟩).2
theorem FallW.gb (h : FallW w base b gl cl gt n AM cM left times moves size over) : gl ≠ b ∧ gt ≠ b := ⟨own_blk h.oL h.st (by decide) ⟨_, rfl, rfl⟩, (h.oT.ne_ h.st (by decide))⟩
/-- A store into what is left. -/
theorem FallW.setL (h : FallW w base b gl cl gt n AM cM left times moves size over) (k : Nat) (x : Int) : FallW (w.setCell ⟨gl, k, none⟩ (.int .i64 x)) base b gl cl gt n AM cM (left.set k x) times moves size over :=
  ⟨h.st.far (fun e => h.gb.1 e.symm) _, h.oL.put k x, by rw [List.length_set]; exact h.ll, h.oT.far (fun e => h.ne.1 e.symm) _, h.tl, own_kept h.oM (fun j hj => Below.heap_setCell w ⟨gl, k, none⟩ _ j (h.ne.2 j hj).1), h.lo, h.ne⟩
theorem FallW.setT (h : FallW w base b gl cl gt n AM cM left times moves size over) (k : Nat) (x : Int) : FallW (w.setCell ⟨gt, k, none⟩ (.int .i64 x)) base b gl cl gt n AM cM left (times.set k x) moves size over :=
  ⟨h.st.far (fun e => h.gb.2 e.symm) _, h.oL.other h.ne.1.symm _, h.ll, by rw [← intCells_set]; exact h.oT.set_ k _, by rw [List.length_set]; exact h.tl, own_kept h.oM (fun j hj => Below.heap_setCell w ⟨gt, k, none⟩ _ j (h.ne.2 j hj).2), h.lo, h.ne⟩
theorem FallW.setS (h : FallW w base b gl cl gt n AM cM left times moves size over) (x : Int) : FallW (w.setCell ⟨b, 3, none⟩ (.int .i64 x)) base b gl cl gt n AM cM left times moves x over :=
  ⟨h.st.set_ 3 _, h.oL.other h.gb.1.symm _, h.ll, h.oT.far h.gb.2 _, h.tl, own_kept h.oM (fun j hj => Below.heap_setCell w ⟨b, 3, none⟩ _ j (own_blk h.oM h.st (by decide) hj)), h.lo, h.ne⟩
theorem FallW.setO (h : FallW w base b gl cl gt n AM cM left times moves size over) (x : Bool) : FallW (w.setCell ⟨b, 4, none⟩ (.bool x)) base b gl cl gt n AM cM left times moves size x :=
  ⟨h.st.set_ 4 _, h.oL.other h.gb.1.symm _, h.ll, h.oT.far h.gb.2 _, h.tl, own_kept h.oM (fun j hj => Below.heap_setCell w ⟨b, 4, none⟩ _ j (own_blk h.oM h.st (by decide) hj)), h.lo, h.ne⟩
end
/-- A struct that a function hands back: five cells. -/
theorem info_fall : (Tryz.prog.info? 149).map (·.size) = some 5 := by kernel_rfl
theorem results_fall {fn : Func} {p : Tmp} {tmps : Array Value} {w : World} {g : Nat} {cs : Array Value} (h : fn.results = #[.cell p 149]) (hp : tmps.getD p undef = .pointer (some ⟨g, 0, none⟩)) (hg : Blk w g 149 cs) (hs : cs.size = 5) :
    (results fn tmps).run Tryz.prog w = .ok (.agg cs) w := results_cell_row h tmps w g _ cs _ _ hp hg Tryz.underlying149 rfl (by rw [info_fall, hs])
theorem leastU_spec {es : List E3} {n q : Nat} {d : List Int} (hG : RightG n es) : match leastU es n q d with
    | some v => v < n ∧ v ≠ q ∧ valS es n v ≤ d.getD v 0
    | none => CalmD es n q d := by
  unfold leastU
  rcases h : (List.range n).find? (fun v => decide (v ≠ q) && decide (valE es v ≤ d.getD v 0)) with _ | v
  · rw [List.find?_eq_none] at h
    intro v hv hq
    have := h v (by simpa using hv)
    rw [Bool.and_eq_true, decide_eq_true_eq, decide_eq_true_eq] at this
    rw [← valE_valS hG]
    have : ¬ valE es v ≤ d.getD v 0 := fun hc => this ⟨hq, hc⟩
    omega
  · have h1 := List.find?_some h
    have h2 := List.mem_of_find?_eq_some h
    rw [Bool.and_eq_true, decide_eq_true_eq, decide_eq_true_eq, valE_valS hG] at h1
    exact ⟨by simpa using h2, h1.1, h1.2⟩

theorem alloc_size (w : World) (o : Obj) : (w.alloc o).heap.size = w.heap.size + 1 := by simp
theorem drew_size (w : World) : w.drew.heap.size = w.heap.size := rfl
theorem set_size (w : World) (p : Addr) (u : Value) : (w.setCell p u).heap.size = w.heap.size := by simp [World.setCell]
theorem have_blk {P : Prop} {w w' : World} {g : Nat} {t : TypeId} {cs : Array Value} {row : Option Nat} (h : Blk w g t cs) (hg : w.grownBy w' row) (hne : some g ≠ row) (k : Blk w' g t cs → P) : P := k (h.grown hg hne)
theorem own_empty {w : World} {base g : Nat} (h : Blk w g 3 #[]) (hb : base ≤ g) : w.ownsRow base 3 1 (.slice (some ⟨g, 0, none⟩) 0 0) 0 [] :=
  ⟨rfl, .inr ⟨g, 0, #[], rfl, hb, h, Nat.le_refl _, by simp [maxLen], rfl, rfl⟩⟩
theorem fleaf1 {wc w2 : World} {n : Nat} {A2 : Option Addr} {c2 : Nat} {d : List Int} (o : Hid (OwnI w2 wc.heap.size A2 c2 d)) (hd : d.length = n) (hn0 : 0 < n) (hB : Below wc.heap.size wc w2) :
    ∃ (b' gl cl gt' : Nat), Value.pointer (some ⟨w2.heap.size + 1, 0, none⟩) = .pointer (some ⟨b', 0, none⟩) ∧ Hid (FallW ((w2.alloc (.cells (ints (List.replicate n 0)).toArray 3)).alloc (.cells #[.slice A2 n c2, .slice (some ⟨w2.heap.size, 0, none⟩) n n, .slice none 0 0, .int .i64 0, .bool false] 149)) wc.heap.size b' gl cl gt' n none 0 d (List.replicate n 0) [] 0 false) ∧ Hid (Below wc.heap.size wc ((w2.alloc (.cells (ints (List.replicate n 0)).toArray 3)).alloc (.cells #[.slice A2 n c2, .slice (some ⟨w2.heap.size, 0, none⟩) n n, .slice none 0 0, .int .i64 0, .bool false] 149))) := by
  obtain ⟨g, rfl, hg, _, _⟩ := o.out.block (by omega)
  have hlt := (own_lt o.out ⟨_, rfl, rfl⟩).2
  have hlt : g < w2.heap.size := hlt
  have hsz := hB.size
  refine ⟨w2.heap.size + 1, g, c2, w2.heap.size, rfl, ⟨Blk.new_at (by simp), (o.out.alloc _).alloc _, hd, (Blk.new_at rfl).alloc _, by simp, OwnI.nil_ _ _, ⟨by omega, hg, by omega⟩, ⟨by omega, fun k hk => by obtain ⟨a, ha, _⟩ := hk; cases ha⟩⟩, (hB.alloc hsz _).alloc (by simp; omega) _⟩
theorem fleaf2 {wc w2 : World} {n : Nat} {A2 : Option Addr} {c2 : Nat} {d : List Int} (o : Hid (OwnI w2 wc.heap.size A2 c2 d)) (hd : d.length = n) (hn0 : 0 < n) (hB : Below wc.heap.size wc w2) :
    ∃ (b' gl cl gt' : Nat), Value.pointer (some ⟨w2.heap.size, 0, none⟩) = .pointer (some ⟨b', 0, none⟩) ∧ Hid (FallW ((w2.alloc (.cells #[.slice A2 n c2, .slice (some ⟨w2.heap.size + 1, 0, none⟩) n n, .slice none 0 0, .int .i64 0, .bool false] 149)).alloc (.cells (ints (List.replicate n 0)).toArray 3)) wc.heap.size b' gl cl gt' n none 0 d (List.replicate n 0) [] 0 false) ∧ Hid (Below wc.heap.size wc ((w2.alloc (.cells #[.slice A2 n c2, .slice (some ⟨w2.heap.size + 1, 0, none⟩) n n, .slice none 0 0, .int .i64 0, .bool false] 149)).alloc (.cells (ints (List.replicate n 0)).toArray 3))) := by
  obtain ⟨g, rfl, hg, _, _⟩ := o.out.block (by omega)
  have hlt := (own_lt o.out ⟨_, rfl, rfl⟩).2
  have hlt : g < w2.heap.size := hlt
  have hsz := hB.size
  refine ⟨w2.heap.size, g, c2, w2.heap.size + 1, rfl, ⟨(Blk.new_at rfl).alloc _, (o.out.alloc _).alloc _, hd, Blk.new_at (by simp), by simp, OwnI.nil_ _ _, ⟨by omega, hg, by omega⟩, ⟨by omega, fun k hk => by obtain ⟨a, ha, _⟩ := hk; cases ha⟩⟩, (hB.alloc hsz _).alloc (by simp; omega) _⟩
theorem fleaf3 {wc w2 : World} {n gt g6 s : Nat} {A2 : Option Addr} {c2 : Nat} {d : List Int} (o : Hid (OwnI w2 wc.heap.size A2 c2 d)) (hd : d.length = n) (hn0 : 0 < n) (hB : Below wc.heap.size wc w2) (T : Hid (Blk w2 gt 3 (ints (List.replicate n 0)).toArray)) (hgt : wc.heap.size ≤ gt) (hdis : Hid ((Value.slice A2 n c2).ownBlock = (Value.slice (some ⟨g6, 0, none⟩) 0 0).ownBlock ∨ (Value.slice A2 n c2).ownBlock = some s)) (h1 : gt ≠ g6) (h2 : gt ≠ s) :
    ∃ (b' gl cl gt' : Nat), Value.pointer (some ⟨w2.heap.size, 0, none⟩) = .pointer (some ⟨b', 0, none⟩) ∧ Hid (FallW (w2.alloc (.cells #[.slice A2 n c2, .slice (some ⟨gt, 0, none⟩) n n, .slice none 0 0, .int .i64 0, .bool false] 149)) wc.heap.size b' gl cl gt' n none 0 d (List.replicate n 0) [] 0 false) ∧ Hid (Below wc.heap.size wc (w2.alloc (.cells #[.slice A2 n c2, .slice (some ⟨gt, 0, none⟩) n n, .slice none 0 0, .int .i64 0, .bool false] 149))) := by
  obtain ⟨g, rfl, hg, _, _⟩ := o.out.block (by omega)
  have hlt := (own_lt o.out ⟨_, rfl, rfl⟩).2
  have hlt : g < w2.heap.size := hlt
  have hsz := hB.size
  have hgt' : g ≠ gt := by
    rcases hdis.out with h | h
    · have : g = g6 := by injection h
      omega
    · have : g = s := by injection h
      omega
  refine ⟨w2.heap.size, g, c2, gt, rfl, ⟨Blk.new_at rfl, o.out.alloc _, hd, T.out.alloc _, by simp, OwnI.nil_ _ _, ⟨by omega, hg, hgt⟩, ⟨hgt', fun k hk => by obtain ⟨a, ha, _⟩ := hk; cases ha⟩⟩, hB.alloc hsz _⟩
theorem fleaf4 {wc w2 : World} {n b gt g6 s : Nat} {A2 : Option Addr} {c2 : Nat} {d : List Int} (o : Hid (OwnI w2 wc.heap.size A2 c2 d)) (hd : d.length = n) (hn0 : 0 < n) (hB : Below wc.heap.size wc w2) (P : Hid (Blk w2 b 149 #[.slice none 0 0, .slice none 0 0, .slice none 0 0, .int .i64 0, .bool false])) (hb : wc.heap.size ≤ b) (T : Hid (Blk w2 gt 3 (ints (List.replicate n 0)).toArray)) (hgt : wc.heap.size ≤ gt) (hdis : Hid ((Value.slice A2 n c2).ownBlock = (Value.slice (some ⟨g6, 0, none⟩) 0 0).ownBlock ∨ (Value.slice A2 n c2).ownBlock = some s)) (h1 : gt ≠ g6) (h2 : gt ≠ s) :
    ∃ (b' gl cl gt' : Nat), Value.pointer (some ⟨b, 0, none⟩) = .pointer (some ⟨b', 0, none⟩) ∧ Hid (FallW (((((w2.setCell ⟨b, 0, none⟩ (.slice A2 n c2)).setCell ⟨b, 1, none⟩ (.slice (some ⟨gt, 0, none⟩) n n)).setCell ⟨b, 2, none⟩ (.slice none 0 0)).setCell ⟨b, 3, none⟩ (.int .i64 0)).setCell ⟨b, 4, none⟩ (.bool false)) wc.heap.size b' gl cl gt' n none 0 d (List.replicate n 0) [] 0 false) ∧ Hid (Below wc.heap.size wc (((((w2.setCell ⟨b, 0, none⟩ (.slice A2 n c2)).setCell ⟨b, 1, none⟩ (.slice (some ⟨gt, 0, none⟩) n n)).setCell ⟨b, 2, none⟩ (.slice none 0 0)).setCell ⟨b, 3, none⟩ (.int .i64 0)).setCell ⟨b, 4, none⟩ (.bool false))) := by
  obtain ⟨g, rfl, hg, _, _⟩ := o.out.block (by omega)
  have hlt := (own_lt o.out ⟨_, rfl, rfl⟩).2
  have hlt : g < w2.heap.size := hlt
  have hsz := hB.size
  have hgt' : g ≠ gt := by
    rcases hdis.out with h | h
    · have : g = g6 := by injection h
      omega
    · have : g = s := by injection h
      omega
  have hgb : g ≠ b := own_blk o.out P.out (by decide) ⟨_, rfl, rfl⟩
  have htb : gt ≠ b := T.out.ne_ P.out (by decide)
  refine ⟨b, g, c2, gt, rfl, ⟨((((P.out.set_ 0 _).set_ 1 _).set_ 2 _).set_ 3 _).set_ 4 _, ((((o.out.other (Ne.symm hgb) _).other (Ne.symm hgb) _).other (Ne.symm hgb) _).other (Ne.symm hgb) _).other (Ne.symm hgb) _, hd, ((((T.out.far htb _).far htb _).far htb _).far htb _).far htb _, by simp, OwnI.nil_ _ _, ⟨hb, hg, hgt⟩, ⟨hgt', fun k hk => by obtain ⟨a, ha, _⟩ := hk; cases ha⟩⟩, ((((hB.setCell hb _).setCell hb _).setCell hb _).setCell hb _).setCell hb _⟩
theorem fleaf5 {wc w2 : World} {n b : Nat} {A2 : Option Addr} {c2 : Nat} {d : List Int} (o : Hid (OwnI w2 wc.heap.size A2 c2 d)) (hd : d.length = n) (hn0 : 0 < n) (hB : Below wc.heap.size wc w2) (P : Hid (Blk w2 b 149 #[.slice none 0 0, .slice none 0 0, .slice none 0 0, .int .i64 0, .bool false])) (hb : wc.heap.size ≤ b) :
    ∃ (b' gl cl gt' : Nat), Value.pointer (some ⟨b, 0, none⟩) = .pointer (some ⟨b', 0, none⟩) ∧ Hid (FallW ((((((w2.setCell ⟨b, 0, none⟩ (.slice A2 n c2)).setCell ⟨b, 1, none⟩ (.slice (some ⟨w2.heap.size, 0, none⟩) n n)).setCell ⟨b, 2, none⟩ (.slice none 0 0)).setCell ⟨b, 3, none⟩ (.int .i64 0)).setCell ⟨b, 4, none⟩ (.bool false)).alloc (.cells (ints (List.replicate n 0)).toArray 3)) wc.heap.size b' gl cl gt' n none 0 d (List.replicate n 0) [] 0 false) ∧ Hid (Below wc.heap.size wc ((((((w2.setCell ⟨b, 0, none⟩ (.slice A2 n c2)).setCell ⟨b, 1, none⟩ (.slice (some ⟨w2.heap.size, 0, none⟩) n n)).setCell ⟨b, 2, none⟩ (.slice none 0 0)).setCell ⟨b, 3, none⟩ (.int .i64 0)).setCell ⟨b, 4, none⟩ (.bool false)).alloc (.cells (ints (List.replicate n 0)).toArray 3))) := by
  obtain ⟨g, rfl, hg, _, _⟩ := o.out.block (by omega)
  have hlt := (own_lt o.out ⟨_, rfl, rfl⟩).2
  have hlt : g < w2.heap.size := hlt
  have hsz := hB.size
  have hgb : g ≠ b := own_blk o.out P.out (by decide) ⟨_, rfl, rfl⟩
  have hbl := P.out.lt
  have hss : (((((w2.setCell ⟨b, 0, none⟩ (.slice (some ⟨g, 0, none⟩) n c2)).setCell ⟨b, 1, none⟩ (.slice (some ⟨w2.heap.size, 0, none⟩) n n)).setCell ⟨b, 2, none⟩ (.slice none 0 0)).setCell ⟨b, 3, none⟩ (.int .i64 0)).setCell ⟨b, 4, none⟩ (.bool false)).heap.size = w2.heap.size := by simp [World.setCell]
  refine ⟨b, g, c2, w2.heap.size, rfl, ⟨(((((P.out.set_ 0 _).set_ 1 _).set_ 2 _).set_ 3 _).set_ 4 _).alloc _, (((((o.out.other (Ne.symm hgb) _).other (Ne.symm hgb) _).other (Ne.symm hgb) _).other (Ne.symm hgb) _).other (Ne.symm hgb) _).alloc _, hd, Blk.new_at hss.symm, by simp, OwnI.nil_ _ _, ⟨hb, hg, by omega⟩, ⟨by omega, fun k hk => by obtain ⟨a, ha, _⟩ := hk; cases ha⟩⟩, (((((hB.setCell hb _).setCell hb _).setCell hb _).setCell hb _).setCell hb _).alloc (by rw [hss]; exact hsz) _⟩
/-- What Fallen hands back. -/
def FallEnd (es : List E3) (n q : Nat) (d : List Int) (left times : List Int) (over : Bool) : Prop :=
  if over then ∃ l, Leg es n q d l ∧ 1048576 < l.length else ∃ l, Leg es n q d l ∧ l.length ≤ 1048576 ∧ CalmD es n q left ∧ left = runD es n d l ∧ times = cntD n l

theorem keepS {wc W : World} {g : Nat} {v : Value} (hg : g < wc.heap.size) (hc : wc.cell? ⟨g, 0, none⟩ = some v) (h : Hid (Below wc.heap.size wc W)) : W.cell? ⟨g, 0, none⟩ = some v ∧ Hid (Below wc.heap.size wc W) := ⟨(h.out.cell hg).trans hc, h⟩
theorem ne_own {i g : Nat} (h : i ≠ g) : some i ≠ (Value.slice (some ⟨g, 0, none⟩) 0 0).ownBlock := fun e => h (by injection e)
/-- One move more. -/
theorem FallW.push_ {W w6 : World} {base b gl cl gt n : Nat} {AM A6 : Option Addr} {cM c6 : Nat} {left times moves : List Int} {size u : Int} {over : Bool} (h : FallW W base b gl cl gt n AM cM left times moves size over)
    (hown : w6.ownsRow base 3 1 (.slice A6 (moves.length + 1) c6) (moves.length + 1) (ints moves ++ [.int .i64 u])) (hg : W.grownBy w6 (Value.slice AM moves.length cM).ownBlock)
    (hw : (Value.slice A6 (moves.length + 1) c6).ownBlock = (Value.slice AM moves.length cM).ownBlock ∨ (Value.slice A6 (moves.length + 1) c6).ownBlock = some W.heap.size) :
    Blk w6 b 149 #[.slice (some ⟨gl, 0, none⟩) n cl, .slice (some ⟨gt, 0, none⟩) n n, .slice AM moves.length cM, .int .i64 size, .bool over] ∧
    FallW (w6.setCell ⟨b, 2, none⟩ (.slice A6 (moves.length + 1) c6)) base b gl cl gt n A6 c6 left times (moves ++ [u]) size over := by
  have hglt := h.glt
  have hgtl := h.oT.lt
  have nb : ∀ k, (∀ j, blockOf AM j → k ≠ j) → some k ≠ (Value.slice AM moves.length cM).ownBlock := fun k hk e => hk k (blockOf_own.1 e.symm) rfl
  have P6 := h.st.grown hg (nb b fun j hj e => own_blk h.oM h.st (by decide) hj e.symm)
  have oL6 : OwnI w6 base (some ⟨gl, 0, none⟩) cl left := own_kept h.oL fun k hk => by
    obtain ⟨a, ha, rfl⟩ := hk
    injection ha with ha
    subst ha
    exact hg.block gl hglt (nb gl fun j hj e => (h.ne.2 j hj).1 e.symm)
  have T6 := h.oT.grown hg (nb gt fun j hj e => (h.ne.2 j hj).2 e.symm)
  have oM6 : OwnI w6 base A6 c6 (moves ++ [u]) := by
    unfold OwnI
    rw [List.length_append]
    simpa [ints] using hown
  have hne : ∀ k, blockOf A6 k → k ≠ gl ∧ k ≠ gt := by
    intro k hk
    have e1 : (Value.slice A6 (moves.length + 1) c6).ownBlock = some k := blockOf_own.2 hk
    rcases hw with hw | hw
    · rw [e1] at hw
      exact h.ne.2 k (blockOf_own.1 hw.symm)
    · rw [e1] at hw
      injection hw with hw
      omega
  have e : (moves ++ [u]).length = moves.length + 1 := by simp
  rw [← e]
  exact ⟨P6, P6.set_ 2 _, oL6.other h.gb.1.symm _, h.ll, T6.far h.gb.2 _, h.tl, own_kept oM6 (fun j hj => Below.heap_setCell w6 ⟨b, 2, none⟩ _ j (own_blk oM6 P6 (by decide) hj)), h.lo, ⟨h.ne.1, hne⟩⟩
theorem reads_int {w : World} {g n : Nat} {xs : List Int} (h : Blk w g 3 (intCells xs)) (hl : xs.length = n) : Reads w w.heap.size 1 (some ⟨g, 0, none⟩) n (ints xs) :=
  ⟨by simp [ints, hl], fun _ => ⟨g, 0, rfl, h.lt, fun j u hj => by rw [Nat.zero_add]; refine (h.cell j).trans ?_; simpa [intCells, ints] using hj⟩⟩
/-- How many firings there have been. -/
def sizeAt (w : World) (b : Nat) : Nat := match w.cell? ⟨b, 3, none⟩ with
  | some (.int .i64 x) => x.toNat
  | _ => 0
theorem FallW.sizeAt_ {w : World} {base b gl cl gt n : Nat} {AM : Option Addr} {cM : Nat} {left times moves : List Int} {size : Int} {over : Bool} (h : FallW w base b gl cl gt n AM cM left times moves size over) : sizeAt w b = size.toNat := by
  have := h.st.cell 3
  unfold sizeAt
  rw [this]
  rfl
set_option maxRecDepth 100000 in
set_option maxHeartbeats 16000000 in
theorem fallen_any (n q : Nat) (es : List E3) (d : List Int) (hS : SArgs n q es d) (A : Option Addr) (c : Nat) (B : Option Addr) (cB : Nat) (w : World)
    (h : Reads w w.heap.size 3 A es.length (edgeCells es)) (h' : Reads w w.heap.size 1 B n (ints d)) :
    Calls Tryz.prog 109 #[.agg #[.int .i64 n, .slice A es.length c], .int .i64 q, .slice B n cB] w fun e w' => ∃ left times size over gl cl gt AM cM lm, FallEnd es n q d left times over ∧ left.length = n ∧
      e = .returned (.agg #[.slice (some ⟨gl, 0, none⟩) n cl, .slice (some ⟨gt, 0, none⟩) n n, .slice AM lm cM, .int .i64 size, .bool over]) ∧ Reads w' w'.heap.size 1 (some ⟨gl, 0, none⟩) n (ints left) ∧ Reads w' w'.heap.size 1 (some ⟨gt, 0, none⟩) n (ints times) ∧ Below w.heap.size w w' := by
  have hG := right_of hS.hz
  have hn12 : n ≤ 12 := by have := hG.hi; omega
  have hn0 : 0 < n := by have := hG.lo; omega
  have htt : ∀ a b, 0 ≤ tt es a b := fun a b => (tt_bd hG.ok a b).1
  have RC := Lib.hid (fun (W : World) (hB : Below w.heap.size w W) => rows19_any n A c es hS.hlen hG W ((h.below hB).more hB.size))
  have VC := Lib.hid (fun (W : World) (hB : Below w.heap.size w W) => valences19_any n A c es hS.hlen hG W ((h.below hB).more hB.size))
  have g0 := Blk.new w 24 #[.int .i64 n, .slice A es.length c]
  have hsz : Hid ((w.alloc (.cells #[.int .i64 n, .slice A es.length c] 24)).heap.size = w.heap.size + 1) := by unfold Hid; simp
  have G0 := g0.alloc (.cells #[.slice none 0 0, .slice none 0 0, .slice none 0 0, .int .i64 0, .bool false] 149)
  have Z0 := Blk.new (w.alloc (.cells #[.int .i64 n, .slice A es.length c] 24)) 149 #[.slice none 0 0, .slice none 0 0, .slice none 0 0, .int .i64 0, .bool false]
  rw [hsz.out] at Z0
  have B0 : Below w.heap.size w ((w.alloc (.cells #[.int .i64 n, .slice A es.length c] 24)).alloc (.cells #[.slice none 0 0, .slice none 0 0, .slice none 0 0, .int .i64 0, .bool false] 149)) := ((Below.refl _ _).alloc (Nat.le_refl _) _).alloc (by simp) _
  obtain ⟨W0, hW0⟩ : ∃ W0, ((w.alloc (.cells #[.int .i64 n, .slice A es.length c] 24)).alloc (.cells #[.slice none 0 0, .slice none 0 0, .slice none 0 0, .int .i64 0, .bool false] 149)) = W0 := ⟨_, rfl⟩
  rw [hW0] at G0 Z0 B0
  have HW0 := Lib.hid hW0
  clear g0 hW0
  go_enter Tryz.func109, Tryz.ntmps109
  go_upto_region 1 with fail
  rw [HW0.out]
  have d0 := G0.cell 0
  have d1 := G0.cell 1
  have BD := B0.drew
  have hs0 := B0.size
  go_cut [7, 8] from 12 to 15 (fun r v wx => ∃ (A1 : Option Addr) (f1 : Nat) (gs : List Nat) (A2 : Option Addr) (f2 : Nat), r = .slice A1 n f1 ∧ v = .slice A2 n f2 ∧ Hid (gs.length = n) ∧ Hid (Grid wx w.heap.size A1 f1 n gs (ttTab n es n 0)) ∧ Hid (OwnI wx w.heap.size A2 f2 (valsL n es)) ∧ Hid (Below W0.heap.size W0 wx))
  case first =>
    go_region_held3 (fun W => W.cell? ⟨w.heap.size, 0, none⟩ = some (.int .i64 n) ∧ W.cell? ⟨w.heap.size, 1, none⟩ = some (.slice A es.length c)) (go_keep) (first
      | (go_at_call 137; refine (RC.out W0.drew BD).mono ?_; rintro e wR ⟨A1, f1, gs, rfl, HL, gr, bR⟩; have bR2 := bR.mono (Nat.le_refl _); have gR := G0.drew.next bR; have k0 := gR.cell 0; have k1 := gR.cell 1; have BR := BD.trans (bR.mono hs0))
      | (go_at_call 137; refine (RC.out _ BV).mono ?_; rintro e wR ⟨A1, f1, gs, rfl, HL, gr, bR⟩; have gR := gV.next bR; have k0 := gR.cell 0; have k1 := gR.cell 1; have BR := BV.trans (bR.mono BV.size))
      | (go_at_call 138; refine (VC.out W0.drew BD).mono ?_; rintro e wV ⟨A2, f2, rfl, ov, bV⟩; have gV := G0.drew.next bV; have k0 := gV.cell 0; have k1 := gV.cell 1; have BV := BD.trans (bV.mono hs0))
      | (go_at_call 138; refine (VC.out _ BR).mono ?_; rintro e wV ⟨A2, f2, rfl, ov, bV⟩; have gV := gR.next bV; have k0 := gV.cell 0; have k1 := gV.cell 1; have BV := BR.trans (bV.mono BR.size)))
    all_goals
      go_wp2
      go_meet
      first
        | exact ⟨A1, f1, gs, A2, f2, rfl, rfl, HL, (gr.next bV).mono hs0, ov.mono BR.size, (Below.drew (Below.refl _ _)).trans (bR2.trans (bV.mono bR.size))⟩
        | exact ⟨A1, f1, gs, A2, f2, rfl, rfl, HL, gr.mono BV.size, (ov.next bR).mono hs0, (Below.drew (Below.refl _ _)).trans (Below.trans (bV.mono (Nat.le_refl _)) (bR.mono bV.size))⟩
  case rest =>
    obtain ⟨A1, f1, gs, A2, f2, rfl, rfl, HL, HGR, HVA, HB1⟩ := hcut
    have hB1 := B0.trans (HB1.out.mono hs0)
    have G1 := G0.next HB1.out
    have Z1 := Z0.next HB1.out
    have hgl := G1.lt
    have c0 := G1.cell 0
    have hmk := make_script n (by omega)
    clear G0 Z0 d0 d1 BD
    have HD := Lib.hid hS.dl
    have hz1 := hB1.size
    obtain ⟨wb, hwb⟩ : ∃ wb : World, wb = wc := ⟨wc, rfl⟩
    subst hwb
    have hwz : Hid (w.heap.size < wb.heap.size) := hgl
    have hr : Hid (Reads wb w.heap.size 1 B n (ints d)) := h'.below hB1
    go_upto_region 2 with fail
    go_cut [9] from 16 to 22 (fun p wx => ∃ (b gl cl gt : Nat), p = .pointer (some ⟨b, 0, none⟩) ∧ Hid (FallW wx wb.heap.size b gl cl gt n none 0 d (List.replicate n 0) [] 0 false) ∧ Hid (Below wb.heap.size wb wx))
    case first =>
      go_region_held3 (fun W => W.cell? ⟨w.heap.size, 0, none⟩ = some (.int .i64 n) ∧ Hid (Below wb.heap.size wb W)) ((
            refine keepS hwz.out c0 ?_
            show Below _ _ _
            repeat (first
              | exact Below.refl _ _
              | exact HBa
              | with_reducible refine Below.drew ?_
              | with_reducible refine Below.alloc ?_ ?_ _
              | with_reducible refine Below.setCell ?_ ?_ _)
            all_goals (first | exact Nat.le_refl _ | omega | (dsimp only; omega) | (simp only [alloc_size]; omega) | (simp only [set_size]; omega) | (simp only [alloc_size, set_size]; omega) | (simp only [alloc_size, drew_size, set_size]; omega) | (dsimp only; simp only [alloc_size, drew_size, set_size] at *; omega) | (simp only [alloc_size, drew_size, set_size] at *; omega)))) ((
            refine append_step2 rfl (.tmp 16) (.tmp 17) _ _ rfl wb.heap.size 3 3 Tryz.underlying26 Tryz.underlying26 info_int rfl (by omega) _ 0 0 [] rfl ?_ w.heap.size (ints d) rfl ?_ (by simp [ints, Value.oneCell']) (by omega) ?_ ?_
            · refine own_empty ?_ ?_
              · try with_reducible refine Blk.drew ?_
                first
                  | (with_reducible refine Blk.new_at ?_; simp; done)
                  | (with_reducible refine (Blk.new_at ?_).alloc _; simp; done)
                  | (with_reducible refine ((Blk.new_at ?_).alloc _).alloc _; simp; done)
              · (first | exact Nat.le_refl _ | omega | (dsimp only; omega) | (simp only [alloc_size]; omega) | (simp only [set_size]; omega) | (simp only [alloc_size, set_size]; omega) | (simp only [alloc_size, drew_size, set_size]; omega) | (dsimp only; simp only [alloc_size, drew_size, set_size] at *; omega) | (simp only [alloc_size, drew_size, set_size] at *; omega))
            · refine hr.out.below (Below.mono ?_ (Nat.le_of_lt hwz.out))
              repeat (first
                | exact Below.refl _ _
                | with_reducible refine Below.drew ?_
                | with_reducible refine Below.alloc ?_ ?_ _)
              all_goals (first | exact Nat.le_refl _ | omega | (dsimp only; omega) | (simp only [alloc_size]; omega) | (simp only [set_size]; omega) | (simp only [alloc_size, set_size]; omega) | (simp only [alloc_size, drew_size, set_size]; omega) | (dsimp only; simp only [alloc_size, drew_size, set_size] at *; omega) | (simp only [alloc_size, drew_size, set_size] at *; omega))
            · first | (simp; done) | (simp; omega)
            intro A2' c2' w2' hown2 hg2 hb2 hdis
            have HBa : Below wb.heap.size wb w2' := by
              refine Below.trans ?_ hb2
              repeat (first
                | exact Below.refl _ _
                | with_reducible refine Below.drew ?_
                | with_reducible refine Below.alloc ?_ ?_ _)
              all_goals (first | exact Nat.le_refl _ | omega | (dsimp only; omega) | (simp only [alloc_size]; omega) | (simp only [set_size]; omega) | (simp only [alloc_size, set_size]; omega) | (simp only [alloc_size, drew_size, set_size]; omega) | (dsimp only; simp only [alloc_size, drew_size, set_size] at *; omega) | (simp only [alloc_size, drew_size, set_size] at *; omega))
            have hs2 := hb2.size
            have hsa := HBa.size
            first
              | (refine have_blk (g := wb.heap.size) (t := 149) (cs := #[.slice none 0 0, .slice none 0 0, .slice none 0 0, .int .i64 0, .bool false]) ?_ hg2 ?_ (fun P2 => ?_)
                 · try with_reducible refine Blk.drew ?_
                   repeat (first | (with_reducible refine Blk.new_at ?_; first | with_reducible rfl | (simp only [alloc_size]; done)) | with_reducible refine Blk.alloc ?_ _)
                   done
                 · refine ne_own ?_; (try simp only [alloc_size, drew_size]); omega
                 have z0 := P2.cell 0; have z1 := P2.cell 1; have z2 := P2.cell 2; have z3 := P2.cell 3; have z4 := P2.cell 4; have y0 := P2.frozen 0; have y1 := P2.frozen 1; have y2 := P2.frozen 2; have y3 := P2.frozen 3; have y4 := P2.frozen 4; have hp2 := P2.lt; replace P2 := Lib.hid P2)
              | (refine have_blk (g := wb.heap.size + 1) (t := 149) (cs := #[.slice none 0 0, .slice none 0 0, .slice none 0 0, .int .i64 0, .bool false]) ?_ hg2 ?_ (fun P2 => ?_)
                 · try with_reducible refine Blk.drew ?_
                   repeat (first | (with_reducible refine Blk.new_at ?_; first | with_reducible rfl | (simp only [alloc_size]; done)) | with_reducible refine Blk.alloc ?_ _)
                   done
                 · refine ne_own ?_; (try simp only [alloc_size, drew_size]); omega
                 have z0 := P2.cell 0; have z1 := P2.cell 1; have z2 := P2.cell 2; have z3 := P2.cell 3; have z4 := P2.cell 4; have y0 := P2.frozen 0; have y1 := P2.frozen 1; have y2 := P2.frozen 2; have y3 := P2.frozen 3; have y4 := P2.frozen 4; have hp2 := P2.lt; replace P2 := Lib.hid P2)
              | (refine have_blk (g := wb.heap.size + 1 + 1) (t := 149) (cs := #[.slice none 0 0, .slice none 0 0, .slice none 0 0, .int .i64 0, .bool false]) ?_ hg2 ?_ (fun P2 => ?_)
                 · try with_reducible refine Blk.drew ?_
                   repeat (first | (with_reducible refine Blk.new_at ?_; first | with_reducible rfl | (simp only [alloc_size]; done)) | with_reducible refine Blk.alloc ?_ _)
                   done
                 · refine ne_own ?_; (try simp only [alloc_size, drew_size]); omega
                 have z0 := P2.cell 0; have z1 := P2.cell 1; have z2 := P2.cell 2; have z3 := P2.cell 3; have z4 := P2.cell 4; have y0 := P2.frozen 0; have y1 := P2.frozen 1; have y2 := P2.frozen 2; have y3 := P2.frozen 3; have y4 := P2.frozen 4; have hp2 := P2.lt; replace P2 := Lib.hid P2)
              | skip
            first
              | (refine have_blk (g := wb.heap.size) (t := 3) (cs := (ints (List.replicate n 0)).toArray) ?_ hg2 ?_ (fun T2 => ?_)
                 · try with_reducible refine Blk.drew ?_
                   repeat (first | (with_reducible refine Blk.new_at ?_; first | with_reducible rfl | (simp only [alloc_size]; done)) | with_reducible refine Blk.alloc ?_ _)
                   done
                 · refine ne_own ?_; (try simp only [alloc_size, drew_size]); omega
                 replace T2 := Lib.hid T2)
              | (refine have_blk (g := wb.heap.size + 1) (t := 3) (cs := (ints (List.replicate n 0)).toArray) ?_ hg2 ?_ (fun T2 => ?_)
                 · try with_reducible refine Blk.drew ?_
                   repeat (first | (with_reducible refine Blk.new_at ?_; first | with_reducible rfl | (simp only [alloc_size]; done)) | with_reducible refine Blk.alloc ?_ _)
                   done
                 · refine ne_own ?_; (try simp only [alloc_size, drew_size]); omega
                 replace T2 := Lib.hid T2)
              | (refine have_blk (g := wb.heap.size + 1 + 1) (t := 3) (cs := (ints (List.replicate n 0)).toArray) ?_ hg2 ?_ (fun T2 => ?_)
                 · try with_reducible refine Blk.drew ?_
                   repeat (first | (with_reducible refine Blk.new_at ?_; first | with_reducible rfl | (simp only [alloc_size]; done)) | with_reducible refine Blk.alloc ?_ _)
                   done
                 · refine ne_own ?_; (try simp only [alloc_size, drew_size]); omega
                 replace T2 := Lib.hid T2)
              | skip
            have o2 : Hid (OwnI w2' wb.heap.size A2' c2' d) := (by unfold Hid OwnI; rw [HD.out]; rw [Nat.zero_add, List.nil_append] at hown2; exact hown2)
            rw [Nat.zero_add] at hdis ⊢
            replace hdis := Lib.hid hdis
            clear hown2 hg2))
      all_goals
        go_wp2
        go_meet
        first
          | (with_reducible exact fleaf1 o2 HD.out hn0 HBa)
          | (with_reducible exact fleaf2 o2 HD.out hn0 HBa)
          | (with_reducible refine fleaf5 o2 HD.out hn0 HBa P2 ?_; omega)
          | (with_reducible refine fleaf3 o2 HD.out hn0 HBa T2 ?_ hdis ?_ ?_ <;> (try simp only [drew_size, alloc_size]) <;> omega)
          | (with_reducible refine fleaf4 o2 HD.out hn0 HBa P2 ?_ T2 ?_ hdis ?_ ?_ <;> (try simp only [drew_size, alloc_size]) <;> omega)
    case rest =>
      obtain ⟨b, gl, cl, gt, rfl, HF, HB2⟩ := hcut
      have hlb := (own_lt HF.out.oL ⟨_, rfl, rfl⟩)
      have hzl := Z1.lt
      have LC := Lib.hid (fun (W : World) (left : List Int) (cl : Nat) (hl : left.length = n) (hr : Reads W W.heap.size 1 (some ⟨gl, 0, none⟩) n (ints left)) (hv : Reads W W.heap.size 1 A2 n (ints (valsL n es))) => least19_any n hn12 es q (some ⟨gl, 0, none⟩) cl left hl A2 f2 W hr hv)
      have HLO := Lib.hid HF.out.lo
      have HVR : Hid (∀ (W : World), Below wb.heap.size wb W → Reads W W.heap.size 1 A2 n (ints (valsL n es))) := by
        intro W hW
        have h1 := HVA.out.reads
        rw [valsL_length] at h1
        exact (h1.below hW).more hW.size
      have HGB := Lib.hid (fun (W : World) (hW : Below wb.heap.size wb W) => G1.next hW)
      have HZB := Lib.hid (fun (W : World) (hW : Below wb.heap.size wb W) => Z1.next hW)
      have HVB := Lib.hid (fun v => valE_bd hG.ok (v : Int))
      have HTB := Lib.hid (fun a b => tt_bd hG.ok a b)
      have HLN := Lib.hid hS.hlen
      have HSP := Lib.hid (fun left => leastU_spec (q := q) (d := left) hG)
      have HBD : Hid (∀ l, Leg es n q d l → ∀ v, v < n → -1048576 ≤ (runD es n d l).getD v 0 ∧ (runD es n d l).getD v 0 ≤ 2 * (n * 1048576)) := fun l hl => hl.bound htt (by omega) hS.d0 hS.db
      have HFA := Lib.hid (fun (x : List Int) v => rfireTo_all (n := n) (x := x) (v := v) hG)
      have HDL := Lib.hid hS.dl
      have HVS := Lib.hid (fun v => valE_valS (v := v) hG)
      have HSR := Lib.hid hB1
      have hgb1 := hB1.size
      have c0 := (HGB.out _ HB2.out).cell 0
      have z0 := HF.out.st.cell 0
      clear HVA RC VC hS HL hG htt HW0 hsz hr hmk h h' G1 Z1 hB1
      go_wp2_with fail
      refine (LC.out _ d cl HF.out.ll (by have := HF.out.oL.reads; rw [HF.out.ll] at this; exact this) (HVR.out _ HB2.out)).mono ?_
      rintro e w5 ⟨rfl, k5, rfl⟩
      have HF5 := Lib.hid (HF.out.drewN k5)
      have HB5 := Lib.hid (below_drewN HB2.out k5)
      clear z0 c0 HF HB2
      go_wp2_with fail
      go_loopw [10] (fun v wr => ∃ (left times moves : List Int) (l : List Nat) (AM : Option Addr) (cM : Nat), v = .int .i64 (leastI es n q left) ∧ Hid (FallW wr wb.heap.size b gl cl gt n AM cM left times moves (l.length : Int) false) ∧ Hid (Leg es n q d l) ∧ Hid (left = runD es n d l) ∧ Hid (times = cntD n l) ∧ l.length ≤ 1048576 ∧ moves.length ≤ 4096 ∧ moves.length ≤ l.length ∧ Hid (Below wb.heap.size wb wr)) (fun _ wr => 1048577 - sizeAt wr b)
      case atStart => exact ⟨d, List.replicate n 0, [], [], none, 0, rfl, HF5.out, Leg.nil, rfl, by rw [Hid, cntD_nil0], by simp, by simp, by simp, HB5.out⟩
      case round =>
        obtain ⟨left, times, moves, l, AM, cM, rfl, HF, HLG, HR, HT, hl, hm1, hm2, HB⟩ := hrel
        obtain ⟨wo, hwo⟩ : ∃ wo : World, wo = wr := ⟨wr, rfl⟩
        subst hwo
        have hsp := HSP.out left
        have hszB := HB.out.size
        rcases hlu : leastU es n q left with _ | u
        · rw [hlu] at hsp
          have hli : leastI es n q left = -1 := by unfold leastI; rw [hlu]
          rw [hli]
          have HCM : Hid (CalmD es n q left) := hsp
          have zr := HZB.out _ HB.out
          have FS := HF.out.st
          have s0 := FS.cell 0
          have s1 := FS.cell 1
          have s2 := FS.cell 2
          have s3 := FS.cell 3
          have s4 := FS.cell 4
          have x0 := zr.cell 0
          have x1 := zr.cell 1
          have x2 := zr.cell 2
          have x3 := zr.cell 3
          have x4 := zr.cell 4
          have y0 := zr.frozen 0
          have y1 := zr.frozen 1
          have y2 := zr.frozen 2
          have y3 := zr.frozen 3
          have y4 := zr.frozen 4
          have ZR := Lib.hid zr
          clear hlu hsp hli zr FS
          go_wp2
          (try simp only [Exit.inBlock, Exit.then])
          have hne1 : gl ≠ w.heap.size + 1 := by have := HLO.out.2.1; omega
          have hne2 : gt ≠ w.heap.size + 1 := by have := HLO.out.2.2; omega
          refine bodyPost_ret (results_fall rfl rfl (((((ZR.out.set_ 0 _).set_ 1 _).set_ 2 _).set_ 3 _).set_ 4 _) rfl) rfl ?_
          obtain ⟨wz, hwz⟩ : ∃ wz, (((((wo.setCell ⟨w.heap.size + 1, 0, none⟩ (.slice (some ⟨gl, 0, none⟩) n cl)).setCell ⟨w.heap.size + 1, 1, none⟩ (.slice (some ⟨gt, 0, none⟩) n n)).setCell ⟨w.heap.size + 1, 2, none⟩ (.slice AM moves.length cM)).setCell ⟨w.heap.size + 1, 3, none⟩ (.int .i64 (l.length : Int))).setCell ⟨w.heap.size + 1, 4, none⟩ (.bool false)) = wz := ⟨_, rfl⟩
          have hkz : ∀ k, k ≠ w.heap.size + 1 → wz.heap[k]? = wo.heap[k]? := by
            intro k hk
            rw [← hwz]
            rw [Below.heap_setCell _ _ _ _ hk, Below.heap_setCell _ _ _ _ hk, Below.heap_setCell _ _ _ _ hk, Below.heap_setCell _ _ _ _ hk, Below.heap_setCell _ _ _ _ hk]
          have hBz : Below w.heap.size w wz := by
            rw [← hwz]
            exact (((((HSR.out.trans (HB.out.mono hgb1)).setCell (by show w.heap.size ≤ w.heap.size + 1; omega) _).setCell (by show w.heap.size ≤ w.heap.size + 1; omega) _).setCell (by show w.heap.size ≤ w.heap.size + 1; omega) _).setCell (by show w.heap.size ≤ w.heap.size + 1; omega) _).setCell (by show w.heap.size ≤ w.heap.size + 1; omega) _
          have o1 := own_kept HF.out.oL (w' := wz) fun k hk => by
            obtain ⟨a, ha, rfl⟩ := hk
            injection ha with ha
            subst ha
            exact hkz gl hne1
          have t1 : Blk wz gt 3 (intCells times) := (hkz gt hne2).trans HF.out.oT
          have r1 : Reads wz wz.heap.size 1 (some ⟨gl, 0, none⟩) left.length (ints left) := OwnI.reads (base := wb.heap.size) (c := cl) o1
          rw [HF.out.ll] at r1
          rw [hwz]
          exact ⟨left, times, l.length, false, gl, cl, gt, AM, cM, moves.length, ⟨l, HLG.out, hl, HCM.out, HR.out, HT.out⟩, HF.out.ll, rfl, r1, reads_int t1 HF.out.tl, hBz⟩
        · rw [hlu] at hsp
          obtain ⟨hun, huq, huv⟩ := hsp
          have hli : leastI es n q left = u := by unfold leastI; rw [hlu]
          rw [hli]
          have hu0 : ¬ (u : Int) < 0 := by omega
          have hL2 : Hid (Leg es n q d (l ++ [u])) := HLG.out.snoc hun huq (by rw [← HR.out]; exact huv)
          have FS := HF.out.st
          have s3 := FS.cell 3
          by_cases hmx : l.length = 1048576
          · have hmb : ((l.length : Int) == 1048576) = true := by simp; omega
            have f4 := HF.out.st.frozen 4
            have HFQ : Hid (FallW (wo.setCell ⟨b, 4, none⟩ (.bool true)) wb.heap.size b gl cl gt n AM cM left times moves (l.length : Int) true) := by exact HF.out.setO true
            have HBQ : Hid (Below wb.heap.size wb (wo.setCell ⟨b, 4, none⟩ (.bool true))) := by exact HB.out.setCell (by show wb.heap.size ≤ b; exact HLO.out.1) _
            clear s3
            have sz3 := HF.out.st.cell 3
            have sz4 := HF.out.st.cell 4
            have zr := HZB.out _ HBQ.out
            have FS := HFQ.out.st
            have s0 := FS.cell 0
            have s1 := FS.cell 1
            have s2 := FS.cell 2
            have s3 := FS.cell 3
            have s4 := FS.cell 4
            have x0 := zr.cell 0
            have x1 := zr.cell 1
            have x2 := zr.cell 2
            have x3 := zr.cell 3
            have x4 := zr.cell 4
            have y0 := zr.frozen 0
            have y1 := zr.frozen 1
            have y2 := zr.frozen 2
            have y3 := zr.frozen 3
            have y4 := zr.frozen 4
            have ZR := Lib.hid zr
            clear hlu hli zr FS
            go_wp2
            (try simp only [Exit.inBlock, Exit.then])
            have hne1 : gl ≠ w.heap.size + 1 := by have := HLO.out.2.1; omega
            have hne2 : gt ≠ w.heap.size + 1 := by have := HLO.out.2.2; omega
            refine bodyPost_ret (results_fall rfl rfl (((((ZR.out.set_ 0 _).set_ 1 _).set_ 2 _).set_ 3 _).set_ 4 _) rfl) rfl ?_
            obtain ⟨wz, hwz⟩ : ∃ wz, ((((((wo.setCell ⟨b, 4, none⟩ (.bool true)).setCell ⟨w.heap.size + 1, 0, none⟩ (.slice (some ⟨gl, 0, none⟩) n cl)).setCell ⟨w.heap.size + 1, 1, none⟩ (.slice (some ⟨gt, 0, none⟩) n n)).setCell ⟨w.heap.size + 1, 2, none⟩ (.slice AM moves.length cM)).setCell ⟨w.heap.size + 1, 3, none⟩ (.int .i64 1048576)).setCell ⟨w.heap.size + 1, 4, none⟩ (.bool true)) = wz := ⟨_, rfl⟩
            have hkz : ∀ k, k ≠ w.heap.size + 1 → wz.heap[k]? = (wo.setCell ⟨b, 4, none⟩ (.bool true)).heap[k]? := by
              intro k hk
              rw [← hwz]
              rw [Below.heap_setCell _ _ _ _ hk, Below.heap_setCell _ _ _ _ hk, Below.heap_setCell _ _ _ _ hk, Below.heap_setCell _ _ _ _ hk, Below.heap_setCell _ _ _ _ hk]
            have hBz : Below w.heap.size w wz := by
              rw [← hwz]
              exact (((((HSR.out.trans (HBQ.out.mono hgb1)).setCell (by show w.heap.size ≤ w.heap.size + 1; omega) _).setCell (by show w.heap.size ≤ w.heap.size + 1; omega) _).setCell (by show w.heap.size ≤ w.heap.size + 1; omega) _).setCell (by show w.heap.size ≤ w.heap.size + 1; omega) _).setCell (by show w.heap.size ≤ w.heap.size + 1; omega) _
            have o1 := own_kept HFQ.out.oL (w' := wz) fun k hk => by
              obtain ⟨a, ha, rfl⟩ := hk
              injection ha with ha
              subst ha
              exact hkz gl hne1
            have t1 : Blk wz gt 3 (intCells times) := (hkz gt hne2).trans HFQ.out.oT
            have r1 : Reads wz wz.heap.size 1 (some ⟨gl, 0, none⟩) left.length (ints left) := OwnI.reads (base := wb.heap.size) (c := cl) o1
            rw [HFQ.out.ll] at r1
            rw [hwz]
            exact ⟨left, times, 1048576, Or.inr ⟨⟨l ++ [u], hL2.out, by rw [List.length_append]; simp; omega⟩, HFQ.out.ll, gl, cl, gt, ⟨AM, cM, moves.length, rfl⟩, r1, reads_int t1 HFQ.out.tl, hBz⟩⟩
          · have hmb : ((l.length : Int) == 1048576) = false := by simp; omega
            have hbd := HBD.out l HLG.out
            rw [← HR.out] at hbd
            have hll := HF.out.ll
            obtain ⟨y, hy⟩ := get_of_lt (xs := left) (k := u) (by omega)
            have hyb := hbd u hun
            rw [getD_at hy] at hyb
            have hvb := HVB.out u
            have hlen := HLN.out
            obtain ⟨z, hz⟩ : ∃ z, valE es u = z := ⟨_, rfl⟩
            rw [hz] at hvb
            have hw1 : IntKind.i64.wrap (y - z) = y - z := IntWalk.i64_in _ (by omega)
            obtain ⟨bv, ov, hA2, hbv, cv⟩ := (HVR.out _ HB.out).at_ (ints_at (valsL_at es hun))
            rw [hz] at cv
            subst hA2
            obtain ⟨_, hgl, hfl, hcl⟩ := HF.out.oL.at_ (by omega)
            have cy := hcl u y hy
            have fy := hfl u
            have s0 := FS.cell 0
            have hui : (u : Int) < (n : Int) := by omega
            have HY := Lib.hid hy
            have HZ := Lib.hid hz
            have HF1 : Hid (FallW (wo.setCell ⟨gl, u, none⟩ (.int .i64 (y - z))) wb.heap.size b gl cl gt n AM cM (rfireTo es n left u 0) times moves (l.length : Int) false) := by
              have := HF.out.setL u (y - z)
              rw [rfireTo_zero hll, getD_at hy, hz]
              exact this
            have HB1 : Hid (Below wb.heap.size wb (wo.setCell ⟨gl, u, none⟩ (.int .i64 (y - z)))) := HB.out.setCell (by show wb.heap.size ≤ gl; exact HLO.out.2.1) _
            have HLL := Lib.hid hll
            have HUV := Lib.hid huv
            have HHB := Lib.hid hbd
            clear hlu hli hy hz FS hfl hcl hll huv hbd
            go_wp2_with fail
            refine region_tail 11 (by kernel_rfl) (by kernel_rfl) ?_
            simp only [List.take_succ_cons, List.take_zero, List.drop_succ_cons, List.drop_zero]
            repeat still_step
            refine wpStill_nil ?_
            go_wp2_with fail
            have HF2 := Lib.hid (HF1.out.drewN 1)
            have HB2 : Hid (Below wb.heap.size wb (wo.setCell ⟨gl, u, none⟩ (.int .i64 (y - z))).drew) := HB1.out.drew
            go_loopw [11] (fun i wl => ∃ (k : Nat), k ≤ n ∧ i = .int .i64 k ∧ Hid (FallW wl wb.heap.size b gl cl gt n AM cM (rfireTo es n left u k) times moves (l.length : Int) false) ∧ Hid (Below wb.heap.size wb wl)) (fun i _ => n - (intOf i).toNat)
            case atStart => exact ⟨0, by omega, rfl, HF2.out, HB2.out⟩
            case round =>
              obtain ⟨k, hk, rfl, HF3, HB3⟩ := hrel
              obtain ⟨wm, hwm⟩ : ∃ wm : World, wm = wr := ⟨wr, rfl⟩
              subst hwm
              have hsz3 := HB3.out.size
              have G3 := HGB.out _ HB3.out
              have c0 := G3.cell 0
              by_cases hlt : k < n
              · have hki : (k : Int) < (n : Int) := by omega
                obtain ⟨y2, hy2⟩ := get_of_lt (xs := rfireTo es n left u k) (k := k) (by rw [rfireTo_length]; exact hlt)
                have hyb2 : -4000000 ≤ y2 ∧ y2 ≤ 60000000 := by
                  rw [rfireTo_at hlt] at hy2
                  injection hy2 with hy2
                  have h1 := HHB.out k hlt
                  have h2 := (HTB.out u k)
                  have h3 := HVB.out u
                  have h4 := HLN.out
                  rw [← hy2]
                  split <;> split <;> omega
                obtain ⟨t, htt⟩ : ∃ t, tt es u k = t := ⟨_, rfl⟩
                have htb := HTB.out u k
                rw [htt] at htb
                have hw2 : IntKind.i64.wrap (y2 + t) = y2 + t := IntWalk.i64_in _ (by omega)
                have GR3 := HGR.out.next HB3.out
                obtain ⟨gr, rr, hgr, hrr, br, _, _⟩ := GR3.at_ (i := u) (by rw [ttTab_length]; exact hun)
                rw [ttTab_all hun] at hrr
                injection hrr with hrr
                subst hrr
                obtain ⟨ba, oa, hA1, ca⟩ := GR3.cell hgr
                subst hA1
                have cr := (br.cell k).trans (intCells_at (ttRow_all (es := es) (v := u) hlt))
                rw [htt] at cr
                obtain ⟨_, hgl3, hfl3, hcl3⟩ := HF3.out.oL.at_ (by rw [rfireTo_length]; omega)
                have cy2 := hcl3 k y2 hy2
                have fy2 := hfl3 k
                have s0 := HF3.out.st.cell 0
                have HF4 : Hid (FallW (wm.setCell ⟨gl, k, none⟩ (.int .i64 (y2 + t))) wb.heap.size b gl cl gt n AM cM (rfireTo es n left u (k + 1)) times moves (l.length : Int) false) := by
                  have := HF3.out.setL k (y2 + t)
                  rw [rfireTo_succ hy2, htt]
                  exact this
                have HB4 : Hid (Below wb.heap.size wb (wm.setCell ⟨gl, k, none⟩ (.int .i64 (y2 + t)))) := HB3.out.setCell (by show wb.heap.size ≤ gl; exact HLO.out.2.1) _
                clear hy2 htt G3 GR3 hgr br hfl3 hcl3
                go_wp2_with fail
                refine region_tail 14 (by kernel_rfl) (by kernel_rfl) ?_
                simp only [List.take_succ_cons, List.take_zero, List.drop_succ_cons, List.drop_zero]
                repeat still_step
                refine wpStill_nil ?_
                go_wp2
                go_roundw
                case rel => exact ⟨k + 1, by omega, by go_num, HF4.out.drewN 1, HB4.out.drew⟩
                case measure => simp [intOf]; omega
              · obtain rfl : k = n := by omega
                have hf : ¬ (k : Int) < (k : Int) := by omega
                have HR2 : Hid (rfireTo es k left u k = runD es k d (l ++ [u])) := by
                  rw [Hid, runD_snoc, ← HR.out]
                  exact HFA.out left u
                have FS3 := HF3.out.st
                have s1 := FS3.cell 1
                obtain ⟨tm, htm⟩ := get_of_lt (xs := times) (k := u) (by rw [HF3.out.tl]; exact hun)
                have ctm := (HF3.out.oT.cell u).trans (intCells_at htm)
                have ftm := HF3.out.oT.frozen u
                have htmb : 0 ≤ tm ∧ tm ≤ l.length := cnt_bd (n := k) (l := l) tm (by rw [← HT.out]; exact List.mem_of_getElem? htm)
                have hw3 : IntKind.i64.wrap (tm + 1) = tm + 1 := IntWalk.i64_in _ (by omega)
                have HT2 : Hid (times.set u (tm + 1) = cntD k (l ++ [u])) := by
                  rw [Hid, cntD_snoc, ← HT.out, getD_at htm]
                have HF4 := Lib.hid (HF3.out.setT u (tm + 1))
                have HB4 : Hid (Below wb.heap.size wb (wm.setCell ⟨gt, u, none⟩ (.int .i64 (tm + 1)))) := HB3.out.setCell (by show wb.heap.size ≤ gt; exact HLO.out.2.2) _
                have HLN2 : Hid (((l ++ [u]).length : Int) = (l.length : Int) + 1) := by rw [Hid, List.length_append]; simp
                obtain ⟨ln, hln⟩ : ∃ ln, l.length = ln := ⟨_, rfl⟩
                rw [hln] at HF4 HLN2 hl hm2 hmx htmb
                have hmx2 : ln < 1048576 := by omega
                have hw4 : IntKind.i64.wrap ((ln : Int) + 1) = (ln : Int) + 1 := IntWalk.i64_in _ (by omega)
                rw [hln] at HF3
                have s3 := HF3.out.st.cell 3
                have HLNN := Lib.hid hln
                clear htm hln
                by_cases h4 : ln < 4096
                · have h4i : (ln : Int) < 4096 := by omega
                  obtain ⟨W5, hW5⟩ : ∃ W5, (wm.setCell ⟨gt, u, none⟩ (.int .i64 (tm + 1))) = W5 := ⟨_, rfl⟩
                  have HF5 : Hid (FallW (W5.alloc (.cells #[.int .i64 (u : Int)] 3)) wb.heap.size b gl cl gt k AM cM (rfireTo es k left u k) (times.set u (tm + 1)) moves (ln : Int) false) := by
                    rw [← hW5]; exact HF4.out.next ((Below.refl _ _).alloc (Nat.le_refl _) _)
                  have HB5 : Hid (Below wb.heap.size wb (W5.alloc (.cells #[.int .i64 (u : Int)] 3))) := by
                    rw [← hW5]; exact HB4.out.alloc HB4.out.size _
                  have s3a : (wm.setCell ⟨gt, u, none⟩ (.int .i64 (tm + 1))).cell? ⟨b, 3, none⟩ = some (.int .i64 (ln : Int)) := HF4.out.st.cell 3
                  have s2a : (wm.setCell ⟨gt, u, none⟩ (.int .i64 (tm + 1))).cell? ⟨b, 2, none⟩ = some (.slice AM moves.length cM) := HF4.out.st.cell 2
                  rw [hW5] at s3a s2a HB4 HF4
                  have hsw5 := HB4.out.size
                  obtain ⟨ml, hml⟩ : ∃ ml, moves.length = ml := ⟨_, rfl⟩
                  rw [hml] at s2a hm1 hm2
                  have HML := Lib.hid hml
                  have oM5 : (W5.alloc (.cells #[.int .i64 (u : Int)] 3)).ownsRow wb.heap.size 3 1 (.slice AM ml cM) ml (ints moves) := by have := HF5.out.oM; unfold OwnI at this; rw [hml] at this; exact this
                  have G5 := HGB.out _ HB4.out
                  have HW5 := Lib.hid hW5
                  clear hW5 hml
                  go_upto_region 15 with fail
                  rw [HW5.out]
                  go_wp2_with (first | (at_builtin; refine append_go rfl (.tmp 82) (.tmp 84) _ rfl wb.heap.size 3 Tryz.underlying25 info_int rfl (by omega) AM cM ml (ints moves) rfl oM5 _ [.int .i64 (u : Int)] rfl (Reads.box _ _ _) (by simp [Value.oneCell']) (by omega) (by simp; omega) ?_; intro A6 c6 w6 hown6 hg6 hb6 hw6; obtain ⟨P6, HF6⟩ := HF5.out.push_ (u := (u : Int)) (w6 := w6) (A6 := A6) (c6 := c6) (by rw [HML.out]; exact hown6) (by rw [HML.out]; exact hg6) (by rw [HML.out]; exact hw6); have s26 := P6.cell 2; have s36 := P6.cell 3; have s06 := P6.cell 0; have y26 := P6.frozen 2; have y36 := P6.frozen 3; replace P6 := Lib.hid P6; replace HF6 := Lib.hid HF6) | fail)
                  rw [HML.out] at HF6
                  have HF7 : Hid (FallW ((w6.setCell ⟨b, 2, none⟩ (.slice A6 (ml + 1) c6)).setCell ⟨b, 3, none⟩ (.int .i64 ((ln : Int) + 1))) wb.heap.size b gl cl gt k A6 c6 (rfireTo es k left u k) (times.set u (tm + 1)) (moves ++ [(u : Int)]) ((l ++ [u]).length : Int) false) := by
                    rw [HLN2.out]; exact HF6.out.setS _
                  have HB7 : Hid (Below wb.heap.size wb ((w6.setCell ⟨b, 2, none⟩ (.slice A6 (ml + 1) c6)).setCell ⟨b, 3, none⟩ (.int .i64 ((ln : Int) + 1)))) := ((HB5.out.trans hb6).setCell (by show wb.heap.size ≤ b; exact HLO.out.1) _).setCell (by show wb.heap.size ≤ b; exact HLO.out.1) _
                  have hrd : Reads ((w6.setCell ⟨b, 2, none⟩ (.slice A6 (ml + 1) c6)).setCell ⟨b, 3, none⟩ (.int .i64 ((ln : Int) + 1))) ((w6.setCell ⟨b, 2, none⟩ (.slice A6 (ml + 1) c6)).setCell ⟨b, 3, none⟩ (.int .i64 ((ln : Int) + 1))).heap.size 1 (some ⟨gl, 0, none⟩) k (ints (rfireTo es k left u k)) := by
                    have := HF7.out.oL.reads; rw [HF7.out.ll] at this; exact this
                  refine (LC.out _ (rfireTo es k left u k) cl HF7.out.ll hrd (HVR.out _ HB7.out)).mono ?_
                  rintro e w8 ⟨rfl, k8, rfl⟩
                  have HF8 := Lib.hid (HF7.out.drewN k8)
                  have HB8 := Lib.hid (below_drewN HB7.out k8)
                  clear hrd
                  go_wp2_with fail
                  go_roundw
                  case rel => exact ⟨rfireTo es k left u k, times.set u (tm + 1), (moves ++ [(u : Int)]), l ++ [u], A6, c6, rfl, HF8.out, hL2.out, HR2.out, HT2.out, by rw [List.length_append, HLNN.out]; simp; omega, by rw [List.length_append, HML.out]; simp; omega, by rw [List.length_append, List.length_append, HML.out, HLNN.out]; simp; omega, HB8.out⟩
                  case measure => rw [HF8.out.sizeAt_, HF.out.sizeAt_, HLN2.out, HLNN.out]; omega
                · have h4i : ¬ (ln : Int) < 4096 := by omega
                  have FS4 := HF4.out.st
                  have s34 := FS4.cell 3
                  have f34 := FS4.frozen 3
                  have s04 := FS4.cell 0
                  go_wp2_with fail
                  have HF7 : Hid (FallW ((wm.setCell ⟨gt, u, none⟩ (.int .i64 (tm + 1))).setCell ⟨b, 3, none⟩ (.int .i64 ((ln : Int) + 1))) wb.heap.size b gl cl gt k AM cM (rfireTo es k left u k) (times.set u (tm + 1)) moves ((l ++ [u]).length : Int) false) := by
                    rw [HLN2.out]; exact HF4.out.setS _
                  have HB7 : Hid (Below wb.heap.size wb ((wm.setCell ⟨gt, u, none⟩ (.int .i64 (tm + 1))).setCell ⟨b, 3, none⟩ (.int .i64 ((ln : Int) + 1)))) := HB4.out.setCell (by show wb.heap.size ≤ b; exact HLO.out.1) _
                  have hrd : Reads ((wm.setCell ⟨gt, u, none⟩ (.int .i64 (tm + 1))).setCell ⟨b, 3, none⟩ (.int .i64 ((ln : Int) + 1))) ((wm.setCell ⟨gt, u, none⟩ (.int .i64 (tm + 1))).setCell ⟨b, 3, none⟩ (.int .i64 ((ln : Int) + 1))).heap.size 1 (some ⟨gl, 0, none⟩) k (ints (rfireTo es k left u k)) := by
                    have := HF7.out.oL.reads; rw [HF7.out.ll] at this; exact this
                  refine (LC.out _ (rfireTo es k left u k) cl HF7.out.ll hrd (HVR.out _ HB7.out)).mono ?_
                  rintro e w8 ⟨rfl, k8, rfl⟩
                  have HF8 := Lib.hid (HF7.out.drewN k8)
                  have HB8 := Lib.hid (below_drewN HB7.out k8)
                  clear hrd
                  go_wp2_with fail
                  go_roundw
                  case rel => exact ⟨rfireTo es k left u k, times.set u (tm + 1), moves, l ++ [u], AM, cM, rfl, HF8.out, hL2.out, HR2.out, HT2.out, by rw [List.length_append, HLNN.out]; simp; omega, by omega, by rw [List.length_append, HLNN.out]; simp; omega, HB8.out⟩
                  case measure => rw [HF8.out.sizeAt_, HF.out.sizeAt_, HLN2.out, HLNN.out]; omega
end Go.Proofs.YtplgbapbgcipdaaGreat

