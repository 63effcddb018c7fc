/-
  Texts of this claim, put together: RChips, RCalm, REnumP, RowsD, RRecs, RRecs2, RRecs3, RAll, RTop.
-/
import Derived.Test.YtghigdcpinengaaGreatK11
import Derived.Test.YtghigdcpinengaaGreatK37
import Derived.Test.YtghigdcpinengaaGreatK36
import Derived.Deep.RegionHeld3
import Derived.Test.YtghigdcpinengaaGreatK26
import Derived.Test.YtghigdcpinengaaGreatK02
import Derived.Test.YtghigdcpinengaaGreatK12
import Derived.Stop.RegionWithIn
import Derived.Sort.CutIn
import Derived.Test.YtghigdcpinengaaGreatK03
import Derived.Laws.EntriesVeiled
/-! ref08.Between; the error of a divisor: ref17.Check. -/
namespace Go.Proofs.YtghigdcpinengaaGreat
open Go.RowKit

set_option maxRecDepth 100000 in
set_option maxHeartbeats 2000000 in
/-- ref08.Between -/
theorem between_any (n : Int) (A : Option Addr) (c : Nat) (es : List E3) (hn : es.length ≤ 1048576) (a b : Int) (w : World) (h : Reads w w.heap.size 3 A es.length (edgeCells es)) :
    Calls Tryz.prog 125 #[.agg #[.int .i64 n, .slice A es.length c], .int .i64 a, .int .i64 b] w fun e w' => e = .returned (.int .i64 (btw es a b)) ∧ Below w.heap.size w w' := by
  obtain ⟨r, hr⟩ : ∃ r, btw es a b = r := ⟨_, rfl⟩
  rw [hr]
  have HR := Lib.hid hr
  clear hr
  rcases Int.lt_trichotomy a b with hab | rfl | hab
  · have hba : ¬ b < a := by omega
    go_enter Tryz.func125, Tryz.ntmps125
    go_wp2
    go_loopw [7] (fun i wr => ∃ k : Nat, k ≤ es.length ∧ i = .int .i64 k ∧ Below w.heap.size w wr ∧ Blk wr w.heap.size 24 #[.int .i64 n, .slice A es.length c] ∧ Hid (btw es a b = btw (es.drop k) a b)) (fun i _ => es.length - (intOf i).toNat)
    case atStart => exact ⟨0, by omega, rfl, (Below.refl _ _).alloc (Nat.le_refl _) _, Blk.new _ _ _, by simp [Hid]⟩
    case round =>
      obtain ⟨k, hk, rfl, hbel, g1, HS⟩ := hrel
      have c1 := g1.cell 1
      have hsz := hbel.size
      have hlt0 := g1.lt
      by_cases hlt : k < es.length
      · obtain ⟨⟨x, y, m⟩, hx⟩ := get_of_lt hlt
        have hi : (k : Int) < (es.length : Int) := by omega
        have hd := btw_drop hx a b
        rw [show min a b = a from by omega, show max a b = b from by omega] at hd
        dsimp only at hd
        obtain ⟨bb, off, rfl, hb, q1, q2, q3⟩ := (h.below hbel).edge hx
        have G1 := g1.alloc (.cells #[.int .i64 x, .int .i64 y, .int .i64 m] 104)
        dsimp only at q1 q2 q3
        have HB := Lib.hid (hbel.alloc (Nat.le_trans (by simp) hsz) (.cells #[.int .i64 x, .int .i64 y, .int .i64 m] 104))
        clear hx h hbel
        by_cases h1 : x = a
        · by_cases h2 : y = b
          · rw [if_pos ⟨h1, h2⟩] at hd
            have HD := Lib.hid hd
            have e1 : (x == a) = true := by simpa using h1
            have e2 : (y == b) = true := by simpa using h2
            clear hd h1 h2
            go_wp2
            go_ret
            exact ⟨ret_int (by rw [← HR.out, HS.out, HD.out]), HB.out⟩
          · rw [if_neg (fun hc => h2 hc.2)] at hd
            have HD := Lib.hid hd
            have e1 : (x == a) = true := by simpa using h1
            have e2 : (y == b) = false := by simpa using h2
            clear hd h1 h2
            go_wp2
            go_roundw
            case rel => exact ⟨k + 1, by omega, by go_num, HB.out, G1, by rw [Hid, HS.out, HD.out]⟩
            case measure => simp [intOf]; omega
        · rw [if_neg (fun hc => h1 hc.1)] at hd
          have HD := Lib.hid hd
          have e1 : (x == a) = false := by simpa using h1
          clear hd h1
          go_wp2
          go_roundw
          case rel => exact ⟨k + 1, by omega, by go_num, HB.out, G1, by rw [Hid, HS.out, HD.out]⟩
          case measure => simp [intOf]; omega
      · go_wp2
        go_ret
        refine ⟨ret_int ?_, hbel⟩
        have e : btw es a b = 0 := by rw [HS.out, List.drop_eq_nil_of_le (by omega)]; rfl
        rw [← HR.out, e]
  · go_enter Tryz.func125, Tryz.ntmps125
    go_wp2
    go_loopw [7] (fun i wr => ∃ k : Nat, k ≤ es.length ∧ i = .int .i64 k ∧ Below w.heap.size w wr ∧ Blk wr w.heap.size 24 #[.int .i64 n, .slice A es.length c] ∧ Hid (btw es a a = btw (es.drop k) a a)) (fun i _ => es.length - (intOf i).toNat)
    case atStart => exact ⟨0, by omega, rfl, (Below.refl _ _).alloc (Nat.le_refl _) _, Blk.new _ _ _, by simp [Hid]⟩
    case round =>
      obtain ⟨k, hk, rfl, hbel, g1, HS⟩ := hrel
      have c1 := g1.cell 1
      have hsz := hbel.size
      have hlt0 := g1.lt
      by_cases hlt : k < es.length
      · obtain ⟨⟨x, y, m⟩, hx⟩ := get_of_lt hlt
        have hi : (k : Int) < (es.length : Int) := by omega
        have hd := btw_drop hx a a
        rw [show min a a = a from by omega, show max a a = a from by omega] at hd
        dsimp only at hd
        obtain ⟨bb, off, rfl, hb, q1, q2, q3⟩ := (h.below hbel).edge hx
        have G1 := g1.alloc (.cells #[.int .i64 x, .int .i64 y, .int .i64 m] 104)
        dsimp only at q1 q2 q3
        have HB := Lib.hid (hbel.alloc (Nat.le_trans (by simp) hsz) (.cells #[.int .i64 x, .int .i64 y, .int .i64 m] 104))
        clear hx h hbel
        by_cases h1 : x = a
        · by_cases h2 : y = a
          · rw [if_pos ⟨h1, h2⟩] at hd
            have HD := Lib.hid hd
            have e1 : (x == a) = true := by simpa using h1
            have e2 : (y == a) = true := by simpa using h2
            clear hd h1 h2
            go_wp2
            go_ret
            exact ⟨ret_int (by rw [← HR.out, HS.out, HD.out]), HB.out⟩
          · rw [if_neg (fun hc => h2 hc.2)] at hd
            have HD := Lib.hid hd
            have e1 : (x == a) = true := by simpa using h1
            have e2 : (y == a) = false := by simpa using h2
            clear hd h1 h2
            go_wp2
            go_roundw
            case rel => exact ⟨k + 1, by omega, by go_num, HB.out, G1, by rw [Hid, HS.out, HD.out]⟩
            case measure => simp [intOf]; omega
        · rw [if_neg (fun hc => h1 hc.1)] at hd
          have HD := Lib.hid hd
          have e1 : (x == a) = false := by simpa using h1
          clear hd h1
          go_wp2
          go_roundw
          case rel => exact ⟨k + 1, by omega, by go_num, HB.out, G1, by rw [Hid, HS.out, HD.out]⟩
          case measure => simp [intOf]; omega
      · go_wp2
        go_ret
        refine ⟨ret_int ?_, hbel⟩
        have e : btw es a a = 0 := by rw [HS.out, List.drop_eq_nil_of_le (by omega)]; rfl
        rw [← HR.out, e]
  · have hba : ¬ a < b := by omega
    go_enter Tryz.func125, Tryz.ntmps125
    go_wp2
    go_loopw [7] (fun i wr => ∃ k : Nat, k ≤ es.length ∧ i = .int .i64 k ∧ Below w.heap.size w wr ∧ Blk wr w.heap.size 24 #[.int .i64 n, .slice A es.length c] ∧ Hid (btw es a b = btw (es.drop k) a b)) (fun i _ => es.length - (intOf i).toNat)
    case atStart => exact ⟨0, by omega, rfl, (Below.refl _ _).alloc (Nat.le_refl _) _, Blk.new _ _ _, by simp [Hid]⟩
    case round =>
      obtain ⟨k, hk, rfl, hbel, g1, HS⟩ := hrel
      have c1 := g1.cell 1
      have hsz := hbel.size
      have hlt0 := g1.lt
      by_cases hlt : k < es.length
      · obtain ⟨⟨x, y, m⟩, hx⟩ := get_of_lt hlt
        have hi : (k : Int) < (es.length : Int) := by omega
        have hd := btw_drop hx a b
        rw [show min a b = b from by omega, show max a b = a from by omega] at hd
        dsimp only at hd
        obtain ⟨bb, off, rfl, hb, q1, q2, q3⟩ := (h.below hbel).edge hx
        have G1 := g1.alloc (.cells #[.int .i64 x, .int .i64 y, .int .i64 m] 104)
        dsimp only at q1 q2 q3
        have HB := Lib.hid (hbel.alloc (Nat.le_trans (by simp) hsz) (.cells #[.int .i64 x, .int .i64 y, .int .i64 m] 104))
        clear hx h hbel
        by_cases h1 : x = b
        · by_cases h2 : y = a
          · rw [if_pos ⟨h1, h2⟩] at hd
            have HD := Lib.hid hd
            have e1 : (x == b) = true := by simpa using h1
            have e2 : (y == a) = true := by simpa using h2
            clear hd h1 h2
            go_wp2
            go_ret
            exact ⟨ret_int (by rw [← HR.out, HS.out, HD.out]), HB.out⟩
          · rw [if_neg (fun hc => h2 hc.2)] at hd
            have HD := Lib.hid hd
            have e1 : (x == b) = true := by simpa using h1
            have e2 : (y == a) = false := by simpa using h2
            clear hd h1 h2
            go_wp2
            go_roundw
            case rel => exact ⟨k + 1, by omega, by go_num, HB.out, G1, by rw [Hid, HS.out, HD.out]⟩
            case measure => simp [intOf]; omega
        · rw [if_neg (fun hc => h1 hc.1)] at hd
          have HD := Lib.hid hd
          have e1 : (x == b) = false := by simpa using h1
          clear hd h1
          go_wp2
          go_roundw
          case rel => exact ⟨k + 1, by omega, by go_num, HB.out, G1, by rw [Hid, HS.out, HD.out]⟩
          case measure => simp [intOf]; omega
      · go_wp2
        go_ret
        refine ⟨ret_int ?_, hbel⟩
        have e : btw es a b = 0 := by rw [HS.out, List.drop_eq_nil_of_le (by omega)]; rfl
        rw [← HR.out, e]

set_option maxHeartbeats 400000 in
theorem rin_any (k : Int) (w : World) :
    Calls Tryz.prog 124 #[.int .i64 k] w fun e w' => e = .returned (.bool (chipB k)) ∧ w = w' := by
  go_enter Tryz.func124, Tryz.ntmps124
  go_wp2
  all_goals (go_ret; exact ⟨by simp only [chipB]; simp [*]; try omega, rfl⟩)
set_option maxHeartbeats 1000000 in
/-- ref17.Check -/
theorem rdcheck_any (A : Option Addr) (c : Nat) (cs : List Int) (hm : cs.length ≤ 1048576) (n : Int) (w : World) (h : Reads w w.heap.size 1 A cs.length (ints cs)) :
    Calls Tryz.prog 94 #[.slice A cs.length c, .int .i64 n] w fun e w' => e = .returned (.int .i64 (divErr cs n)) ∧ w = w' := by
  by_cases h1 : n < 1
  · have hd : divErr cs n = 2 := by unfold divErr; rw [if_pos (.inl h1)]
    rw [hd]
    go_enter Tryz.func94, Tryz.ntmps94
    go_wp2
    go_ret
    exact ⟨rfl, rfl⟩
  by_cases h2 : 12 < n
  · have hd : divErr cs n = 2 := by unfold divErr; rw [if_pos (.inr h2)]
    rw [hd]
    go_enter Tryz.func94, Tryz.ntmps94
    go_wp2
    go_ret
    exact ⟨rfl, rfl⟩
  by_cases hl : (cs.length : Int) = n
  · have hn : ¬ (n < 1 ∨ 12 < n) := by omega
    subst hl
    have hb : ((cs.length : Int) != (cs.length : Int)) = false := by simp
    have HE := Lib.hid (fun k x hx hb => divErr_at (cs := cs) (k := k) (x := x) hn rfl hx hb)
    have HF := Lib.hid (divErr_end (cs := cs) hn rfl)
    obtain ⟨r, hr⟩ : ∃ r, divErr cs cs.length = r := ⟨_, rfl⟩
    rw [hr] at HE HF ⊢
    clear hn hr
    go_enter Tryz.func94, Tryz.ntmps94
    go_wp2
    go_loop [5] (fun i => ∃ k : Nat, k ≤ cs.length ∧ i = .int .i64 k ∧ Hid ((cs.take k).all chipB = true)) (fun i => cs.length - (intOf i).toNat)
    case atStart => exact ⟨0, by omega, rfl, by simp [Hid]⟩
    case round =>
      obtain ⟨k, hk, rfl, HS⟩ := hrel
      by_cases hlt : k < cs.length
      · obtain ⟨x, hx⟩ := get_of_lt hlt
        obtain ⟨b, off, rfl, hb', hcell⟩ := h.at_ (ints_at hx)
        have hi : (k : Int) < (cs.length : Int) := by omega
        have HX := Lib.hid hx
        clear hx h
        cases hin : chipB x
        · obtain rfl := HE.out k x HX.out hin
          go_wp2_with (go_at_call 124; refine (rin_any _ _).mono ?_; rintro e w' ⟨rfl, rfl⟩)
          go_ret
          exact ⟨rfl, rfl⟩
        · have HN := Lib.hid (all_snoc HX.out HS.out hin)
          go_wp2_with (go_at_call 124; refine (rin_any _ _).mono ?_; rintro e w' ⟨rfl, rfl⟩)
          go_round
          case rel => exact ⟨k + 1, by omega, by go_num, HN.out⟩
          case measure => simp [intOf]; omega
      · obtain rfl : k = cs.length := by omega
        obtain rfl := HF.out HS.out
        go_wp2
        go_ret
        exact ⟨rfl, rfl⟩
  · have hd : divErr cs n = 8 := by unfold divErr; rw [if_neg (by omega), if_pos hl]
    have hb : ((cs.length : Int) != n) = true := by simpa using hl
    rw [hd]
    clear hl hd
    go_enter Tryz.func94, Tryz.ntmps94
    go_wp2
    go_ret
    exact ⟨rfl, rfl⟩
end Go.Proofs.YtghigdcpinengaaGreat

/-! ref08.Valence, ref19.Waiting, ref19.Calm. -/
namespace Go.Proofs.YtghigdcpinengaaGreat
open Go.RowKit

end Go.Proofs.YtghigdcpinengaaGreat

/-! Plain: lists below a list, in lexicographic order; those with a property that what is more has too. No program is in sight. -/
namespace Go.Proofs.YtghigdcpinengaaGreat

section
variable {rec : List Int → Bool} {top : List Int} {n f v k : Nat} {c : List Int}
end
end Go.Proofs.YtghigdcpinengaaGreat

/-! Slices of divisors, of the call's own. -/
namespace Go.Proofs.YtghigdcpinengaaGreat
open Go.RowKit

/-- The slice value is the call's own, and so is each of its rows; they read as the lists. -/
def OwnDivs (w : World) (base : Nat) (A : Option Addr) (c : Nat) (vs : List Value) (xss : List (List Int)) : Prop :=
  w.ownsRow base 26 1 (.slice A xss.length c) xss.length vs ∧ (∀ u ∈ vs, u.oneCell' = true) ∧
  ∀ (i : Nat) (xs : List Int), xss[i]? = some xs → ∃ A' c', vs[i]? = some (.slice A' xs.length c') ∧ OwnI w base A' c' xs
section
variable {w w' : World} {base : Nat} {A : Option Addr} {c : Nat} {vs : List Value} {xss : List (List Int)}
theorem OwnDivs.nil_ (w : World) (base : Nat) : OwnDivs w base none 0 [] [] := ⟨World.ownsRow_nil _ _ _ _, by simp, by simp⟩
theorem OwnDivs.len (h : OwnDivs w base A c vs xss) : vs.length = xss.length := by have := h.1.1; omega
theorem OwnDivs.kept (h : OwnDivs w base A c vs xss) (hk : ∀ k, rowBlock A vs k → w'.heap[k]? = w.heap[k]?) : OwnDivs w' base A c vs xss := by
  refine ⟨own_kept h.1 fun k hb => hk k (.inl hb), h.2.1, fun i xs hi => ?_⟩
  obtain ⟨A', c', hv, ho⟩ := h.2.2 i xs hi
  exact ⟨A', c', hv, own_kept ho fun k hb => hk k (.inr ⟨_, List.mem_of_getElem? hv, blockOf_own.2 hb⟩)⟩
theorem OwnDivs.lt (h : OwnDivs w base A c vs xss) {k : Nat} (hk : rowBlock A vs k) : base ≤ k ∧ k < w.heap.size := by
  rcases hk with hk | ⟨v, hv, hk⟩
  · exact own_lt h.1 hk
  · obtain ⟨i, hi⟩ := List.getElem?_of_mem hv
    have hil : i < xss.length := by
      have := (List.getElem?_eq_some_iff.1 hi).1
      rw [h.len] at this; exact this
    obtain ⟨xs, hxs⟩ := get_of_lt hil
    obtain ⟨A', c', hv', ho⟩ := h.2.2 i xs hxs
    rw [hi] at hv'
    injection hv' with hv'
    subst hv'
    exact own_lt ho (blockOf_own.1 hk)
theorem OwnDivs.next (h : OwnDivs w base A c vs xss) (hb : Below w.heap.size w w') : OwnDivs w' base A c vs xss := h.kept fun k hk => hb.block k (h.lt hk).2
theorem OwnDivs.mono {base' : Nat} (h : OwnDivs w base A c vs xss) (hb : base' ≤ base) : OwnDivs w base' A c vs xss := by
  refine ⟨own_rebase h.1 fun k hk => Nat.le_trans hb (own_lt h.1 hk).1, h.2.1, fun i xs hi => ?_⟩
  obtain ⟨A', c', hv, ho⟩ := h.2.2 i xs hi
  exact ⟨A', c', hv, ho.mono hb⟩
end

theorem OwnDivs.ne_blk {w : World} {base : Nat} {A : Option Addr} {c : Nat} {vs : List Value} {xss : List (List Int)} (h : OwnDivs w base A c vs xss) {g : Nat} {t : TypeId} {cs : Array Value} (hg : Blk w g t cs) (h1 : 26 ≠ t) (h2 : 3 ≠ t) {k : Nat} (hk : rowBlock A vs k) : k ≠ g := by
  rcases hk with hk | ⟨v, hv, hk⟩
  · exact own_blk h.1 hg h1 hk
  · obtain ⟨i, hi⟩ := List.getElem?_of_mem hv
    have hil : i < xss.length := by
      have := (List.getElem?_eq_some_iff.1 hi).1
      rw [h.len] at this; exact this
    obtain ⟨xs, hxs⟩ := get_of_lt hil
    obtain ⟨A', c', hv', ho⟩ := h.2.2 i xs hxs
    rw [hi] at hv'
    injection hv' with hv'
    subst hv'
    exact own_blk ho hg h2 (blockOf_own.1 hk)
theorem OwnDivs.set_blk {w : World} {base : Nat} {A : Option Addr} {c : Nat} {vs : List Value} {xss : List (List Int)} (h : OwnDivs w base A c vs xss) {g : Nat} {t : TypeId} {cs : Array Value} (hg : Blk w g t cs) (h1 : 26 ≠ t) (h2 : 3 ≠ t) (o : Nat) (u : Value) : OwnDivs (w.setCell ⟨g, o, none⟩ u) base A c vs xss :=
  h.kept fun _ hk => Below.heap_setCell w ⟨g, o, none⟩ u _ (h.ne_blk hg h1 h2 hk)
/-- One row more. -/
theorem OwnDivs.push {w w' : World} {base : Nat} {A A' A8 : Option Addr} {c c' c8 : Nat} {vs : List Value} {xss : List (List Int)} {x : List Int} (h : OwnDivs w base A c vs xss) (h8 : OwnI w base A8 c8 x)
    (hown : w'.ownsRow base 26 1 (.slice A' (xss.length + 1) c') (xss.length + 1) (vs ++ [.slice A8 x.length c8])) (hg : w.grownBy w' (Value.slice A xss.length c).ownBlock) : OwnDivs w' base A' c' (vs ++ [.slice A8 x.length c8]) (xss ++ [x]) := by
  have keep : ∀ {A1 : Option Addr} {c1 : Nat} {y : List Int}, OwnI w base A1 c1 y → OwnI w' base A1 c1 y := fun {A1 c1 y} ho => own_kept ho fun k hk => hg.block k (own_lt ho hk).2 fun e => by
    exact own_ne ho h.1 (by decide) hk (blockOf_own.1 e.symm) rfl
  refine ⟨by rw [List.length_append]; exact hown, ?_, fun i xs hi => ?_⟩
  · intro u hu
    rcases List.mem_append.1 hu with hu | hu
    · exact h.2.1 u hu
    · rw [List.mem_singleton.1 hu]; rfl
  · have hl := h.len
    rcases Nat.lt_trichotomy i xss.length with hlt | rfl | hgt
    · rw [List.getElem?_append_left hlt] at hi
      obtain ⟨A1, c1, hv, ho⟩ := h.2.2 i xs hi
      exact ⟨A1, c1, by rw [List.getElem?_append_left (by omega)]; exact hv, keep ho⟩
    · have : xs = x := by simpa using hi.symm
      subst this
      exact ⟨A8, c8, by rw [← hl]; simp, keep h8⟩
    · rw [List.getElem?_eq_none (by simp; omega)] at hi; cases hi

theorem OwnDivs.reads {w : World} {base : Nat} {A : Option Addr} {c : Nat} {vs : List Value} {xss : List (List Int)} (h : OwnDivs w base A c vs xss) : RowsR w w.heap.size A xss :=
  ⟨vs, Reads.of_own h.1, fun i xs hi => by
    obtain ⟨A', c', hv, ho⟩ := h.2.2 i xs hi
    exact ⟨A', c', hv, ho.reads⟩⟩
end Go.Proofs.YtghigdcpinengaaGreat

/-! Package recurrent: the iterator recurrents, which ranges over itself. -/
namespace Go.Proofs.YtghigdcpinengaaGreat
open Go.RowKit Go.Shelf
attribute [local go_sem] Oper.semAt_some

/-- What holds between two rounds; K: what is leant on. -/
structure RF (K : Nat → Prop) (l : Nat) (J : List (List Int) → (Nat → Prop) → World → Prop) (W : World) (pre : List (List Int)) (C : Nat → Prop) (ds : List Deferred) (B : Nat) (w : World) : Prop where
  sz : W.heap.size < B
  szw : B ≤ w.heap.size
  kp : ∀ k, K k → k < W.heap.size ∧ w.heap[k]? = W.heap[k]?
  yb : Blk w W.heap.size 144 #[.func (.yield l) #[] #[]]
  j : J pre C w
  cl : ∀ k, C k → k < w.heap.size ∧ ¬ K k ∧ k ≠ W.heap.size
  mks : MarksAt ds w
  md : ∀ D, ({ target := .collected D, args := #[] } : Deferred) ∈ ds → W.heap.size < D ∧ D < B ∧ ¬ C D

section
variable {K : Nat → Prop} {l : Nat} {J : List (List Int) → (Nat → Prop) → World → Prop} {W : World} {pre pre' : List (List Int)} {C O C' : Nat → Prop} {ds : List Deferred} {B B' : Nat} {w w' : World}
theorem RF.round (h : RF K l J W pre C ds B w) (ho : Only (fun k => C k ∨ O k) w w') (hg : Grows C O C' w w') (hO : ∀ k, O k → B ≤ k ∧ k < w.heap.size) (hj : J pre' C' w') : RF K l J W pre' C' ds B w' := by
  have hsz := h.sz
  have hszw := h.szw
  have hnot : ∀ k, k < B → ¬ C k → ¬ (C k ∨ O k) := fun k hk hn hco => hco.elim hn fun hok => by have := (hO k hok).1; omega
  refine ⟨h.sz, Nat.le_trans h.szw ho.size, fun k hk => ?_, h.yb.only ho (hnot _ (by omega) fun hc => (h.cl W.heap.size hc).2.2 rfl), hj, ?_, ?_, ?_⟩
  · obtain ⟨h1, h2⟩ := h.kp k hk
    exact ⟨h1, (ho.block k (by omega) (hnot k (by omega) fun hc => (h.cl k hc).2.1 hk)).trans h2⟩
  · intro k hk
    rcases hg k hk with hc | hc | hc
    · obtain ⟨q1, q2⟩ := h.cl k hc
      exact ⟨Nat.lt_of_lt_of_le q1 ho.size, q2⟩
    · have := hO k hc
      exact ⟨Nat.lt_of_lt_of_le this.2 ho.size, (fun e => by have := (h.kp k e).1; omega), by omega⟩
    · exact ⟨hc.2, (fun e => by have := (h.kp k e).1; omega), by omega⟩
  · refine h.mks.keep fun D hD => ?_
    have := h.md D hD
    exact ho.block D (by omega) (hnot D (by omega) this.2.2)
  · intro D hD
    have := h.md D hD
    refine ⟨this.1, this.2.1, fun hc => ?_⟩
    rcases hg D hc with q | q | q
    · exact this.2.2 q
    · have := (hO D q).1; omega
    · omega
end

/-- What the iterator leans on. -/
def KR (bp bv bt : Nat) (es : List E3) (A C T : Option Addr) (k : Nat) : Prop := k = bp ∨ k = bv ∨ k = bt ∨ (es.length ≠ 0 ∧ blockOf A k) ∨ blockOf C k ∨ blockOf T k
structure RecW (w : World) (n q v bp bv bt : Nat) (es : List E3) (A : Option Addr) (cA : Nat) (C : Option Addr) (cC : Nat) (T : Option Addr) (cT : Nat) (cs top : List Int) : Prop where
  p : Blk w bp 117 #[.int .i64 n, .slice A es.length cA, .int .i64 q, .slice C n cC]
  v : Blk w bv 3 #[.int .i64 v]
  t : Blk w bt 26 #[.slice T n cT]
  e : Reads w w.heap.size 3 A es.length (edgeCells es)
  c : Reads w w.heap.size 1 C n (ints cs)
  r : Reads w w.heap.size 1 T n (ints top)
section
variable {w w' : World} {n q v bp bv bt : Nat} {es : List E3} {A C T : Option Addr} {cA cC cT : Nat} {cs top : List Int}
theorem RecW.kept (h : RecW w n q v bp bv bt es A cA C cC T cT cs top) (hs : w.heap.size ≤ w'.heap.size) (hk : ∀ k, KR bp bv bt es A C T k → w'.heap[k]? = w.heap[k]?) : RecW w' n q v bp bv bt es A cA C cC T cT cs top := by
  refine ⟨(hk _ (.inl rfl)).trans h.p, (hk _ (.inr (.inl rfl))).trans h.v, (hk _ (.inr (.inr (.inl rfl)))).trans h.t, ⟨h.e.1, fun hn => ?_⟩, ⟨h.c.1, fun hn => ?_⟩, ⟨h.r.1, fun hn => ?_⟩⟩
  · obtain ⟨b, off, hA, hb, hc⟩ := h.e.2 hn
    exact ⟨b, off, hA, by omega, fun j u hu => (World.cell?_of_block (w := w) (hk b (.inr (.inr (.inr (.inl ⟨by omega, _, hA, rfl⟩)))))).trans (hc j u hu)⟩
  · obtain ⟨b, off, hA, hb, hc⟩ := h.c.2 hn
    exact ⟨b, off, hA, by omega, fun j u hu => (World.cell?_of_block (w := w) (hk b (.inr (.inr (.inr (.inr (.inl ⟨_, hA, rfl⟩))))))).trans (hc j u hu)⟩
  · obtain ⟨b, off, hA, hb, hc⟩ := h.r.2 hn
    exact ⟨b, off, hA, by omega, fun j u hu => (World.cell?_of_block (w := w) (hk b (.inr (.inr (.inr (.inr (.inr ⟨_, hA, rfl⟩))))))).trans (hc j u hu)⟩
theorem RecW.lt (h : RecW w n q v bp bv bt es A cA C cC T cT cs top) (hn : 0 < n) {k : Nat} (hk : KR bp bv bt es A C T k) : k < w.heap.size := by
  rcases hk with rfl | rfl | rfl | ⟨he, ad, hA, hk⟩ | ⟨ad, hA, hk⟩ | ⟨ad, hA, hk⟩
  · exact h.p.lt
  · exact h.v.lt
  · exact h.t.lt
  · obtain ⟨b, off, e, hb, _⟩ := h.e.2 (by omega)
    rw [e] at hA; injection hA with hA; subst hA; subst hk; exact hb
  · obtain ⟨b, off, e, hb, _⟩ := h.c.2 hn
    rw [e] at hA; injection hA with hA; subst hA; subst hk; exact hb
  · obtain ⟨b, off, e, hb, _⟩ := h.r.2 hn
    rw [e] at hA; injection hA with hA; subst hA; subst hk; exact hb
theorem RecW.next (h : RecW w n q v bp bv bt es A cA C cC T cT cs top) (hn : 0 < n) (hb : Below w.heap.size w w') : RecW w' n q v bp bv bt es A cA C cC T cT cs top := h.kept hb.size fun k hk => hb.block k (h.lt hn hk)
end

end Go.Proofs.YtghigdcpinengaaGreat

/-! Package recurrent: the iterator recurrents, where all vertices are chosen. -/
namespace Go.Proofs.YtghigdcpinengaaGreat
open Go.RowKit Go.Shelf
attribute [local go_sem] Oper.semAt_some

end Go.Proofs.YtghigdcpinengaaGreat

/-! Package recurrent: the iterator recurrents, where a vertex is to be chosen: it ranges over itself. -/
namespace Go.Proofs.YtghigdcpinengaaGreat
open Go.RowKit Go.Shelf
attribute [local go_sem] Oper.semAt_some

end Go.Proofs.YtghigdcpinengaaGreat

/-! Package recurrent: All. -/
namespace Go.Proofs.YtghigdcpinengaaGreat
open Go.RowKit Go.Shelf
attribute [local go_sem] Oper.semAt_some

theorem maxL_length (n : Nat) (es : List E3) (q : Nat) : (maxL n es q).length = n := by simp [maxL, maxTo]
theorem maxL_get {n q v : Nat} {es : List E3} (hok : ∀ e ∈ es, okE n e) (hv : v < n) : (maxL n es q).getD v 0 = if v = q then 0 else valE es v - 1 := by
  unfold maxL maxTo
  rw [List.getD_eq_getElem?_getD]
  simp only [List.getElem?_map, List.getElem?_range hv, Option.map_some, Option.getD_some]
  by_cases h : v = q
  · rw [if_neg (fun e => e.2 h), if_pos h]
  · rw [if_pos ⟨hv, h⟩, if_neg h, valL_val hok]
end Go.Proofs.YtghigdcpinengaaGreat

/-! ref19.Top: the maximal stable configuration. -/
namespace Go.Proofs.YtghigdcpinengaaGreat
open Go.RowKit

end Go.Proofs.YtghigdcpinengaaGreat

