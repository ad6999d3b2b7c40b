/-
  Plain facts for the walk of flood: blocks of ints by their cells; what the walk holds.
-/
import Derived.Test.YtgnkeecjaffnaaaProg
import Derived.Test.YtgnkeecjaffnaaaBase
import Derived.Test.YtgnkeecjaffnaaaRow
import Derived.Test.YtgnkeecjaffnaaaRowsOf
import Derived.Test.YtgnkeecjaffnaaaPc
import Derived.Test.YtgnkeecjaffnaaaPd
import Derived.Test.YtgnkeecjaffnaaaShelf
namespace Go.Proofs.Ytgnkeecjaffnaaa
open Go.RowKit

theorem ofInt_i64 (a : Nat) (ha : a < 9223372036854775808) : (BitVec.ofInt 64 (a : Int)).toNat = a := by
  rw [BitVec.ofInt_natCast, BitVec.toNat_ofNat]; exact Nat.mod_eq_of_lt (by omega)
theorem i64_or_nat (a b : Nat) (ha : a < 9223372036854775808) (hb : b < 9223372036854775808) : bits .or .i64 (a : Int) (b : Int) = ((a ||| b : Nat) : Int) := by
  have hx : a ||| b < 2 ^ 63 := Nat.or_lt_two_pow (by omega) (by omega)
  show IntKind.i64.wrap ((BitVec.ofInt 64 (a : Int) ||| BitVec.ofInt 64 (b : Int)).toNat : Int) = _
  rw [BitVec.toNat_or, ofInt_i64 a ha, ofInt_i64 b hb, IntKind.wrap_i64]
  omega
theorem i64_and_one (a : Nat) (ha : a < 9223372036854775808) : bits .and .i64 (a : Int) 1 = ((a % 2 : Nat) : Int) := by
  show IntKind.i64.wrap ((BitVec.ofInt 64 (a : Int) &&& BitVec.ofInt 64 (1 : Int)).toNat : Int) = _
  rw [BitVec.toNat_and, ofInt_i64 a ha, show (BitVec.ofInt 64 (1 : Int)).toNat = 1 from rfl, Nat.and_one_is_mod, IntKind.wrap_i64]
  omega
theorem i64_bit (x k : Nat) (hx : x < 9223372036854775808) : bits .and .i64 ((x : Int) / 2 ^ k) 1 = ((if x.testBit k then 1 else 0 : Nat) : Int) := by
  have e : ((x : Int) / 2 ^ k) = ((x / 2 ^ k : Nat) : Int) := by rw [Int.natCast_ediv, Int.natCast_pow]; rfl
  have hle : x / 2 ^ k ≤ x := Nat.div_le_self _ _
  rw [e, i64_and_one _ (by omega), Nat.testBit_eq_decide_div_mod_eq]
  congr 1
  by_cases h : x / 2 ^ k % 2 = 1
  · simp [h]
  · have : x / 2 ^ k % 2 = 0 := by omega
    simp [this]
theorem i64_has (x k : Nat) (hx : x < 9223372036854775808) : (bits .and .i64 ((x : Int) / 2 ^ k) 1 == 1) = x.testBit k := by
  rw [i64_bit x k hx]
  cases x.testBit k <;> rfl
theorem i64_shl_one {u P : Nat} (hP : P = 2 ^ u) (hu : u < 63) : IntKind.i64.wrap ((2 : Int) ^ u) = (P : Int) := by
  have h : (2 : Nat) ^ u < 2 ^ 63 := Nat.pow_lt_pow_right (by decide) hu
  have e : ((2 : Int) ^ u) = ((2 ^ u : Nat) : Int) := by rw [Int.natCast_pow]; rfl
  rw [e, hP, IntKind.wrap_i64]; omega

/-- A block of ints whose first n are known. -/
def KnI (w : World) (b n : Nat) (g : Nat → Nat) : Prop := ∃ cs, Blk w b 3 cs ∧ ∀ k, k < n → cs[k]? = some (.int .i64 (g k))
section
variable {w w1 : World} {b n : Nat} {g : Nat → Nat}
theorem KnI.cell (h : KnI w b n g) {k : Nat} (hk : k < n) : w.cell? ⟨b, k, none⟩ = some (.int .i64 (g k)) := by
  obtain ⟨cs, hb, hc⟩ := h; exact hb.cell (hc k hk)
theorem KnI.frozen (h : KnI w b n g) {k : Nat} : w.frozen? ⟨b, k, none⟩ = false := by
  obtain ⟨cs, hb, _⟩ := h; exact hb.frozen
theorem KnI.keeps (h : KnI w b n g) (hk : Keeps w w1 3) : KnI w1 b n g := by
  obtain ⟨cs, hb, hc⟩ := h; exact ⟨cs, hk b cs hb, hc⟩
theorem KnI.below (h : KnI w b n g) (hb : Below w.heap.size w w1) : KnI w1 b n g := h.keeps (.of_below hb _)
theorem KnI.congr {g' : Nat → Nat} (h : KnI w b n g) (e : ∀ k, k < n → g k = g' k) : KnI w b n g' := by
  obtain ⟨cs, hb, hc⟩ := h; exact ⟨cs, hb, fun k hk => by rw [← e k hk]; exact hc k hk⟩
theorem KnI.set (h : KnI w b n g) {j : Nat} (x : Nat) : KnI (w.setCell ⟨b, j, none⟩ (.int .i64 x)) b n (upd g j x) := by
  obtain ⟨cs, hb, hc⟩ := h
  refine ⟨_, hb.set j _, fun k hk => ?_⟩
  have hs : k < cs.size := (Array.getElem?_eq_some_iff.1 (hc k hk)).1
  unfold upd
  by_cases hkj : k = j
  · subst hkj
    rw [if_pos rfl, Array.getElem?_setIfInBounds_self_of_lt hs]
  · rw [if_neg hkj, Array.getElem?_setIfInBounds_ne (fun e => hkj e.symm)]
    exact hc k hk
theorem KnI.made (w : World) (N : Nat) : KnI (w.alloc (.cells (madeCells #[.int .i64 0] N) 3)) w.heap.size N (fun _ => 0) := by
  refine ⟨_, Blk.new w _ _, fun k hk => ?_⟩
  have := (RowI.made w N 3 k hk).1
  rw [cell_of_row _ _ k _ _ (0, 0) (Blk.new w _ _)] at this
  exact this
theorem cloneK (c : Nat) (w : World) (h : KnI w b n g) (hn : n ≤ 65536) (h0 : 0 < n) :
    Calls Try.prog 51 #[.slice (some ⟨b, 0, none⟩) n c] w fun e w' => ∃ q cap, e = .returned (.slice (some ⟨q, 0, none⟩) n cap) ∧ KnI w' q n g ∧ w.heap.size ≤ q ∧ Below w.heap.size w w' := by
  have hz : ((List.range n).map fun k => ((g k : Nat) : Int)).length = n := by simp
  refine (Try.slices_Clone_int b 0 n c ((List.range n).map fun k => ((g k : Nat) : Int)) w (by omega) (by omega) (fun j hj => ?_)).mono ?_
  · have hj2 : j < n := by omega
    rw [Nat.zero_add, h.cell hj2]
    simp [List.getD_eq_getElem?_getD, hj2]
  · rintro e w' ⟨v', rfl, hown, hne, hbl⟩
    rcases hown.2 with ⟨h1, _⟩ | ⟨q, cap, cur, rfl, hq, hh, _, _, _, htake⟩
    · exact absurd h1 hne
    · refine ⟨q, cap, rfl, ⟨cur, hh, fun k hk => ?_⟩, hq, hbl⟩
      have h2 : (cur.toList.take (n * 1))[k]? = some (.int .i64 (g k)) := by
        rw [htake, List.take_of_length_le (by omega), List.map_map]
        simp [hk]
      rw [List.getElem?_take, if_pos (by omega)] at h2
      simpa using h2
end

/-- What the walk of flood holds: the boxes of the crashes, the result, the run; the rows of the states, the facts. -/
structure FloI (w0 w : World) (bC b8 br : Nat) (vC vL vF : Value) (rows : List Value) (n nL nF : Nat) (L : Nat → Nat → Int) (F : Nat → Nat) : Prop where
  below : Below w0.heap.size w0 w
  hC : Blk w bC 26 #[vC]
  h8 : Blk w b8 30 #[.slice none 0 0, .slice none 0 0]
  hr : Blk w br 30 #[vL, vF]
  ne : b8 ≠ br
  ge : w0.heap.size ≤ b8 ∧ w0.heap.size ≤ br
  oL : w.ownsRow w0.heap.size 38 1 vL nL rows
  oR : ∀ i, i < nL → ∃ rv, rows[i]? = some rv ∧ w.ownsRow w0.heap.size 3 1 rv n (i64L (L i) n)
  oF : w.ownsRow w0.heap.size 64 1 vF nF (u64L F nF)
section
variable {w0 w w1 : World} {bC b8 br : Nat} {vC vL vF : Value} {rows : List Value} {n nL nF : Nat} {L : Nat → Nat → Int} {F : Nat → Nat}
theorem FloI.keep (h : FloI w0 w bC b8 br vC vL vF rows n nL nF L F) (hb : Below w.heap.size w w1) : FloI w0 w1 bC b8 br vC vL vF rows n nL nF L F :=
  ⟨h.below.trans (hb.mono h.below.size), h.hC.below hb, h.h8.below hb, h.hr.below hb, h.ne, h.ge, own_below h.oL hb (Nat.le_refl _), fun i hi => let ⟨rv, h1, h2⟩ := h.oR i hi; ⟨rv, h1, own_below h2 hb (Nat.le_refl _)⟩, own_below h.oF hb (Nat.le_refl _)⟩
/-- The run gets a row of states. -/
theorem FloI.local (h : FloI w0 w bC b8 br vC vL vF rows n nL nF L F) {vL' rv : Value} {o : Obj} (hrow : w.ownsRow w0.heap.size 3 1 rv n (i64L (L nL) n))
    (hown : w1.ownsRow w0.heap.size 38 1 vL' (nL + 1) (rows ++ [rv])) (hgrow : (w.alloc o).grownBy w1 vL.ownBlock) :
    FloI w0 (w1.setCell ⟨br, 0, none⟩ vL') bC b8 br vC vL' vF (rows ++ [rv]) n (nL + 1) nF L F ∧ Keeps w (w1.setCell ⟨br, 0, none⟩ vL') 3 := by
  have hlt := h.oL.lt
  have hsz : (w.alloc o).heap.size = w.heap.size + 1 := by simp
  have hlen := h.oL.1
  have hr1 := (h.hr.alloc o).kept hgrow (h.hr.ne_row h.oL (by decide))
  have hC1 := (h.hC.alloc o).kept hgrow (h.hC.ne_row h.oL (by decide))
  have h81 := (h.h8.alloc o).kept hgrow (h.h8.ne_row h.oL (by decide))
  refine ⟨⟨((h.below.alloc h.below.size o).grown hgrow (by have := h.below.size; omega) (fun k hk => (hlt k hk).1)).setCell (p := ⟨br, 0, none⟩) h.ge.2 _, hC1.set_ne (hC1.ne hr1 (by decide)) _ _, h81.set_ne h.ne _ _, hr1.set 0 vL',
    h.ne, h.ge, own_set hown hr1 (by decide) _, fun i hi => ?_, own_set ((h.oF.alloc o).kept hgrow (own_ne h.oF h.oL (by decide))) hr1 (by decide) _⟩, ((Keeps.of_below (below_alloc w o) _).trans (Keeps.of_grown hgrow (own_alloc' h.oL o) (by decide))).trans (.of_set hr1 (by decide) _ _)⟩
  rcases Nat.lt_succ_iff_lt_or_eq.1 hi with h1 | rfl
  · obtain ⟨u, hu, hu2⟩ := h.oR i h1
    exact ⟨u, by rw [List.getElem?_append_left (by omega)]; exact hu, own_set ((hu2.alloc o).kept hgrow (own_ne hu2 h.oL (by decide))) hr1 (by decide) _⟩
  · exact ⟨rv, by rw [List.getElem?_append_right (by omega)]; simp [hlen], own_set ((hrow.alloc o).kept hgrow (own_ne hrow h.oL (by decide))) hr1 (by decide) _⟩
/-- The run gets its facts at a time. -/
theorem FloI.facts (h : FloI w0 w bC b8 br vC vL vF rows n nL nF L F) {vF' : Value} {o : Obj} (hown : w1.ownsRow w0.heap.size 64 1 vF' (nF + 1) (u64L F nF ++ [.int .u64 (F nF : Nat)])) (hgrow : (w.alloc o).grownBy w1 vF.ownBlock) :
    FloI w0 (w1.setCell ⟨br, 1, none⟩ vF') bC b8 br vC vL vF' rows n nL (nF + 1) L F ∧ Keeps w (w1.setCell ⟨br, 1, none⟩ vF') 3 := by
  have hlt := h.oF.lt
  have hsz : (w.alloc o).heap.size = w.heap.size + 1 := by simp
  have hr1 := (h.hr.alloc o).kept hgrow (h.hr.ne_row h.oF (by decide))
  have hC1 := (h.hC.alloc o).kept hgrow (h.hC.ne_row h.oF (by decide))
  have h81 := (h.h8.alloc o).kept hgrow (h.h8.ne_row h.oF (by decide))
  rw [← u64L_succ] at hown
  refine ⟨⟨((h.below.alloc h.below.size o).grown hgrow (by have := h.below.size; omega) (fun k hk => (hlt k hk).1)).setCell (p := ⟨br, 1, none⟩) h.ge.2 _, hC1.set_ne (hC1.ne hr1 (by decide)) _ _, h81.set_ne h.ne _ _, hr1.set 1 vF',
    h.ne, h.ge, own_set ((h.oL.alloc o).kept hgrow (own_ne h.oL h.oF (by decide))) hr1 (by decide) _, fun i hi => ?_, own_set hown hr1 (by decide) _⟩, ((Keeps.of_below (below_alloc w o) _).trans (Keeps.of_grown hgrow (own_alloc' h.oF o) (by decide))).trans (.of_set hr1 (by decide) _ _)⟩
  obtain ⟨u, hu, hu2⟩ := h.oR i hi
  exact ⟨u, hu, own_set ((hu2.alloc o).kept hgrow (own_ne hu2 h.oF (by decide))) hr1 (by decide) _⟩
/-- What is left at the end: the result's box is written; the run is owned. -/
theorem FloI.done {k : Nat} (h : FloI w0 w bC b8 br vC vL vF rows n k k L F) (u0 u1 : Value) :
    RunO ((w.setCell ⟨b8, 0, none⟩ u0).setCell ⟨b8, 1, none⟩ u1) w0.heap.size (.agg #[vL, vF]) k (fun _ => n) L k F ∧ Below w0.heap.size w0 ((w.setCell ⟨b8, 0, none⟩ u0).setCell ⟨b8, 1, none⟩ u1) := by
  have h81 := h.h8.set 0 u0
  have hB := (h.below.setCell (p := ⟨b8, 0, none⟩) h.ge.1 u0).setCell (p := ⟨b8, 1, none⟩) h.ge.1 u1
  refine ⟨⟨vL, vF, rows, rfl, own_set (k := 1) (own_set (k := 0) h.oL h.h8 (by decide) u0) h81 (by decide) u1, fun i hi => ?_, own_set (k := 1) (own_set (k := 0) h.oF h.h8 (by decide) u0) h81 (by decide) u1⟩, hB⟩
  obtain ⟨rv, h1, h2⟩ := h.oR i hi
  exact ⟨rv, h1, own_set (k := 1) (own_set (k := 0) h2 h.h8 (by decide) u0) h81 (by decide) u1⟩
end
end Go.Proofs.Ytgnkeecjaffnaaa
