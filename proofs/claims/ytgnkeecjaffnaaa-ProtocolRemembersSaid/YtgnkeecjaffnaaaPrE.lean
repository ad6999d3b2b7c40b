/-
  Plain facts of layer 54: what a run is; what the walk of run holds of the memory.
-/
import Derived.Test.YtgnkeecjaffnaaaProg
import Derived.Test.YtgnkeecjaffnaaaBase
import Derived.Test.YtgnkeecjaffnaaaRow
import Derived.Test.YtgnkeecjaffnaaaRowsOf
import Derived.Test.YtgnkeecjaffnaaaPc
import Derived.Test.YtgnkeecjaffnaaaPd
import Derived.Test.YtgnkeecjaffnaaaPrP
import Derived.Test.YtgnkeecjaffnaaaPrB
namespace Go.Proofs.Ytgnkeecjaffnaaa
open Go.RowKit

/-- Whether a mask loses the message of an agent. -/
def losB (l : Int) (a : Nat) : Bool := bits .and .i64 (l / 2 ^ a) 1 == 1
/-- The states of a run at a time: of a protocol that sends snd, with the masks lost. -/
def runS (snd : Int → Int → Int) (bit : Int) (lost : Nat → Int) : Nat → Int × Int
  | 0 => (stV 0 bit, stV 1 bit)
  | k + 1 => (afV (runS snd bit lost k).1 (if losB (lost k) 1 then 0 else snd 1 (runS snd bit lost k).2), afV (runS snd bit lost k).2 (if losB (lost k) 0 then 0 else snd 0 (runS snd bit lost k).1))
def runL (snd : Int → Int → Int) (bit : Int) (lost : Nat → Int) (k j : Nat) : Int := if j = 0 then (runS snd bit lost k).1 else (runS snd bit lost k).2
/-- Which agents send. -/
def whoV (p q : Int) : Int := (if 0 < p then 1 else 0) + (if 0 < q then 2 else 0)
def runW (snd : Int → Int → Int) (bit : Int) (lost : Nat → Int) (k : Nat) : Int := whoV (snd 0 (runS snd bit lost k).1) (snd 1 (runS snd bit lost k).2)
theorem afV_range (h m : Int) : -1 ≤ afV h m ∧ afV h m ≤ 24579 := by
  unfold afV
  by_cases h1 : 0 ≤ tmV 0 h ∧ tmV 0 h ≤ 4 ∧ 0 ≤ m ∧ m ≤ 3
  · rw [if_pos h1]
    have := tmV_hist h1.1 h1.2.1
    omega
  · rw [if_neg h1]; omega
theorem stV_range (a b : Int) : -1 ≤ stV a b ∧ stV a b ≤ 24579 := by
  unfold stV
  by_cases h1 : 0 ≤ a ∧ a ≤ 1 ∧ 0 ≤ b ∧ b ≤ 1
  · rw [if_pos h1]
    by_cases h2 : a = 1
    · rw [if_pos h2]; omega
    · rw [if_neg h2]; omega
  · rw [if_neg h1]; omega
theorem runS_range (snd : Int → Int → Int) (bit : Int) (lost : Nat → Int) (k : Nat) : (-1 ≤ (runS snd bit lost k).1 ∧ (runS snd bit lost k).1 ≤ 24579) ∧ (-1 ≤ (runS snd bit lost k).2 ∧ (runS snd bit lost k).2 ≤ 24579) := by
  cases k with
  | zero => exact ⟨stV_range _ _, stV_range _ _⟩
  | succ k => exact ⟨afV_range _ _, afV_range _ _⟩
theorem runL_range (snd : Int → Int → Int) (bit : Int) (lost : Nat → Int) (k j : Nat) : -9223372036854775808 ≤ runL snd bit lost k j ∧ runL snd bit lost k j ≤ 9223372036854775807 := by
  have h := runS_range snd bit lost k
  unfold runL
  by_cases hj : j = 0
  · rw [if_pos hj]; omega
  · rw [if_neg hj]; omega
theorem runW_range (snd : Int → Int → Int) (bit : Int) (lost : Nat → Int) (k : Nat) : 0 ≤ runW snd bit lost k ∧ runW snd bit lost k ≤ 3 := by
  unfold runW whoV
  by_cases h1 : 0 < snd 0 (runS snd bit lost k).1 <;> by_cases h2 : 0 < snd 1 (runS snd bit lost k).2 <;> simp only [if_pos, if_neg, h1, h2, not_false_eq_true] <;> omega

/-- What the walk of run holds: the boxes of the protocol, the result, the state, the run; the rows of the states, the facts, the senders. -/
structure RunI (w0 w : World) (bE b6 bs br : Nat) (e0 e1 : Value) (x y : Int) (vL vF vS : Value) (rows : List Value) (nL nF nS : Nat) (L : Nat → Nat → Int) (F : Nat → Nat) (S : Nat → Int) : Prop where
  below : Below w0.heap.size w0 w
  hE : Blk w bE 41 #[e0, e1]
  h6 : Blk w b6 30 #[.slice none 0 0, .slice none 0 0]
  hs : Blk w bs 25 #[.int .i64 x, .int .i64 y]
  hr : Blk w br 30 #[vL, vF]
  ne : b6 ≠ br
  ge : w0.heap.size ≤ bE ∧ w0.heap.size ≤ b6 ∧ w0.heap.size ≤ bs ∧ w0.heap.size ≤ br
  oL : w.ownsRow w0.heap.size 38 1 vL nL rows
  oR : ∀ i, i < nL → ∃ rv, rows[i]? = some rv ∧ w.ownsRow w0.heap.size 3 1 rv 2 [.int .i64 (L i 0), .int .i64 (L i 1)] ∧ (rv.ownBlock = none ∨ rv.ownBlock ≠ vS.ownBlock)
  oF : w.ownsRow w0.heap.size 64 1 vF nF (u64L F nF)
  oS : w.ownsRow w0.heap.size 3 1 vS nS (i64L S nS)
section
variable {w0 w w1 : World} {bE b6 bs br : Nat} {e0 e1 : Value} {x y : Int} {vL vF vS : Value} {rows : List Value} {nL nF nS : Nat} {L : Nat → Nat → Int} {F : Nat → Nat} {S : Nat → Int}
theorem own_keep {base e n : Nat} {v : Value} {xs : List Value} (h : w.ownsRow base e 1 v n xs) (hb : Below w.heap.size w w1) : w1.ownsRow base e 1 v n xs := own_below h hb (Nat.le_refl _)
theorem RunI.keep (h : RunI w0 w bE b6 bs br e0 e1 x y vL vF vS rows nL nF nS L F S) (hb : Below w.heap.size w w1) : RunI w0 w1 bE b6 bs br e0 e1 x y vL vF vS rows nL nF nS L F S :=
  ⟨h.below.trans (hb.mono h.below.size), h.hE.below hb, h.h6.below hb, h.hs.below hb, h.hr.below hb, h.ne, h.ge, own_keep h.oL hb, fun i hi => let ⟨rv, h1, h2, h3⟩ := h.oR i hi; ⟨rv, h1, own_keep h2 hb, h3⟩, own_keep h.oF hb, own_keep h.oS hb⟩
/-- A cell of a box of two ints is written: the state. -/
theorem RunI.put (h : RunI w0 w bE b6 bs br e0 e1 x y vL vF vS rows nL nF nS L F S) (k : Nat) (v : Value) (x' y' : Int) (hk : (#[.int .i64 x, .int .i64 y] : Array Value).setIfInBounds k v = #[.int .i64 x', .int .i64 y']) :
    RunI w0 (w.setCell ⟨bs, k, none⟩ v) bE b6 bs br e0 e1 x' y' vL vF vS rows nL nF nS L F S :=
  ⟨h.below.setCell (p := ⟨bs, k, none⟩) h.ge.2.2.1 _, h.hE.set_ne (h.hE.ne h.hs (by decide)) _ _, h.h6.set_ne (h.h6.ne h.hs (by decide)) _ _, by have := h.hs.set k v; rw [hk] at this; exact this,
    h.hr.set_ne (h.hr.ne h.hs (by decide)) _ _, h.ne, h.ge, own_set h.oL h.hs (by decide) _, fun i hi => let ⟨rv, h1, h2, h3⟩ := h.oR i hi; ⟨rv, h1, own_set h2 h.hs (by decide) _, h3⟩, own_set h.oF h.hs (by decide) _, own_set h.oS h.hs (by decide) _⟩
/-- A cell of another box of two ints is written. -/
theorem RunI.put_next (h : RunI w0 w bE b6 bs br e0 e1 x y vL vF vS rows nL nF nS L F S) {bn : Nat} {xs : Array Value} (hn : Blk w bn 25 xs) (hne : bs ≠ bn) (hge : w0.heap.size ≤ bn) (k : Nat) (v : Value) :
    RunI w0 (w.setCell ⟨bn, k, none⟩ v) bE b6 bs br e0 e1 x y vL vF vS rows nL nF nS L F S :=
  ⟨h.below.setCell (p := ⟨bn, k, none⟩) hge _, h.hE.set_ne (h.hE.ne hn (by decide)) _ _, h.h6.set_ne (h.h6.ne hn (by decide)) _ _, h.hs.set_ne hne _ _,
    h.hr.set_ne (h.hr.ne hn (by decide)) _ _, h.ne, h.ge, own_set h.oL hn (by decide) _, fun i hi => let ⟨rv, h1, h2, h3⟩ := h.oR i hi; ⟨rv, h1, own_set h2 hn (by decide) _, h3⟩, own_set h.oF hn (by decide) _, own_set h.oS hn (by decide) _⟩
/-- The senders grow. -/
theorem RunI.senders (h : RunI w0 w bE b6 bs br e0 e1 x y vL vF vS rows nL nF nS L F S) {vS' : Value} {o : Obj} (hown : w1.ownsRow w0.heap.size 3 1 vS' (nS + 1) (i64L S nS ++ [.int .i64 (S nS)])) (hgrow : (w.alloc o).grownBy w1 vS.ownBlock)
    (hat : vS'.ownBlock = vS.ownBlock ∨ vS'.ownBlock = some (w.alloc o).heap.size) : RunI w0 w1 bE b6 bs br e0 e1 x y vL vF vS' rows nL nF (nS + 1) L F S := by
  have hlt := h.oS.lt
  have hsz : (w.alloc o).heap.size = w.heap.size + 1 := by simp
  refine ⟨(h.below.alloc h.below.size o).grown hgrow (by have := h.below.size; omega) (fun k hk => (hlt k hk).1), (h.hE.alloc o).kept hgrow (h.hE.ne_row h.oS (by decide)), (h.h6.alloc o).kept hgrow (h.h6.ne_row h.oS (by decide)),
    (h.hs.alloc o).kept hgrow (h.hs.ne_row h.oS (by decide)), (h.hr.alloc o).kept hgrow (h.hr.ne_row h.oS (by decide)), h.ne, h.ge, (h.oL.alloc o).kept hgrow (own_ne h.oL h.oS (by decide)), fun i hi => ?_, (h.oF.alloc o).kept hgrow (own_ne h.oF h.oS (by decide)), by rw [i64L_succ]; exact hown⟩
  obtain ⟨rv, h1, h2, h3⟩ := h.oR i hi
  refine ⟨rv, h1, (h2.alloc o).kept hgrow h3, ?_⟩
  rcases h3 with h3 | h3
  · exact .inl h3
  · rcases hat with ha | ha
    · exact .inr (by rw [ha]; exact h3)
    · refine .inr fun e => ?_
      rw [ha] at e
      have := (h2.lt _ e).2
      omega
/-- The run gets a row of states. -/
theorem RunI.local (h : RunI w0 w bE b6 bs br e0 e1 x y vL vF vS rows nL nF nS L F S) {vL' rv : Value} {o : Obj} (hrow : w.ownsRow w0.heap.size 3 1 rv 2 [.int .i64 (L nL 0), .int .i64 (L nL 1)]) (hrv : rv.ownBlock = none ∨ rv.ownBlock ≠ vS.ownBlock)
    (hown : w1.ownsRow w0.heap.size 38 1 vL' (nL + 1) (rows ++ [rv])) (hgrow : (w.alloc o).grownBy w1 vL.ownBlock) :
    RunI w0 (w1.setCell ⟨br, 0, none⟩ vL') bE b6 bs br e0 e1 x y vL' vF vS (rows ++ [rv]) (nL + 1) nF nS L F S := by
  have hlt := h.oL.lt
  have hsz : (w.alloc o).heap.size = w.heap.size + 1 := by simp
  have hlen := h.oL.1
  have hr1 := (h.hr.alloc o).kept hgrow (h.hr.ne_row h.oL (by decide))
  have hE1 := (h.hE.alloc o).kept hgrow (h.hE.ne_row h.oL (by decide))
  have h61 := (h.h6.alloc o).kept hgrow (h.h6.ne_row h.oL (by decide))
  have hs1 := (h.hs.alloc o).kept hgrow (h.hs.ne_row h.oL (by decide))
  refine ⟨((h.below.alloc h.below.size o).grown hgrow (by have := h.below.size; omega) (fun k hk => (hlt k hk).1)).setCell (p := ⟨br, 0, none⟩) h.ge.2.2.2 _, hE1.set_ne (hE1.ne hr1 (by decide)) _ _, h61.set_ne h.ne _ _, hs1.set_ne (hs1.ne hr1 (by decide)) _ _, hr1.set 0 vL',
    h.ne, h.ge, own_set hown hr1 (by decide) _, fun i hi => ?_, own_set ((h.oF.alloc o).kept hgrow (own_ne h.oF h.oL (by decide))) hr1 (by decide) _, own_set ((h.oS.alloc o).kept hgrow (own_ne h.oS h.oL (by decide))) hr1 (by decide) _⟩
  rcases Nat.lt_succ_iff_lt_or_eq.1 hi with h1 | rfl
  · obtain ⟨u, hu, hu2, hu3⟩ := h.oR i h1
    exact ⟨u, by rw [List.getElem?_append_left (by omega)]; exact hu, own_set ((hu2.alloc o).kept hgrow (own_ne hu2 h.oL (by decide))) hr1 (by decide) _, hu3⟩
  · exact ⟨rv, by rw [List.getElem?_append_right (by omega)]; simp [hlen], own_set ((hrow.alloc o).kept hgrow (own_ne hrow h.oL (by decide))) hr1 (by decide) _, hrv⟩
/-- The run gets its facts at a time. -/
theorem RunI.facts (h : RunI w0 w bE b6 bs br e0 e1 x y vL vF vS rows nL nF nS L F S) {vF' : Value} {o : Obj} (hown : w1.ownsRow w0.heap.size 64 1 vF' (nF + 1) (u64L F nF ++ [.int .u64 (F nF : Nat)])) (hgrow : (w.alloc o).grownBy w1 vF.ownBlock) :
    RunI w0 (w1.setCell ⟨br, 1, none⟩ vF') bE b6 bs br e0 e1 x y vL vF' vS rows nL (nF + 1) nS L F S := by
  have hlt := h.oF.lt
  have hsz : (w.alloc o).heap.size = w.heap.size + 1 := by simp
  have hr1 := (h.hr.alloc o).kept hgrow (h.hr.ne_row h.oF (by decide))
  have hE1 := (h.hE.alloc o).kept hgrow (h.hE.ne_row h.oF (by decide))
  have h61 := (h.h6.alloc o).kept hgrow (h.h6.ne_row h.oF (by decide))
  have hs1 := (h.hs.alloc o).kept hgrow (h.hs.ne_row h.oF (by decide))
  rw [← u64L_succ] at hown
  refine ⟨((h.below.alloc h.below.size o).grown hgrow (by have := h.below.size; omega) (fun k hk => (hlt k hk).1)).setCell (p := ⟨br, 1, none⟩) h.ge.2.2.2 _, hE1.set_ne (hE1.ne hr1 (by decide)) _ _, h61.set_ne h.ne _ _, hs1.set_ne (hs1.ne hr1 (by decide)) _ _, hr1.set 1 vF',
    h.ne, h.ge, own_set ((h.oL.alloc o).kept hgrow (own_ne h.oL h.oF (by decide))) hr1 (by decide) _, fun i hi => ?_, own_set hown hr1 (by decide) _, own_set ((h.oS.alloc o).kept hgrow (own_ne h.oS h.oF (by decide))) hr1 (by decide) _⟩
  obtain ⟨u, hu, hu2, hu3⟩ := h.oR i hi
  exact ⟨u, hu, own_set ((hu2.alloc o).kept hgrow (own_ne hu2 h.oF (by decide))) hr1 (by decide) _, hu3⟩
/-- What is left at the end: the result's box is written; the run is owned. -/
theorem RunI.done {k : Nat} (h : RunI w0 w bE b6 bs br e0 e1 x y vL vF vS rows (k + 1) (k + 1) k L F S) (u0 u1 : Value) :
    RunO ((w.setCell ⟨b6, 0, none⟩ u0).setCell ⟨b6, 1, none⟩ u1) w0.heap.size (.agg #[vL, vF]) (k + 1) (fun _ => 2) L (k + 1) F ∧ ((w.setCell ⟨b6, 0, none⟩ u0).setCell ⟨b6, 1, none⟩ u1).ownsRow w0.heap.size 3 1 vS k (i64L S k) ∧ Below w0.heap.size w0 ((w.setCell ⟨b6, 0, none⟩ u0).setCell ⟨b6, 1, none⟩ u1) := by
  have h61 := h.h6.set 0 u0
  have hB := (h.below.setCell (p := ⟨b6, 0, none⟩) h.ge.2.1 u0).setCell (p := ⟨b6, 1, none⟩) h.ge.2.1 u1
  refine ⟨⟨vL, vF, rows, rfl, own_set (k := 1) (own_set (k := 0) h.oL h.h6 (by decide) u0) h61 (by decide) u1, fun i hi => ?_, own_set (k := 1) (own_set (k := 0) h.oF h.h6 (by decide) u0) h61 (by decide) u1⟩, own_set (k := 1) (own_set (k := 0) h.oS h.h6 (by decide) u0) h61 (by decide) u1, hB⟩
  obtain ⟨rv, h1, h2, -⟩ := h.oR i hi
  exact ⟨rv, h1, own_set (k := 1) (own_set (k := 0) h2 h.h6 (by decide) u0) h61 (by decide) u1⟩
end
/-- What the loop over the two agents leaves: the senders so far, the next states. -/
def whoA (p q : Int) (a : Nat) : Int := if a = 0 then 0 else if a = 1 then (if 0 < p then 1 else 0) else whoV p q
def nxtA (x y x' y' : Int) (a : Nat) : Array Value := #[.int .i64 (if a ≤ 1 then x else x'), .int .i64 (if a = 0 then y else y')]
/-- The same, of the rounds' end. -/
def RunK (w0 w : World) (bE b6 bs br : Nat) (e0 e1 : Value) (snd : Int → Int → Int) (bit : Int) (lost : Nat → Int) (k : Nat) (vS : Value) : Prop :=
  ∃ vL vF rows, RunI w0 w bE b6 bs br e0 e1 (runS snd bit lost k).1 (runS snd bit lost k).2 vL vF vS rows (k + 1) (k + 1) k (runL snd bit lost) (fun _ => bit.toNat) (runW snd bit lost)
/-- What run returns. -/
def RunPost (w : World) (T : Nat) (L : Nat → Nat → Int) (b : Nat) (S : Nat → Int) (e : Ending) (w' : World) : Prop :=
  ∃ v A c, e = .returned (.tuple #[v, .slice A T c]) ∧ RunO w' w.heap.size v (T + 1) (fun _ => 2) L (T + 1) (fun _ => b) ∧ w'.ownsRow w.heap.size 3 1 (.slice A T c) T (i64L S T) ∧ Below w.heap.size w w'
end Go.Proofs.Ytgnkeecjaffnaaa
