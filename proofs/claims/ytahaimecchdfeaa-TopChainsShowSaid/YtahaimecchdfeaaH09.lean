/-
  Texts of this claim, one after the other: what each proves is said at its head. No condition beyond those that its theorems name.
-/
import Derived.Test.YtahaimecchdfeaaProg
import Derived.Deep.RegionHeld3
import Derived.Deep.DeepCutAuto
import Derived.Test.YtahaimecchdfeaaH01
import Derived.Test.YtahaimecchdfeaaH02
import Derived.Test.YtahaimecchdfeaaH03
import Derived.Test.YtahaimecchdfeaaH05
import Derived.Test.YtahaimecchdfeaaH06
import Derived.Test.YtahaimecchdfeaaH07

/-
  Plain lemmas: parameters that are slices of numbers, and slices of these, opened.
-/
namespace Go.Proofs.Ytahaimecchdfeaa
open Go.ChangeShapes Go.WideShapes Go.ChangeAt Go.RowKit Go.Deep Go.Joins

section
variable {H : Type} {enc : TypeId × Value → H} {P : Program} {w : World} {base : Nat} {spare : Nat → Bool} {held : Bool}
theorem open_i64s {t e : TypeId} {fuel : Nat} {cs : List Value} {x : DataW H × List MemPlace} (ht : P.underlying t = some (.slice e)) (he : P.underlying e = some (.int .i64)) (hc : P.cellsOf e = 1)
    (h : DataW.trod enc P w base spare held fuel t cs = some x) : ∃ A n c f, cs = [.slice A n c] ∧ n ≤ 9223372036854775807 ∧ I64s w A n f := by
  rcases open_ints ht he hc h with ⟨rfl, _⟩ | ⟨a, len, cap, zs, rfl, _, hl, hm, hz, _, hcell, hwf⟩
  · exact ⟨none, 0, 0, fun _ => 0, rfl, by omega, fun k hk => absurd hk (Nat.not_lt_zero _)⟩
  · have hlz : len ≤ zs.length := by rw [hz]; split <;> omega
    refine ⟨some a, len, cap, fun i => zs.getD i 0, rfl, Nat.le_trans hl (maxLen_val hm), fun k hk => ?_⟩
    have h1 := hcell k (by omega)
    have hsp := World.cell?_spot (hcell 0 (by omega))
    obtain ⟨b, off, sp⟩ := a
    have hsp' : sp = none := by simpa [Addr.add] using hsp
    subst hsp'
    rw [add_at] at h1
    have hmem : zs.getD k 0 ∈ zs := by
      rw [List.getD_eq_getElem?_getD, List.getElem?_eq_getElem (by omega)]; exact List.getElem_mem _
    obtain ⟨h2, h3⟩ := i64_of_wf (hwf _ hmem)
    exact ⟨b, off, rfl, h1, h2, h3⟩
theorem open_u64sV {r : Reach} {b0 : Nat} {t e : TypeId} {v : Value} {d : DataW H} {p : List MemPlace} (ht : P.underlying t = some (.slice e)) (he : P.underlying e = some (.int .u64)) (hc : P.cellsOf e = 1)
    (hv : Value.okWide P w r b0 t v) (h : DataW.Trod enc P w base spare held t v d p) : ∃ A n c f, v = .slice A n c ∧ n ≤ 9223372036854775807 ∧ U64s w A n f := by
  obtain ⟨a, len, cap, rfl⟩ := okWide_slice ht hv
  obtain ⟨fuel, hf⟩ := h
  obtain ⟨A, n, c, f, hcs, hn, hr⟩ := open_u64s ht he hc hf
  simp [Value.cells] at hcs
  obtain ⟨rfl, rfl, rfl⟩ := hcs
  exact ⟨_, _, _, f, rfl, hn, hr⟩
theorem open_i64sV {r : Reach} {b0 : Nat} {t e : TypeId} {v : Value} {d : DataW H} {p : List MemPlace} (ht : P.underlying t = some (.slice e)) (he : P.underlying e = some (.int .i64)) (hc : P.cellsOf e = 1)
    (hv : Value.okWide P w r b0 t v) (h : DataW.Trod enc P w base spare held t v d p) : ∃ A n c f, v = .slice A n c ∧ n ≤ 9223372036854775807 ∧ I64s w A n f := by
  obtain ⟨a, len, cap, rfl⟩ := okWide_slice ht hv
  obtain ⟨fuel, hf⟩ := h
  obtain ⟨A, n, c, f, hcs, hn, hr⟩ := open_i64s ht he hc hf
  simp [Value.cells] at hcs
  obtain ⟨rfl, rfl, rfl⟩ := hcs
  exact ⟨_, _, _, f, rfl, hn, hr⟩
theorem open_matV {r : Reach} {b0 : Nat} {t e u : TypeId} {v : Value} {d : DataW H} {p : List MemPlace} (ht : P.underlying t = some (.slice e)) (he : P.underlying e = some (.slice u)) (hu : P.underlying u = some (.int .u64)) (hc : P.cellsOf e = 1) (hcu : P.cellsOf u = 1)
    (hv : Value.okWide P w r b0 t v) (h : DataW.Trod enc P w base spare held t v d p) : ∃ A n c R m cc F, v = .slice A n c ∧ n ≤ 9223372036854775807 ∧ Mat w A n R m cc F := by
  obtain ⟨a, len, cap, rfl⟩ := okWide_slice ht hv
  obtain ⟨fuel, hf⟩ := h
  obtain ⟨A, n, c, R, m, cc, F, hcs, hn, hr⟩ := open_mat ht he hu hc hcu hf
  simp [Value.cells] at hcs
  obtain ⟨rfl, rfl, rfl⟩ := hcs
  exact ⟨_, _, _, R, m, cc, F, rfl, hn, hr⟩
end
end Go.Proofs.Ytahaimecchdfeaa

/-
  Walks of layer 54: who has crashed; clean rounds, of program and reference.
-/
namespace Go.Proofs.Ytahaimecchdfeaa
open Go.RowKit

/-- A slice of structs of two ints, read. -/
def CrS (w : World) (A : Option Addr) (n : Nat) (rd tv : Nat → Int) : Prop :=
  ∀ k, k < n → ∃ b off, A = some ⟨b, off, none⟩ ∧ w.cell? ⟨b, off + k * 2, none⟩ = some (.int .i64 (rd k)) ∧ w.cell? ⟨b, off + k * 2 + 1, none⟩ = some (.int .i64 (tv k))
    ∧ (-9223372036854775808 ≤ rd k ∧ rd k ≤ 9223372036854775807) ∧ (-9223372036854775808 ≤ tv k ∧ tv k ≤ 9223372036854775807)
theorem CrS.below {w w' : World} {A : Option Addr} {n : Nat} {rd tv : Nat → Int} (h : CrS w A n rd tv) (hb : Below w.heap.size w w') : CrS w' A n rd tv := fun k hk =>
  let ⟨b, off, e, h1, h2, h4⟩ := h k hk; ⟨b, off, e, cell_below hb h1, cell_below hb h2, h4⟩
def idxC (n t : Nat) (rd : Nat → Int) : Int := if firstNo n (fun v => rd v != (t : Int)) < n then (firstNo n (fun v => rd v != (t : Int)) : Nat) else -1
theorem idxC_hit {n t v : Nat} {rd : Nat → Int} (hv : v < n) (h : ∀ i, i < v → rd i ≠ (t : Int)) (hb : rd v = (t : Int)) : idxC n t rd = (v : Int) := by
  have e := firstNo_hit (p := fun v => rd v != (t : Int)) hv (fun i hi => bne_iff_ne.2 (h i hi)) (by rw [hb]; simp)
  unfold idxC; rw [e, if_pos hv]
theorem idxC_none {n t : Nat} {rd : Nat → Int} (h : ∀ i, i < n → rd i ≠ (t : Int)) : idxC n t rd = -1 := by
  have e := firstNo_all (p := fun v => rd v != (t : Int)) (n := n) (fun i hi => bne_iff_ne.2 (h i hi))
  unfold idxC; rw [e, if_neg (Nat.lt_irrefl _)]
end Go.Proofs.Ytahaimecchdfeaa

/-
  Plain facts of layer 54: what a run is; what the walk of run holds of the memory.
-/
namespace Go.Proofs.Ytahaimecchdfeaa
open Go.RowKit

/-- Whether a mask loses the message of an agent. -/
def losB (l : Int) (a : Nat) : Bool := bits .and .i64 (l / 2 ^ a) 1 == 1
/-- The states of a run at a time: of a protocol that sends snd, with the masks lost. -/
def runS (snd : Int → Int → Int) (bit : Int) (lost : Nat → Int) : Nat → Int × Int
  | 0 => (stV 0 bit, stV 1 bit)
  | k + 1 => (afV (runS snd bit lost k).1 (if losB (lost k) 1 then 0 else snd 1 (runS snd bit lost k).2), afV (runS snd bit lost k).2 (if losB (lost k) 0 then 0 else snd 0 (runS snd bit lost k).1))
def runL (snd : Int → Int → Int) (bit : Int) (lost : Nat → Int) (k j : Nat) : Int := if j = 0 then (runS snd bit lost k).1 else (runS snd bit lost k).2
/-- Which agents send. -/
def whoV (p q : Int) : Int := (if 0 < p then 1 else 0) + (if 0 < q then 2 else 0)
def runW (snd : Int → Int → Int) (bit : Int) (lost : Nat → Int) (k : Nat) : Int := whoV (snd 0 (runS snd bit lost k).1) (snd 1 (runS snd bit lost k).2)
theorem afV_range (h m : Int) : -1 ≤ afV h m ∧ afV h m ≤ 24579 := by
  unfold afV
  by_cases h1 : 0 ≤ tmV 0 h ∧ tmV 0 h ≤ 4 ∧ 0 ≤ m ∧ m ≤ 3
  · rw [if_pos h1]
    have := tmV_hist h1.1 h1.2.1
    omega
  · rw [if_neg h1]; omega
theorem stV_range (a b : Int) : -1 ≤ stV a b ∧ stV a b ≤ 24579 := by
  unfold stV
  by_cases h1 : 0 ≤ a ∧ a ≤ 1 ∧ 0 ≤ b ∧ b ≤ 1
  · rw [if_pos h1]
    by_cases h2 : a = 1
    · rw [if_pos h2]; omega
    · rw [if_neg h2]; omega
  · rw [if_neg h1]; omega
theorem runS_range (snd : Int → Int → Int) (bit : Int) (lost : Nat → Int) (k : Nat) : (-1 ≤ (runS snd bit lost k).1 ∧ (runS snd bit lost k).1 ≤ 24579) ∧ (-1 ≤ (runS snd bit lost k).2 ∧ (runS snd bit lost k).2 ≤ 24579) := by
  cases k with
  | zero => exact ⟨stV_range _ _, stV_range _ _⟩
  | succ k => exact ⟨afV_range _ _, afV_range _ _⟩
theorem runL_range (snd : Int → Int → Int) (bit : Int) (lost : Nat → Int) (k j : Nat) : -9223372036854775808 ≤ runL snd bit lost k j ∧ runL snd bit lost k j ≤ 9223372036854775807 := by
  have h := runS_range snd bit lost k
  unfold runL
  by_cases hj : j = 0
  · rw [if_pos hj]; omega
  · rw [if_neg hj]; omega
theorem runW_range (snd : Int → Int → Int) (bit : Int) (lost : Nat → Int) (k : Nat) : 0 ≤ runW snd bit lost k ∧ runW snd bit lost k ≤ 3 := by
  unfold runW whoV
  by_cases h1 : 0 < snd 0 (runS snd bit lost k).1 <;> by_cases h2 : 0 < snd 1 (runS snd bit lost k).2 <;> simp only [if_pos, if_neg, h1, h2, not_false_eq_true] <;> omega

/-- What the walk of run holds: the boxes of the protocol, the result, the state, the run; the rows of the states, the facts, the senders. -/
structure RunI (w0 w : World) (bE b6 bs br : Nat) (e0 e1 : Value) (x y : Int) (vL vF vS : Value) (rows : List Value) (nL nF nS : Nat) (L : Nat → Nat → Int) (F : Nat → Nat) (S : Nat → Int) : Prop where
  below : Below w0.heap.size w0 w
  hE : Blk w bE 43 #[e0, e1]
  h6 : Blk w b6 69 #[.slice none 0 0, .slice none 0 0]
  hs : Blk w bs 38 #[.int .i64 x, .int .i64 y]
  hr : Blk w br 69 #[vL, vF]
  ne : b6 ≠ br
  ge : w0.heap.size ≤ bE ∧ w0.heap.size ≤ b6 ∧ w0.heap.size ≤ bs ∧ w0.heap.size ≤ br
  oL : w.ownsRow w0.heap.size 75 1 vL nL rows
  oR : ∀ i, i < nL → ∃ rv, rows[i]? = some rv ∧ w.ownsRow w0.heap.size 3 1 rv 2 [.int .i64 (L i 0), .int .i64 (L i 1)] ∧ (rv.ownBlock = none ∨ rv.ownBlock ≠ vS.ownBlock)
  oF : w.ownsRow w0.heap.size 121 1 vF nF (u64L F nF)
  oS : w.ownsRow w0.heap.size 3 1 vS nS (i64L S nS)
section
variable {w0 w w1 : World} {bE b6 bs br : Nat} {e0 e1 : Value} {x y : Int} {vL vF vS : Value} {rows : List Value} {nL nF nS : Nat} {L : Nat → Nat → Int} {F : Nat → Nat} {S : Nat → Int}
theorem own_keep {base e n : Nat} {v : Value} {xs : List Value} (h : w.ownsRow base e 1 v n xs) (hb : Below w.heap.size w w1) : w1.ownsRow base e 1 v n xs := own_below h hb (Nat.le_refl _)
theorem RunI.keep (h : RunI w0 w bE b6 bs br e0 e1 x y vL vF vS rows nL nF nS L F S) (hb : Below w.heap.size w w1) : RunI w0 w1 bE b6 bs br e0 e1 x y vL vF vS rows nL nF nS L F S :=
  ⟨h.below.trans (hb.mono h.below.size), h.hE.below hb, h.h6.below hb, h.hs.below hb, h.hr.below hb, h.ne, h.ge, own_keep h.oL hb, fun i hi => let ⟨rv, h1, h2, h3⟩ := h.oR i hi; ⟨rv, h1, own_keep h2 hb, h3⟩, own_keep h.oF hb, own_keep h.oS hb⟩
/-- A cell of a box of two ints is written: the state. -/
theorem RunI.put (h : RunI w0 w bE b6 bs br e0 e1 x y vL vF vS rows nL nF nS L F S) (k : Nat) (v : Value) (x' y' : Int) (hk : (#[.int .i64 x, .int .i64 y] : Array Value).setIfInBounds k v = #[.int .i64 x', .int .i64 y']) :
    RunI w0 (w.setCell ⟨bs, k, none⟩ v) bE b6 bs br e0 e1 x' y' vL vF vS rows nL nF nS L F S :=
  ⟨h.below.setCell (p := ⟨bs, k, none⟩) h.ge.2.2.1 _, h.hE.set_ne (h.hE.ne h.hs (by decide)) _ _, h.h6.set_ne (h.h6.ne h.hs (by decide)) _ _, by have := h.hs.set k v; rw [hk] at this; exact this,
    h.hr.set_ne (h.hr.ne h.hs (by decide)) _ _, h.ne, h.ge, own_set h.oL h.hs (by decide) _, fun i hi => let ⟨rv, h1, h2, h3⟩ := h.oR i hi; ⟨rv, h1, own_set h2 h.hs (by decide) _, h3⟩, own_set h.oF h.hs (by decide) _, own_set h.oS h.hs (by decide) _⟩
/-- A cell of another box of two ints is written. -/
theorem RunI.put_next (h : RunI w0 w bE b6 bs br e0 e1 x y vL vF vS rows nL nF nS L F S) {bn : Nat} {xs : Array Value} (hn : Blk w bn 38 xs) (hne : bs ≠ bn) (hge : w0.heap.size ≤ bn) (k : Nat) (v : Value) :
    RunI w0 (w.setCell ⟨bn, k, none⟩ v) bE b6 bs br e0 e1 x y vL vF vS rows nL nF nS L F S :=
  ⟨h.below.setCell (p := ⟨bn, k, none⟩) hge _, h.hE.set_ne (h.hE.ne hn (by decide)) _ _, h.h6.set_ne (h.h6.ne hn (by decide)) _ _, h.hs.set_ne hne _ _,
    h.hr.set_ne (h.hr.ne hn (by decide)) _ _, h.ne, h.ge, own_set h.oL hn (by decide) _, fun i hi => let ⟨rv, h1, h2, h3⟩ := h.oR i hi; ⟨rv, h1, own_set h2 hn (by decide) _, h3⟩, own_set h.oF hn (by decide) _, own_set h.oS hn (by decide) _⟩
/-- The senders grow. -/
theorem RunI.senders (h : RunI w0 w bE b6 bs br e0 e1 x y vL vF vS rows nL nF nS L F S) {vS' : Value} {o : Obj} (hown : w1.ownsRow w0.heap.size 3 1 vS' (nS + 1) (i64L S nS ++ [.int .i64 (S nS)])) (hgrow : (w.alloc o).grownBy w1 vS.ownBlock)
    (hat : vS'.ownBlock = vS.ownBlock ∨ vS'.ownBlock = some (w.alloc o).heap.size) : RunI w0 w1 bE b6 bs br e0 e1 x y vL vF vS' rows nL nF (nS + 1) L F S := by
  have hlt := h.oS.lt
  have hsz : (w.alloc o).heap.size = w.heap.size + 1 := by simp
  refine ⟨(h.below.alloc h.below.size o).grown hgrow (by have := h.below.size; omega) (fun k hk => (hlt k hk).1), (h.hE.alloc o).kept hgrow (h.hE.ne_row h.oS (by decide)), (h.h6.alloc o).kept hgrow (h.h6.ne_row h.oS (by decide)),
    (h.hs.alloc o).kept hgrow (h.hs.ne_row h.oS (by decide)), (h.hr.alloc o).kept hgrow (h.hr.ne_row h.oS (by decide)), h.ne, h.ge, (h.oL.alloc o).kept hgrow (own_ne h.oL h.oS (by decide)), fun i hi => ?_, (h.oF.alloc o).kept hgrow (own_ne h.oF h.oS (by decide)), by rw [i64L_succ]; exact hown⟩
  obtain ⟨rv, h1, h2, h3⟩ := h.oR i hi
  refine ⟨rv, h1, (h2.alloc o).kept hgrow h3, ?_⟩
  rcases h3 with h3 | h3
  · exact .inl h3
  · rcases hat with ha | ha
    · exact .inr (by rw [ha]; exact h3)
    · refine .inr fun e => ?_
      rw [ha] at e
      have := (h2.lt _ e).2
      omega
/-- The run gets a row of states. -/
theorem RunI.local (h : RunI w0 w bE b6 bs br e0 e1 x y vL vF vS rows nL nF nS L F S) {vL' rv : Value} {o : Obj} (hrow : w.ownsRow w0.heap.size 3 1 rv 2 [.int .i64 (L nL 0), .int .i64 (L nL 1)]) (hrv : rv.ownBlock = none ∨ rv.ownBlock ≠ vS.ownBlock)
    (hown : w1.ownsRow w0.heap.size 75 1 vL' (nL + 1) (rows ++ [rv])) (hgrow : (w.alloc o).grownBy w1 vL.ownBlock) :
    RunI w0 (w1.setCell ⟨br, 0, none⟩ vL') bE b6 bs br e0 e1 x y vL' vF vS (rows ++ [rv]) (nL + 1) nF nS L F S := by
  have hlt := h.oL.lt
  have hsz : (w.alloc o).heap.size = w.heap.size + 1 := by simp
  have hlen := h.oL.1
  have hr1 := (h.hr.alloc o).kept hgrow (h.hr.ne_row h.oL (by decide))
  have hE1 := (h.hE.alloc o).kept hgrow (h.hE.ne_row h.oL (by decide))
  have h61 := (h.h6.alloc o).kept hgrow (h.h6.ne_row h.oL (by decide))
  have hs1 := (h.hs.alloc o).kept hgrow (h.hs.ne_row h.oL (by decide))
  refine ⟨((h.below.alloc h.below.size o).grown hgrow (by have := h.below.size; omega) (fun k hk => (hlt k hk).1)).setCell (p := ⟨br, 0, none⟩) h.ge.2.2.2 _, hE1.set_ne (hE1.ne hr1 (by decide)) _ _, h61.set_ne h.ne _ _, hs1.set_ne (hs1.ne hr1 (by decide)) _ _, hr1.set 0 vL',
    h.ne, h.ge, own_set hown hr1 (by decide) _, fun i hi => ?_, own_set ((h.oF.alloc o).kept hgrow (own_ne h.oF h.oL (by decide))) hr1 (by decide) _, own_set ((h.oS.alloc o).kept hgrow (own_ne h.oS h.oL (by decide))) hr1 (by decide) _⟩
  rcases Nat.lt_succ_iff_lt_or_eq.1 hi with h1 | rfl
  · obtain ⟨u, hu, hu2, hu3⟩ := h.oR i h1
    exact ⟨u, by rw [List.getElem?_append_left (by omega)]; exact hu, own_set ((hu2.alloc o).kept hgrow (own_ne hu2 h.oL (by decide))) hr1 (by decide) _, hu3⟩
  · exact ⟨rv, by rw [List.getElem?_append_right (by omega)]; simp [hlen], own_set ((hrow.alloc o).kept hgrow (own_ne hrow h.oL (by decide))) hr1 (by decide) _, hrv⟩
/-- The run gets its facts at a time. -/
theorem RunI.facts (h : RunI w0 w bE b6 bs br e0 e1 x y vL vF vS rows nL nF nS L F S) {vF' : Value} {o : Obj} (hown : w1.ownsRow w0.heap.size 121 1 vF' (nF + 1) (u64L F nF ++ [.int .u64 (F nF : Nat)])) (hgrow : (w.alloc o).grownBy w1 vF.ownBlock) :
    RunI w0 (w1.setCell ⟨br, 1, none⟩ vF') bE b6 bs br e0 e1 x y vL vF' vS rows nL (nF + 1) nS L F S := by
  have hlt := h.oF.lt
  have hsz : (w.alloc o).heap.size = w.heap.size + 1 := by simp
  have hr1 := (h.hr.alloc o).kept hgrow (h.hr.ne_row h.oF (by decide))
  have hE1 := (h.hE.alloc o).kept hgrow (h.hE.ne_row h.oF (by decide))
  have h61 := (h.h6.alloc o).kept hgrow (h.h6.ne_row h.oF (by decide))
  have hs1 := (h.hs.alloc o).kept hgrow (h.hs.ne_row h.oF (by decide))
  rw [← u64L_succ] at hown
  refine ⟨((h.below.alloc h.below.size o).grown hgrow (by have := h.below.size; omega) (fun k hk => (hlt k hk).1)).setCell (p := ⟨br, 1, none⟩) h.ge.2.2.2 _, hE1.set_ne (hE1.ne hr1 (by decide)) _ _, h61.set_ne h.ne _ _, hs1.set_ne (hs1.ne hr1 (by decide)) _ _, hr1.set 1 vF',
    h.ne, h.ge, own_set ((h.oL.alloc o).kept hgrow (own_ne h.oL h.oF (by decide))) hr1 (by decide) _, fun i hi => ?_, own_set hown hr1 (by decide) _, own_set ((h.oS.alloc o).kept hgrow (own_ne h.oS h.oF (by decide))) hr1 (by decide) _⟩
  obtain ⟨u, hu, hu2, hu3⟩ := h.oR i hi
  exact ⟨u, hu, own_set ((hu2.alloc o).kept hgrow (own_ne hu2 h.oF (by decide))) hr1 (by decide) _, hu3⟩
/-- What is left at the end: the result's box is written; the run is owned. -/
theorem RunI.done {k : Nat} (h : RunI w0 w bE b6 bs br e0 e1 x y vL vF vS rows (k + 1) (k + 1) k L F S) (u0 u1 : Value) :
    RunO ((w.setCell ⟨b6, 0, none⟩ u0).setCell ⟨b6, 1, none⟩ u1) w0.heap.size (.agg #[vL, vF]) (k + 1) (fun _ => 2) L (k + 1) F ∧ ((w.setCell ⟨b6, 0, none⟩ u0).setCell ⟨b6, 1, none⟩ u1).ownsRow w0.heap.size 3 1 vS k (i64L S k) ∧ Below w0.heap.size w0 ((w.setCell ⟨b6, 0, none⟩ u0).setCell ⟨b6, 1, none⟩ u1) := by
  have h61 := h.h6.set 0 u0
  have hB := (h.below.setCell (p := ⟨b6, 0, none⟩) h.ge.2.1 u0).setCell (p := ⟨b6, 1, none⟩) h.ge.2.1 u1
  refine ⟨⟨vL, vF, rows, rfl, own_set (k := 1) (own_set (k := 0) h.oL h.h6 (by decide) u0) h61 (by decide) u1, fun i hi => ?_, own_set (k := 1) (own_set (k := 0) h.oF h.h6 (by decide) u0) h61 (by decide) u1⟩, own_set (k := 1) (own_set (k := 0) h.oS h.h6 (by decide) u0) h61 (by decide) u1, hB⟩
  obtain ⟨rv, h1, h2, -⟩ := h.oR i hi
  exact ⟨rv, h1, own_set (k := 1) (own_set (k := 0) h2 h.h6 (by decide) u0) h61 (by decide) u1⟩
end
/-- What the loop over the two agents leaves: the senders so far, the next states. -/
def whoA (p q : Int) (a : Nat) : Int := if a = 0 then 0 else if a = 1 then (if 0 < p then 1 else 0) else whoV p q
def nxtA (x y x' y' : Int) (a : Nat) : Array Value := #[.int .i64 (if a ≤ 1 then x else x'), .int .i64 (if a = 0 then y else y')]
/-- The same, of the rounds' end. -/
def RunK (w0 w : World) (bE b6 bs br : Nat) (e0 e1 : Value) (snd : Int → Int → Int) (bit : Int) (lost : Nat → Int) (k : Nat) (vS : Value) : Prop :=
  ∃ vL vF rows, RunI w0 w bE b6 bs br e0 e1 (runS snd bit lost k).1 (runS snd bit lost k).2 vL vF vS rows (k + 1) (k + 1) k (runL snd bit lost) (fun _ => bit.toNat) (runW snd bit lost)
/-- What run returns. -/
def RunPost (w : World) (T : Nat) (L : Nat → Nat → Int) (b : Nat) (S : Nat → Int) (e : Ending) (w' : World) : Prop :=
  ∃ v A c, e = .returned (.tuple #[v, .slice A T c]) ∧ RunO w' w.heap.size v (T + 1) (fun _ => 2) L (T + 1) (fun _ => b) ∧ w'.ownsRow w.heap.size 3 1 (.slice A T c) T (i64L S T) ∧ Below w.heap.size w w'
end Go.Proofs.Ytahaimecchdfeaa

/-
  Walks of layer 54: SameRun of the reference.
-/
namespace Go.Proofs.Ytahaimecchdfeaa
open Go.RowKit

/-- Two runs are the same. -/
def SameP (n : Nat) (m : Nat → Nat) (L : Nat → Nat → Int) (k : Nat) (F : Nat → Nat) (n' : Nat) (m' : Nat → Nat) (L' : Nat → Nat → Int) (k' : Nat) (F' : Nat → Nat) : Prop :=
  n = n' ∧ k = k' ∧ (∀ t, t < n → m t = m' t ∧ ∀ i, i < m t → L t i = L' t i) ∧ ∀ t, t < k → F t = F' t
theorem two_boxes (w : World) (x y x' y' : Value) (T T' : TypeId) (W : World) (hW : W = (w.alloc (.cells #[x, y] T)).alloc (.cells #[x', y'] T')) :
    W.cell? ⟨w.heap.size, 0, none⟩ = some x ∧ W.cell? ⟨w.heap.size, 1, none⟩ = some y ∧ W.cell? ⟨w.heap.size + 1, 0, none⟩ = some x' ∧ W.cell? ⟨w.heap.size + 1, 1, none⟩ = some y' ∧ Below w.heap.size w W := by
  subst hW
  have k0 := (Blk.new w #[x, y] T).alloc (.cells #[x', y'] T')
  have k1 := Blk.new (w.alloc (.cells #[x, y] T)) #[x', y'] T'
  rw [World.size_alloc] at k1
  exact ⟨k0.cell rfl, k0.cell rfl, k1.cell rfl, k1.cell rfl, (below_alloc w _).alloc (by simp) _⟩
set_option maxHeartbeats 4000000 in
theorem SameRun_any (v v' : Value) (n n' k k' : Nat) (m m' : Nat → Nat) (L L' : Nat → Nat → Int) (F F' : Nat → Nat) (w : World) (h : RunR w v n m L k F) (h' : RunR w v' n' m' L' k' F') (hn : n ≤ 65536) (hk : k ≤ 65536) (B : Bool) (hB : B = true ↔ SameP n m L k F n' m' L' k' F') :
    Calls Try.prog 88 #[v, v'] w fun e w' => e = .returned (.bool B) ∧ Below w.heap.size w w' := by
  obtain ⟨A, c, C, d, R, cc, rfl, hM, hF⟩ := h
  obtain ⟨A', c', C', d', R', cc', rfl, hM', hF'⟩ := h'
  have HM := Lib.hid hM
  have HM' := Lib.hid hM'
  have HF := Lib.hid hF
  have HF' := Lib.hid hF'
  have HNO := Lib.hid (fun (h : ¬ SameP n m L k F n' m' L' k' F') => (Bool.eq_false_iff.2 (fun e => h (hB.1 e)) : B = false))
  have HYE := Lib.hid hB.2
  clear hM hM' hF hF' hB
  go_enter Try.func88, Try.ntmps88
  go_upto_region 1 with (fail)
  obtain ⟨W, hW⟩ : ∃ W, W = (w.alloc (.cells #[.slice A n c, .slice C k d] 69)).alloc (.cells #[.slice A' n' c', .slice C' k' d'] 69) := ⟨_, rfl⟩
  rw [← hW]
  obtain ⟨d0, d1, e0, e1, hB⟩ := two_boxes w _ _ _ _ _ _ W hW
  have HB := Lib.hid hB
  clear hW hB
  by_cases h1 : n = n'
  case neg =>
    have t1 : ((n : Int) != (n' : Int)) = true := by rw [bne_iff_ne]; omega
    have HV := Lib.hid (HNO.out (fun h => h1 h.1))
    clear h1 HNO HYE
    go_wp2_with fail
    go_ret
    exact ⟨by rw [HV.out]; rfl, HB.out⟩
  subst h1
  by_cases h2 : k = k'
  case neg =>
    have t2 : ((k : Int) != (k' : Int)) = true := by rw [bne_iff_ne]; omega
    have HV := Lib.hid (HNO.out (fun h => h2 h.2.1))
    clear h2 HNO HYE
    go_wp2_with fail
    go_ret
    exact ⟨by rw [HV.out]; rfl, HB.out⟩
  subst h2
  have D0 := Lib.hid d0
  have D1 := Lib.hid d1
  have E0 := Lib.hid e0
  have E1 := Lib.hid e1
  have hsz := HB.out.size
  go_wp2_with fail
  clear d0 d1 e0 e1
  go_loopw [5] (fun iv wr => ∃ t : Nat, t ≤ n ∧ iv = .int .i64 t ∧ Hid (∀ u, u < t → m u = m' u ∧ ∀ i, i < m u → L u i = L' u i) ∧ Below W.heap.size W wr) (fun iv _ => n - (intOf iv).toNat)
  case atStart => exact ⟨0, Nat.zero_le _, rfl, Lib.hid fun u hu => absurd hu (Nat.not_lt_zero _), Below.refl _ _⟩
  case round =>
    obtain ⟨t, ht, rfl, HP, hbl⟩ := hrel
    have hsw := hbl.size
    have d0 := cell_below hbl D0.out
    have d1 := cell_below hbl D1.out
    have e0 := cell_below hbl E0.out
    have e1 := cell_below hbl E1.out
    by_cases hlt : t < n
    · obtain ⟨b, off, rfl, hc, hm, hr⟩ := (HM.out.below HB.out).below hbl t hlt
      obtain ⟨b', off', rfl, hc', hm', hr'⟩ := (HM'.out.below HB.out).below hbl t hlt
      have hti : (t : Int) < (n : Int) := by omega
      have hti0 : (0 : Int) ≤ (t : Int) := by omega
      have HR := Lib.hid hr
      have HR' := Lib.hid hr'
      have HBL := Lib.hid hbl
      have HNE := Lib.hid (fun (h : ¬ (m t = m' t ∧ ∀ i, i < m t → L t i = L' t i)) => HNO.out (fun q => h (q.2.2.1 t hlt)))
      have HNX : Hid ((m t = m' t ∧ ∀ i, i < m t → L t i = L' t i) → ∀ u, u < t + 1 → m u = m' u ∧ ∀ i, i < m u → L u i = L' u i) := Lib.hid fun h0 u hu => by
        rcases Nat.lt_succ_iff_lt_or_eq.1 hu with h1 | rfl
        · exact HP.out u h1
        · exact h0
      clear hr hr' hbl HP
      by_cases hmm : m t = m' t
      case neg =>
        have t3 : ((m t : Int) != (m' t : Int)) = true := by rw [bne_iff_ne]; omega
        have HV := Lib.hid (HNE.out (fun h => hmm h.1))
        clear hmm HNE HNX
        go_wp2_with fail
        go_quiet (fail)
        go_wp2_with fail
        go_ret
        exact ⟨by rw [HV.out]; rfl, below_drewN (HB.out.trans (HBL.out.mono hsz)) _⟩
      have t3 : ((m t : Int) != (m' t : Int)) = false := by rw [hmm]; simp
      have HMM := Lib.hid hmm
      have HMB := Lib.hid hm
      have HMB' := Lib.hid hm'
      obtain ⟨M, eM⟩ : ∃ M, M = m t := ⟨_, rfl⟩
      obtain ⟨M', eM'⟩ : ∃ M, M = m' t := ⟨_, rfl⟩
      have hMM : M = M' := by omega
      rw [← eM] at hc t3
      rw [← eM'] at hc' t3
      subst hMM
      have EM := Lib.hid eM
      clear hmm eM eM' hm' 
      go_wp2_with fail
      go_quiet (fail)
      obtain ⟨W1, eW1⟩ : ∃ W1, W1 = wr.drewN nq := ⟨_, rfl⟩
      rw [← eW1]
      have HB1 : Hid (Below W.heap.size W W1) := Lib.hid (by rw [eW1]; exact below_drewN HBL.out _)
      have k0 : Hid (W1.cell? ⟨b, off + t, none⟩ = some (.slice (R t) M (cc t))) := Lib.hid (by rw [eW1]; exact hc)
      have k1 : Hid (W1.cell? ⟨b', off' + t, none⟩ = some (.slice (R' t) M (cc' t))) := Lib.hid (by rw [eW1]; exact hc')
      have HQ : Hid (I64s W1 (R t) M (L t)) := Lib.hid (by rw [eW1, EM.out]; exact HR.out)
      have HQ' : Hid (I64s W1 (R' t) M (L' t)) := Lib.hid (by rw [eW1, EM.out, HMM.out]; exact HR'.out)
      have hM64 : M ≤ 9223372036854775807 := by rw [EM.out]; exact hm
      clear eW1 d0 d1 e0 e1 hc hc' HR HR' HBL hm
      go_wp2_with fail
      go_loopw [6] (fun iv wi => ∃ i : Nat, i ≤ M ∧ iv = .int .i64 i ∧ Hid (∀ u, u < i → L t u = L' t u) ∧ Below W1.heap.size W1 wi) (fun iv _ => M - (intOf iv).toNat)
      case atStart => exact ⟨0, Nat.zero_le _, rfl, Lib.hid fun u hu => absurd hu (Nat.not_lt_zero _), Below.refl _ _⟩
      case round =>
        obtain ⟨i, hi, rfl, HP, hbl⟩ := hrel
        have hbl2 := HB1.out.trans (hbl.mono HB1.out.size)
        have d0 := cell_below hbl2 D0.out
        have d1 := cell_below hbl2 D1.out
        have e0 := cell_below hbl2 E0.out
        have e1 := cell_below hbl2 E1.out
        have c0 := cell_below hbl k0.out
        have c1 := cell_below hbl k1.out
        by_cases hlt2 : i < M
        · obtain ⟨b2, o2, ea, ca, -⟩ := HQ.out.below hbl i hlt2
          obtain ⟨b3, o3, eb, cb, -⟩ := HQ'.out.below hbl i hlt2
          rw [ea] at c0
          rw [eb] at c1
          have hii : (i : Int) < (M : Int) := by omega
          have hii0 : (0 : Int) ≤ (i : Int) := by omega
          have HB2 := Lib.hid hbl2
          have HBI := Lib.hid hbl
          have HPX : Hid (L t i = L' t i → ∀ u, u < i + 1 → L t u = L' t u) := Lib.hid fun h0 u hu => by
            rcases Nat.lt_succ_iff_lt_or_eq.1 hu with h1 | rfl
            · exact HP.out u h1
            · exact h0
          have HBAD : Hid (L t i ≠ L' t i → B = false) := Lib.hid fun h0 => HNE.out (fun q => h0 (q.2 i (by rw [← EM.out]; exact hlt2)))
          obtain ⟨x, ex⟩ : ∃ x, x = L t i := ⟨_, rfl⟩
          obtain ⟨y, ey⟩ : ∃ x, x = L' t i := ⟨_, rfl⟩
          rw [← ex] at ca HPX HBAD
          rw [← ey] at cb HPX HBAD
          clear hbl hbl2 HP ea eb ex ey HNX HNE
          by_cases hxy : x = y
          · have t5 : (x != y) = false := by rw [hxy]; simp
            have HPN := Lib.hid (HPX.out hxy)
            clear hxy HPX HBAD
            go_wp2_with fail
            go_quiet (fail)
            go_wp2_with fail
            go_roundw
            case rel => exact ⟨i + 1, by omega, by go_num, HPN, below_drewN HBI.out _⟩
            case measure => simp [intOf]; omega
          · have t5 : (x != y) = true := by rw [bne_iff_ne]; exact hxy
            have HV := Lib.hid (HBAD.out hxy)
            clear hxy HPX HBAD
            go_wp2_with fail
            go_quiet (fail)
            go_wp2_with fail
            go_ret
            exact ⟨by rw [HV.out]; rfl, below_drewN (HB.out.trans (HB2.out.mono hsz)) _⟩
        · obtain rfl : i = M := by omega
          have HPN := Lib.hid (HNX.out ⟨HMM.out, by rw [← EM.out]; exact HP.out⟩)
          have HB2 := Lib.hid hbl2
          clear hbl hbl2 HP HNX HNE
          go_wp2_with fail
          go_roundw
          case rel => exact ⟨t + 1, by omega, by go_num, HPN, HB2.out⟩
          case measure => simp [intOf]; omega
    · obtain rfl : t = n := by omega
      have HPN := Lib.hid HP.out
      have HBL := Lib.hid hbl
      clear HP hbl hlt
      go_wp2_with fail
      obtain ⟨W1, eW1⟩ : ∃ W1, W1 = wr := ⟨_, rfl⟩
      subst eW1
      have D0 := Lib.hid d0
      have D1 := Lib.hid d1
      have E0 := Lib.hid e0
      have E1 := Lib.hid e1
      clear d0 d1 e0 e1
      go_loopw [7] (fun iv wi => ∃ i : Nat, i ≤ k ∧ iv = .int .i64 i ∧ Hid (∀ u, u < i → F u = F' u) ∧ Below W1.heap.size W1 wi) (fun iv _ => k - (intOf iv).toNat)
      case atStart => exact ⟨0, Nat.zero_le _, rfl, Lib.hid fun u hu => absurd hu (Nat.not_lt_zero _), Below.refl _ _⟩
      case round =>
        obtain ⟨i, hi, rfl, HP, hbl⟩ := hrel
        have hbl2 := HB.out.trans ((HBL.out.trans (hbl.mono HBL.out.size)).mono hsz)
        have d0 := cell_below hbl D0.out
        have d1 := cell_below hbl D1.out
        have e0 := cell_below hbl E0.out
        have e1 := cell_below hbl E1.out
        by_cases hlt2 : i < k
        · obtain ⟨b, off, rfl, ca, -⟩ := HF.out.below hbl2 i hlt2
          obtain ⟨b', off', rfl, cb, -⟩ := HF'.out.below hbl2 i hlt2
          have hii : (i : Int) < (k : Int) := by omega
          have hii0 : (0 : Int) ≤ (i : Int) := by omega
          have HB2 := Lib.hid hbl2
          have HBI := Lib.hid hbl
          have HPX : Hid (F i = F' i → ∀ u, u < i + 1 → F u = F' u) := Lib.hid fun h0 u hu => by
            rcases Nat.lt_succ_iff_lt_or_eq.1 hu with h1 | rfl
            · exact HP.out u h1
            · exact h0
          have HBAD : Hid (F i ≠ F' i → B = false) := Lib.hid fun h0 => HNO.out (fun q => h0 (q.2.2.2 i hlt2))
          obtain ⟨x, ex⟩ : ∃ x, x = F i := ⟨_, rfl⟩
          obtain ⟨y, ey⟩ : ∃ x, x = F' i := ⟨_, rfl⟩
          rw [← ex] at ca HPX HBAD
          rw [← ey] at cb HPX HBAD
          clear hbl hbl2 HP ex ey
          by_cases hxy : x = y
          · have t5 : ((x : Int) != (y : Int)) = false := by rw [hxy]; simp
            have HPX2 := Lib.hid (HPX.out hxy)
            clear hxy HPX HBAD
            go_wp2_with fail
            go_quiet (fail)
            go_wp2_with fail
            go_roundw
            case rel => exact ⟨i + 1, by omega, by go_num, HPX2, below_drewN HBI.out _⟩
            case measure => simp [intOf]; omega
          · have t5 : ((x : Int) != (y : Int)) = true := by rw [bne_iff_ne]; omega
            have HV := Lib.hid (HBAD.out hxy)
            clear hxy HPX HBAD
            go_wp2_with fail
            go_quiet (fail)
            go_wp2_with fail
            go_ret
            exact ⟨by rw [HV.out]; rfl, below_drewN HB2.out _⟩
        · obtain rfl : i = k := by omega
          have HV := Lib.hid (HYE.out ⟨rfl, rfl, HPN.out, HP.out⟩)
          have HB2 := Lib.hid hbl2
          clear hbl hbl2 HP HPN HYE
          go_wp2_with fail
          go_ret
          exact ⟨by rw [HV.out]; rfl, HB2.out⟩
end Go.Proofs.Ytahaimecchdfeaa

/-
  Walks of layer 54: systems, read; Same of the reference.
-/
namespace Go.Proofs.Ytahaimecchdfeaa
open Go.RowKit

/-- A slice of runs, read: each by its two slices. -/
def RunsR (w : World) (A : Option Addr) (n : Nat) (T : Nat → Nat) (m : Nat → Nat → Nat) (L : Nat → Nat → Nat → Int) (K : Nat → Nat) (F : Nat → Nat → Nat) : Prop :=
  ∀ i, i < n → ∃ b off u v, A = some ⟨b, off, none⟩ ∧ w.cell? ⟨b, off + i * 2, none⟩ = some u ∧ w.cell? ⟨b, off + i * 2 + 1, none⟩ = some v ∧ T i ≤ 65536 ∧ K i ≤ 65536 ∧ RunR w (.agg #[u, v]) (T i) (m i) (L i) (K i) (F i)
theorem RunsR.below {w w' : World} {A : Option Addr} {n : Nat} {T : Nat → Nat} {m : Nat → Nat → Nat} {L : Nat → Nat → Nat → Int} {K : Nat → Nat} {F : Nat → Nat → Nat} (h : RunsR w A n T m L K F) (hb : Below w.heap.size w w') : RunsR w' A n T m L K F := fun i hi =>
  let ⟨b, off, u, v, e, h1, h2, h3, h4, h5⟩ := h i hi; ⟨b, off, u, v, e, cell_below hb h1, cell_below hb h2, h3, h4, h5.below hb⟩
/-- A system, read. -/
def SysR (w : World) (x : Value) (a f l : Int) (n : Nat) (T : Nat → Nat) (m : Nat → Nat → Nat) (L : Nat → Nat → Nat → Int) (K : Nat → Nat) (F : Nat → Nat → Nat) : Prop :=
  ∃ A c, x = .agg #[.int .i64 a, .int .i64 f, .int .i64 l, .slice A n c] ∧ RunsR w A n T m L K F
def SamS (a f l : Int) (n : Nat) (T : Nat → Nat) (m : Nat → Nat → Nat) (L : Nat → Nat → Nat → Int) (K : Nat → Nat) (F : Nat → Nat → Nat) (a' f' l' : Int) (n' : Nat) (T' : Nat → Nat) (m' : Nat → Nat → Nat) (L' : Nat → Nat → Nat → Int) (K' : Nat → Nat) (F' : Nat → Nat → Nat) : Prop :=
  a = a' ∧ f = f' ∧ l = l' ∧ n = n' ∧ ∀ i, i < n → SameP (T i) (m i) (L i) (K i) (F i) (T' i) (m' i) (L' i) (K' i) (F' i)
theorem two_boxes4 (w : World) (xs ys : Array Value) (T T' : TypeId) (W : World) (hW : W = (w.alloc (.cells xs T)).alloc (.cells ys T')) : Blk W w.heap.size T xs ∧ Blk W (w.heap.size + 1) T' ys ∧ Below w.heap.size w W := by
  subst hW
  have k0 := (Blk.new w xs T).alloc (.cells ys T')
  have k1 := Blk.new (w.alloc (.cells xs T)) ys T'
  rw [World.size_alloc] at k1
  exact ⟨k0, k1, (below_alloc w _).alloc (by simp) _⟩
end Go.Proofs.Ytahaimecchdfeaa

/-
  Plain facts of layer 54: the lists of masks that the lossy channel goes through; what the walk of its closure holds.
-/
namespace Go.Proofs.Ytahaimecchdfeaa
open Go.RowKit

def lf (l : List Int) : Nat → Int := fun k => l.getD k 0
theorem lf_append (l : List Int) (x : Int) : i64L (lf (l ++ [x])) (l.length + 1) = i64L (lf l) l.length ++ [.int .i64 x] := by
  rw [i64L_succ]
  congr 1
  · refine i64L_congr fun k hk => ?_
    unfold lf; simp [List.getD_eq_getElem?_getD, List.getElem?_append_left hk]
  · unfold lf; simp
theorem lf_snoc {ls : List Int} {x : Int} (hm : ∀ k, k < ls.length → 0 ≤ lf ls k ∧ lf ls k ≤ 3) (hx : 0 ≤ x ∧ x ≤ 3) : ∀ k, k < ls.length + 1 → 0 ≤ lf (ls ++ [x]) k ∧ lf (ls ++ [x]) k ≤ 3 := fun k hk => by
  rcases Nat.lt_succ_iff_lt_or_eq.1 hk with h | rfl
  · have := hm k h
    have e : lf (ls ++ [x]) k = lf ls k := by unfold lf; simp [List.getD_eq_getElem?_getD, List.getElem?_append_left h]
    rw [e]; exact this
  · have e : lf (ls ++ [x]) ls.length = x := by unfold lf; simp
    rw [e]; exact hx
/-- Whether a mask loses only messages of agents that send. -/
def bitsOk (x who : Int) : Bool := bits .andNot .i64 x who == 0
/-- The lists of masks that are gone through from a list, with so many rounds left. -/
def gen (snd : Int → Int → Int) (bit : Int) : Nat → List Int → List (List Int)
  | 0, l => [l]
  | d + 1, l => ([0, 2, 1, 3] : List Int).flatMap fun x => if bitsOk x (runW snd bit (lf (l ++ [0])) l.length) then gen snd bit d (l ++ [x]) else []
def mkR (snd : Int → Int → Int) (p : Int × List Int) : RunD := ⟨p.2.length + 1, fun _ => 2, runL snd p.1 (lf p.2), p.2.length + 1, fun _ => p.1.toNat⟩
/-- The runs behind a call of the closure. -/
def genT (snd : Int → Int → Int) (bit : Int) (d : Nat) (l : List Int) (rs : List (Int × List Int)) : List (Int × List Int) := (rs ++ (gen snd bit d l).map fun x => (bit, x)).take 65
theorem genT_full {snd : Int → Int → Int} {bit : Int} {d : Nat} {l : List Int} {rs : List (Int × List Int)} (h : rs.length = 65) : genT snd bit d l rs = rs := by
  unfold genT; rw [List.take_append_of_le_length (by omega), List.take_of_length_le (by omega)]
theorem genT_leaf {snd : Int → Int → Int} {bit : Int} {l : List Int} {rs : List (Int × List Int)} (h : rs.length ≤ 64) : genT snd bit 0 l rs = rs ++ [(bit, l)] := by
  unfold genT gen; rw [List.take_of_length_le (by simp; omega)]; rfl
/-- .. in the loop over the masks, behind the first i. -/
def genK (snd : Int → Int → Int) (bit : Int) (d : Nat) (l : List Int) (rs : List (Int × List Int)) (i : Nat) : List (Int × List Int) :=
  (rs ++ ((([0, 2, 1, 3] : List Int).take i).flatMap fun x => if bitsOk x (runW snd bit (lf (l ++ [0])) l.length) then gen snd bit d (l ++ [x]) else []).map fun x => (bit, x)).take 65
theorem genK_zero {snd : Int → Int → Int} {bit : Int} {d : Nat} {l : List Int} {rs : List (Int × List Int)} (h : rs.length ≤ 65) : genK snd bit d l rs 0 = rs := by
  unfold genK; rw [List.take_zero, List.flatMap_nil, List.map_nil, List.append_nil, List.take_of_length_le h]
theorem genK_four {snd : Int → Int → Int} {bit : Int} {d : Nat} {l : List Int} {rs : List (Int × List Int)} : genK snd bit d l rs 4 = genT snd bit (d + 1) l rs := rfl
theorem take_take_append {α : Type} (a b : List α) (n : Nat) : (a.take n ++ b).take n = (a ++ b).take n := by
  rw [List.take_append, List.take_append, List.take_take, Nat.min_self, List.length_take]
  by_cases h : n ≤ a.length
  · rw [Nat.min_eq_left h, Nat.sub_self, show n - a.length = 0 from by omega]
  · rw [Nat.min_eq_right (by omega)]
theorem genK_yes {snd : Int → Int → Int} {bit : Int} {d i : Nat} {l : List Int} {rs : List (Int × List Int)} {x : Int} (hx : ([0, 2, 1, 3] : List Int)[i]? = some x) (hb : bitsOk x (runW snd bit (lf (l ++ [0])) l.length) = true) :
    genK snd bit d l rs (i + 1) = genT snd bit d (l ++ [x]) (genK snd bit d l rs i) := by
  have e : ([0, 2, 1, 3] : List Int).take (i + 1) = ([0, 2, 1, 3] : List Int).take i ++ [x] := by rw [List.take_add_one, hx]; rfl
  unfold genK genT
  rw [take_take_append, e, List.flatMap_append, List.map_append, List.append_assoc]
  simp [hb]
theorem genK_no {snd : Int → Int → Int} {bit : Int} {d i : Nat} {l : List Int} {rs : List (Int × List Int)} {x : Int} (hx : ([0, 2, 1, 3] : List Int)[i]? = some x) (hb : bitsOk x (runW snd bit (lf (l ++ [0])) l.length) = false) :
    genK snd bit d l rs (i + 1) = genK snd bit d l rs i := by
  have e : ([0, 2, 1, 3] : List Int).take (i + 1) = ([0, 2, 1, 3] : List Int).take i ++ [x] := by rw [List.take_add_one, hx]; rfl
  unfold genK
  rw [e, List.flatMap_append]
  simp [hb]
theorem genT_le (snd : Int → Int → Int) (bit : Int) (d : Nat) (l : List Int) (rs : List (Int × List Int)) : (genT snd bit d l rs).length ≤ 65 := by unfold genT; simp; omega
theorem genK_le (snd : Int → Int → Int) (bit : Int) (d : Nat) (l : List Int) (rs : List (Int × List Int)) (i : Nat) : (genK snd bit d l rs i).length ≤ 65 := by unfold genK; simp; omega

/-- What the walk of the closure holds: the boxes of the system, the protocol, the closure; the runs. -/
structure LosI (w0 w : World) (bS bE bF T : Nat) (eA fv vR : Value) (ps : List RunD) : Prop where
  below : Below w0.heap.size w0 w
  hS : Blk w bS 24 #[.int .i64 2, .int .i64 1, .int .i64 ((T : Int) + 1), vR]
  hE : Blk w bE 43 #[.int .i64 T, eA]
  hF : Blk w bF 100 #[fv]
  ge : w0.heap.size ≤ bS
  runs : RunsO w w0.heap.size vR ps
section
variable {w0 w w1 : World} {bS bE bF T : Nat} {eA fv vR : Value} {ps : List RunD}
theorem LosI.keep (h : LosI w0 w bS bE bF T eA fv vR ps) (hb : Below w.heap.size w w1) : LosI w0 w1 bS bE bF T eA fv vR ps :=
  ⟨h.below.trans (hb.mono h.below.size), h.hS.below hb, h.hE.below hb, h.hF.below hb, h.ge, h.runs.below hb⟩
theorem LosI.box (h : LosI w0 w bS bE bF T eA fv vR ps) {rows : List Value} {N : Nat} {o : Obj} (ho : w.ownsRow w0.heap.size 69 2 vR N rows) (hg : (w.alloc o).grownBy w1 vR.ownBlock) :
    w1.cell? ⟨bS, 3, none⟩ = some vR ∧ w1.frozen? ⟨bS, 3, none⟩ = false := by
  have hb := below_alloc w o
  have hS1 := (h.hS.below hb).kept hg ((h.hS.below hb).ne_row' (own_alloc' ho o) (by decide))
  exact ⟨hS1.cell rfl, hS1.frozen⟩
/-- A run is appended, and the system's box is written. -/
theorem LosI.grow (h : LosI w0 w bS bE bF T eA fv vR ps) {rows : List Value} {x y v' : Value} {d : RunD} {o : Obj} (ho : w.ownsRow w0.heap.size 69 2 vR ps.length rows)
    (hr : ∀ i d, ps[i]? = some d → ∃ x y, rows[i * 2]? = some x ∧ rows[i * 2 + 1]? = some y ∧ d.owned w w0.heap.size (.agg #[x, y])) (hd : d.owned w w0.heap.size (.agg #[x, y]))
    (hown : w1.ownsRow w0.heap.size 69 2 v' (ps.length + 1) (rows ++ [x, y])) (hg : (w.alloc o).grownBy w1 vR.ownBlock) :
    LosI w0 (w1.setCell ⟨bS, 3, none⟩ v') bS bE bF T eA fv v' (ps ++ [d]) ∧ Keeps w (w1.setCell ⟨bS, 3, none⟩ v') 3 := by
  have hb := below_alloc w o
  have ho1 := own_alloc' ho o
  have hlt := ho1.lt
  have hsz : (w.alloc o).heap.size = w.heap.size + 1 := by simp
  have hS1 := (h.hS.below hb).kept hg ((h.hS.below hb).ne_row' ho1 (by decide))
  have hE1 := (h.hE.below hb).kept hg ((h.hE.below hb).ne_row' ho1 (by decide))
  have hF1 := (h.hF.below hb).kept hg ((h.hF.below hb).ne_row' ho1 (by decide))
  have hR1 := RunsO.push ho hr hd hown hg
  refine ⟨⟨((h.below.alloc h.below.size o).grown hg (by have := h.below.size; omega) (fun k hk => (hlt k hk).1)).setCell (p := ⟨bS, 3, none⟩) h.ge _, hS1.set 3 v', hE1.set_ne (hE1.ne hS1 (by decide)) _ _, hF1.set_ne (hF1.ne hS1 (by decide)) _ _, h.ge, ?_⟩, ?_⟩
  · exact hR1.keeps (.of_set hS1 (by decide) _ _) (.of_set hS1 (by decide) _ _) (.of_set hS1 (by decide) _ _) (.of_set hS1 (by decide) _ _)
  · exact ((Keeps.of_below hb _).trans (Keeps.of_grown hg ho1 (by decide))).trans (.of_set hS1 (by decide) _ _)
end
/-- What the closure leaves. -/
def ListPost (w0 w : World) (bS bE bF T : Nat) (eA fv : Value) (ps : List RunD) (e : Ending) (w' : World) : Prop :=
  e = .returned (.tuple #[]) ∧ (∃ vR, LosI w0 w' bS bE bF T eA fv vR ps) ∧ Keeps w w' 3
end Go.Proofs.Ytahaimecchdfeaa

/-
  Plain facts of layer 54: the reference's run is the program's, for messages in range.
-/
namespace Go.Proofs.Ytahaimecchdfeaa
open Go.RowKit

theorem tm_at {h k : Nat} (hk : k ≤ 5) (h45 : h / 4 ^ k = 4 ∨ h / 4 ^ k = 5) : tmV 0 (h : Int) = k := by
  have hle : h / 4 ^ k ≤ h := Nat.div_le_self _ _
  have h0 : tmV 0 (h : Int) = tmN 0 h := by
    have : ¬ ((0 : Int) < 0 ∨ (1 : Int) < 0 ∨ (h : Int) < 4) := by omega
    unfold tmV; rw [if_neg this]; rfl
  have hb : ∀ s, s < k → 6 ≤ h / 4 ^ s := fun s hs => by
    obtain ⟨d, rfl⟩ : ∃ d, k = s + 1 + d := ⟨k - s - 1, by omega⟩
    have h1 := div_pow_le h (s + 1) d
    have h2 := div_pow_succ h s
    generalize h / 4 ^ (s + 1 + d) = x at h1 h45
    generalize h / 4 ^ (s + 1) = y at h1 h2
    generalize h / 4 ^ s = z at h2 ⊢
    omega
  rw [h0, tm_end rfl (by omega) hb, if_pos ⟨by rcases h45 with e | e <;> simp [e], hk⟩]
theorem div_step {h m k : Nat} (hm : m ≤ 3) : (4 * h + m) / 4 ^ (k + 1) = h / 4 ^ k := by
  rw [Nat.pow_succ, Nat.mul_comm (4 ^ k) 4, ← Nat.div_div_eq_div_mul]
  congr 1
  omega
/-- The states of a run, by the reference. -/
def rrS (snd : Int → Int → Int) (bit : Int) (lost : Nat → Int) : Nat → Int × Int
  | 0 => (4 + bit, 4)
  | k + 1 => (4 * (rrS snd bit lost k).1 + (if lost k / 2 = 1 then 0 else snd 1 (rrS snd bit lost k).2), 4 * (rrS snd bit lost k).2 + (if lost k % 2 = 1 then 0 else snd 0 (rrS snd bit lost k).1))
theorem losB_one {l : Int} (h : 0 ≤ l ∧ l ≤ 3) : (losB l 1 = true ↔ l / 2 = 1) ∧ (losB l 0 = true ↔ l % 2 = 1) := by
  have h4 : l = 0 ∨ l = 1 ∨ l = 2 ∨ l = 3 := by omega
  rcases h4 with rfl | rfl | rfl | rfl <;> decide
theorem afV_at {h k : Nat} {m : Int} (hk : k ≤ 4) (h45 : h / 4 ^ k = 4 ∨ h / 4 ^ k = 5) (hm : 0 ≤ m ∧ m ≤ 3) : afV h m = 4 * h + m := by
  have ht := tm_at (by omega) h45
  unfold afV
  rw [ht, if_pos (by omega)]
theorem run_same {snd : Int → Int → Int} {bit : Int} {lost : Nat → Int} {T : Nat} (hs : ∀ a h, 0 ≤ snd a h ∧ snd a h ≤ 3) (hb : 0 ≤ bit ∧ bit ≤ 1) (hl : ∀ k, k < T → 0 ≤ lost k ∧ lost k ≤ 3) :
    ∀ k, k ≤ T → k ≤ 5 → runS snd bit lost k = rrS snd bit lost k ∧ ∃ x y : Nat, (rrS snd bit lost k).1 = x ∧ (rrS snd bit lost k).2 = y ∧ (x / 4 ^ k = 4 ∨ x / 4 ^ k = 5) ∧ (y / 4 ^ k = 4 ∨ y / 4 ^ k = 5) := by
  intro k
  induction k with
  | zero =>
    intro _ _
    refine ⟨?_, (4 + bit).toNat, 4, ?_, rfl, ?_, .inl (by simp)⟩
    · show (stV 0 bit, stV 1 bit) = (4 + bit, 4)
      have h0 : stV 0 bit = 4 + bit := by
        have hp : (0 : Int) ≤ 0 ∧ (0 : Int) ≤ 1 ∧ 0 ≤ bit ∧ bit ≤ 1 := by omega
        unfold stV; rw [if_pos hp]; rfl
      have h1 : stV 1 bit = 4 := by
        have hp : (0 : Int) ≤ 1 ∧ (1 : Int) ≤ 1 ∧ 0 ≤ bit ∧ bit ≤ 1 := by omega
        unfold stV; rw [if_pos hp]; rfl
      rw [h0, h1]
    · show 4 + bit = _
      omega
    · rw [Nat.pow_zero, Nat.div_one]; omega
  | succ k ih =>
    intro hT h5
    obtain ⟨he, x, y, hx, hy, hx4, hy4⟩ := ih (by omega) (by omega)
    obtain ⟨l1, l0⟩ := losB_one (hl k (by omega))
    have hp := hs 0 x
    have hq := hs 1 y
    have e1 : (if losB (lost k) 1 then 0 else snd 1 y) = (if lost k / 2 = 1 then 0 else snd 1 y) := by
      by_cases h : losB (lost k) 1 = true
      · rw [if_pos h, if_pos (l1.1 h)]
      · rw [if_neg h, if_neg (fun e => h (l1.2 e))]
    have e0 : (if losB (lost k) 0 then 0 else snd 0 x) = (if lost k % 2 = 1 then 0 else snd 0 x) := by
      by_cases h : losB (lost k) 0 = true
      · rw [if_pos h, if_pos (l0.1 h)]
      · rw [if_neg h, if_neg (fun e => h (l0.2 e))]
    obtain ⟨u, hu⟩ : ∃ u, u = (if lost k / 2 = 1 then 0 else snd 1 y) := ⟨_, rfl⟩
    obtain ⟨v, hv⟩ : ∃ v, v = (if lost k % 2 = 1 then 0 else snd 0 x) := ⟨_, rfl⟩
    have hu3 : 0 ≤ u ∧ u ≤ 3 := by rw [hu]; by_cases h : lost k / 2 = 1 <;> simp only [if_pos, if_neg, h, not_false_eq_true] <;> omega
    have hv3 : 0 ≤ v ∧ v ≤ 3 := by rw [hv]; by_cases h : lost k % 2 = 1 <;> simp only [if_pos, if_neg, h, not_false_eq_true] <;> omega
    have hr : rrS snd bit lost (k + 1) = (4 * (x : Int) + u, 4 * (y : Int) + v) := by
      show (4 * (rrS snd bit lost k).1 + (if lost k / 2 = 1 then 0 else snd 1 (rrS snd bit lost k).2), 4 * (rrS snd bit lost k).2 + (if lost k % 2 = 1 then 0 else snd 0 (rrS snd bit lost k).1)) = _
      rw [hx, hy, ← hu, ← hv]
    have hrun : runS snd bit lost (k + 1) = (afV x u, afV y v) := by
      show (afV (runS snd bit lost k).1 (if losB (lost k) 1 then 0 else snd 1 (runS snd bit lost k).2), afV (runS snd bit lost k).2 (if losB (lost k) 0 then 0 else snd 0 (runS snd bit lost k).1)) = _
      rw [he, hx, hy, e1, e0, ← hu, ← hv]
    refine ⟨by rw [hr, hrun, afV_at (by omega) hx4 hu3, afV_at (by omega) hy4 hv3], 4 * x + u.toNat, 4 * y + v.toNat, by rw [hr]; simp only []; omega, by rw [hr]; simp only []; omega, ?_, ?_⟩
    · rw [div_step (by omega)]; exact hx4
    · rw [div_step (by omega)]; exact hy4
end Go.Proofs.Ytahaimecchdfeaa

/-
  Walks: True, Fact, Not, Common; the lists that occur.
-/
namespace Go.Proofs.Ytahaimecchdfeaa
open Go.RowKit

def foT : List Nd := [.T]
def foF : List Nd := [.F]
def foN : List Nd := [.F, .N 0]
def foC : List Nd := [.T, .F, .C 0 1]
def foD : List Nd := [.T, .F, .N 1, .C 0 2]
theorem ndsOk_of : ∀ {l : List Nd}, (∀ k, k < l.length → ∀ n, l[k]? = some n → n.ok k) → NdsOk l := fun h k n hk => h k (List.getElem?_eq_some_iff.1 hk).1 n hk
theorem foT_can : Can foT := ⟨fun k n h => by
    match k, h with
    | 0, h => injection h with h; subst h; trivial
    | k + 1, h => simp [foT] at h, fun i j n h h' => by
    match i, j, h, h' with
    | 0, 0, _, _ => rfl
    | i + 1, _, h, _ => simp [foT] at h
    | _, j + 1, _, h => simp [foT] at h, by decide, by decide, .leaf 0 .T rfl rfl rfl⟩
theorem foF_can : Can foF := ⟨fun k n h => by
    match k, h with
    | 0, h => injection h with h; subst h; trivial
    | k + 1, h => simp [foF] at h, fun i j n h h' => by
    match i, j, h, h' with
    | 0, 0, _, _ => rfl
    | i + 1, _, h, _ => simp [foF] at h
    | _, j + 1, _, h => simp [foF] at h, by decide, by decide, .leaf 0 .F rfl rfl rfl⟩
theorem foN_can : Can foN := ⟨fun k n h => by
    match k, h with
    | 0, h => injection h with h; subst h; trivial
    | 1, h => injection h with h; subst h; exact Nat.zero_lt_one
    | k + 2, h => simp [foN] at h, fun i j n h h' => by
    match i, j, h, h' with
    | 0, 0, _, _ => rfl
    | 1, 1, _, _ => rfl
    | 0, 1, h, h' => injection h with h; injection h' with h'; subst h; cases h'
    | 1, 0, h, h' => injection h with h; injection h' with h'; subst h; cases h'
    | i + 2, _, h, _ => simp [foN] at h
    | _, j + 2, _, h => simp [foN] at h, by decide, by decide, .one 0 1 0 rfl (.leaf 0 .F rfl rfl rfl) rfl⟩
theorem foC_can : Can foC := ⟨fun k n h => by
    match k, h with
    | 0, h => injection h with h; subst h; trivial
    | 1, h => injection h with h; subst h; trivial
    | 2, h => injection h with h; subst h; exact ⟨Nat.zero_lt_two, Nat.one_lt_two⟩
    | k + 3, h => simp [foC] at h, fun i j n h h' => by
    match i, j, h, h' with
    | 0, 0, _, _ => rfl
    | 1, 1, _, _ => rfl
    | 2, 2, _, _ => rfl
    | 0, 1, h, h' => injection h with h; injection h' with h'; subst h; cases h'
    | 0, 2, h, h' => injection h with h; injection h' with h'; subst h; cases h'
    | 1, 0, h, h' => injection h with h; injection h' with h'; subst h; cases h'
    | 1, 2, h, h' => injection h with h; injection h' with h'; subst h; cases h'
    | 2, 0, h, h' => injection h with h; injection h' with h'; subst h; cases h'
    | 2, 1, h, h' => injection h with h; injection h' with h'; subst h; cases h'
    | i + 3, _, h, _ => simp [foC] at h
    | _, j + 3, _, h => simp [foC] at h, by decide, by decide, .two 0 2 0 1 rfl (.leaf 0 .T rfl rfl rfl) (.leaf 1 .F rfl rfl rfl) rfl⟩
theorem foD_can : Can foD := ⟨fun k n h => by
    match k, h with
    | 0, h => injection h with h; subst h; trivial
    | 1, h => injection h with h; subst h; trivial
    | 2, h => injection h with h; subst h; exact Nat.one_lt_two
    | 3, h => injection h with h; subst h; exact ⟨Nat.zero_lt_succ 2, Nat.lt_succ_self 2⟩
    | k + 4, h => simp [foD] at h, fun i j n h h' => by
    match i, j, h, h' with
    | 0, 0, _, _ => rfl
    | 1, 1, _, _ => rfl
    | 2, 2, _, _ => rfl
    | 3, 3, _, _ => rfl
    | 0, 1, h, h' => injection h with h; injection h' with h'; subst h; cases h'
    | 0, 2, h, h' => injection h with h; injection h' with h'; subst h; cases h'
    | 0, 3, h, h' => injection h with h; injection h' with h'; subst h; cases h'
    | 1, 0, h, h' => injection h with h; injection h' with h'; subst h; cases h'
    | 1, 2, h, h' => injection h with h; injection h' with h'; subst h; cases h'
    | 1, 3, h, h' => injection h with h; injection h' with h'; subst h; cases h'
    | 2, 0, h, h' => injection h with h; injection h' with h'; subst h; cases h'
    | 2, 1, h, h' => injection h with h; injection h' with h'; subst h; cases h'
    | 2, 3, h, h' => injection h with h; injection h' with h'; subst h; cases h'
    | 3, 0, h, h' => injection h with h; injection h' with h'; subst h; cases h'
    | 3, 1, h, h' => injection h with h; injection h' with h'; subst h; cases h'
    | 3, 2, h, h' => injection h with h; injection h' with h'; subst h; cases h'
    | i + 4, _, h, _ => simp [foD] at h
    | _, j + 4, _, h => simp [foD] at h, by decide, by decide, .two 0 3 0 2 rfl (.leaf 0 .T rfl rfl rfl) (.one 1 2 1 rfl (.leaf 1 .F rfl rfl rfl) rfl) rfl⟩
theorem OpsR.empty (w : World) : OpsR w none [] := fun k l h => by simp at h
theorem foTrue_any (w : World) : Calls Try.prog 38 #[] w fun e w' => ∃ v, e = .returned v ∧ NdO w' w.heap.size v foT ∧ Below w.heap.size w w' := by
  have HB : Hid (Calls Try.prog 72 #[.agg #[.int .i64 1, .int .i64 0, .int .i64 0, .int .i64 0, .int .i64 0, .int .i64 0], .slice none 0 0] w fun e w' => ∃ v, e = .returned v ∧ NdO w' w.heap.size v foT ∧ Below w.heap.size w w') := Lib.hid (build_any .T [] none 0 w (OpsR.empty w) (by decide) rfl rfl foT_can)
  go_enter Try.func38, Try.ntmps38
  go_wp2_with (go_at_call 72; refine HB.out.mono ?_; rintro e w1 ⟨v, rfl, ho, hb1⟩; have HB1 := Lib.hid hb1; have HO := Lib.hid ho; clear hb1 ho)
  go_ret
  exact ⟨_, rfl, HO.out, HB1.out⟩
theorem foFact_any (w : World) : Calls Try.prog 35 #[.int .i64 0] w fun e w' => ∃ v, e = .returned v ∧ NdO w' w.heap.size v foF ∧ Below w.heap.size w w' := by
  have HB : Hid (Calls Try.prog 72 #[.agg #[.int .i64 3, .int .i64 0, .int .i64 0, .int .i64 0, .int .i64 0, .int .i64 0], .slice none 0 0] w fun e w' => ∃ v, e = .returned v ∧ NdO w' w.heap.size v foF ∧ Below w.heap.size w w') := Lib.hid (build_any .F [] none 0 w (OpsR.empty w) (by decide) rfl rfl foF_can)
  go_enter Try.func35, Try.ntmps35
  go_wp2_with (go_at_call 72; refine HB.out.mono ?_; rintro e w1 ⟨v, rfl, ho, hb1⟩; have HB1 := Lib.hid hb1; have HO := Lib.hid ho; clear hb1 ho)
  go_ret
  exact ⟨_, rfl, HO.out, HB1.out⟩
theorem OpsR.one {w : World} {fv : Value} {l : List Nd} (h : NdO w 0 fv l) (hc : Can l) : OpsR (w.alloc (.cells #[fv] 56)) (some ⟨w.heap.size, 0, none⟩) [l] := fun k l' hk => by
  match k, hk with
  | 0, hk =>
    injection hk with hk
    subst hk
    exact ⟨_, _, fv, rfl, (Blk.new w #[fv] 56).cell (k := 0) rfl, h.below (below_alloc _ _), hc⟩
  | k + 1, hk => simp at hk
theorem OpsR.two {w : World} {fv gv : Value} {l m : List Nd} (h : NdO w 0 fv l) (hc : Can l) (h2 : NdO w 0 gv m) (hc2 : Can m) : OpsR (w.alloc (.cells #[fv, gv] 56)) (some ⟨w.heap.size, 0, none⟩) [l, m] := fun k l' hk => by
  match k, hk with
  | 0, hk =>
    injection hk with hk
    subst hk
    exact ⟨_, _, fv, rfl, (Blk.new w #[fv, gv] 56).cell (k := 0) rfl, h.below (below_alloc _ _), hc⟩
  | 1, hk =>
    injection hk with hk
    subst hk
    exact ⟨_, _, gv, rfl, (Blk.new w #[fv, gv] 56).cell (k := 1) rfl, h2.below (below_alloc _ _), hc2⟩
  | k + 2, hk => simp at hk
theorem foNot_any (fv : Value) (w : World) (h : NdO w 0 fv foF) : Calls Try.prog 39 #[fv] w fun e w' => ∃ v, e = .returned v ∧ NdO w' w.heap.size v foN ∧ Below w.heap.size w w' := by
  have HB : Hid (Calls Try.prog 72 #[.agg #[.int .i64 4, .int .i64 0, .int .i64 0, .int .i64 0, .int .i64 0, .int .i64 0], .slice (some ⟨w.heap.size, 0, none⟩) 1 1] (w.alloc (.cells #[fv] 56)) fun e w' => ∃ v, e = .returned v ∧ NdO w' (w.alloc (.cells #[fv] 56)).heap.size v foN ∧ Below (w.alloc (.cells #[fv] 56)).heap.size (w.alloc (.cells #[fv] 56)) w') := Lib.hid (build_any (.N 0) [foF] (some ⟨w.heap.size, 0, none⟩) 1 _ (OpsR.one h foF_can) (by decide) rfl rfl foN_can)
  have HA := Lib.hid (below_alloc w (.cells #[fv] 56))
  obtain ⟨A, c, rfl⟩ := h.shape
  clear h
  go_enter Try.func39, Try.ntmps39
  go_wp2_with (go_at_call 72; refine HB.out.mono ?_; rintro e w1 ⟨v, rfl, ho, hb1⟩; have HB1 := Lib.hid (below_trans HA.out hb1); have HO := Lib.hid (ho.mono HA.out.size); clear hb1 ho)
  go_ret
  exact ⟨_, rfl, HO.out, HB1.out⟩
theorem foCommon_one (tv fv : Value) (w : World) (ht : NdO w 0 tv foT) (h : NdO w 0 fv foF) : Calls Try.prog 37 #[.int .i64 3, tv, fv] w fun e w' => ∃ v, e = .returned v ∧ NdO w' w.heap.size v foC ∧ Below w.heap.size w w' := by
  have HB : Hid (Calls Try.prog 72 #[.agg #[.int .i64 13, .int .i64 0, .int .i64 0, .int .i64 3, .int .i64 0, .int .i64 0], .slice (some ⟨w.heap.size, 0, none⟩) 2 2] (w.alloc (.cells #[tv, fv] 56)) fun e w' => ∃ v, e = .returned v ∧ NdO w' (w.alloc (.cells #[tv, fv] 56)).heap.size v foC ∧ Below (w.alloc (.cells #[tv, fv] 56)).heap.size (w.alloc (.cells #[tv, fv] 56)) w') := Lib.hid (build_any (.C 0 1) [foT, foF] (some ⟨w.heap.size, 0, none⟩) 2 _ (OpsR.two ht foT_can h foF_can) (by decide) rfl rfl foC_can)
  have HA := Lib.hid (below_alloc w (.cells #[tv, fv] 56))
  obtain ⟨A, c, rfl⟩ := h.shape
  obtain ⟨A1, c1, rfl⟩ := ht.shape
  clear h ht
  go_enter Try.func37, Try.ntmps37
  go_wp2_with (go_at_call 72; refine HB.out.mono ?_; rintro e w1 ⟨v, rfl, ho, hb1⟩; have HB1 := Lib.hid (below_trans HA.out hb1); have HO := Lib.hid (ho.mono HA.out.size); clear hb1 ho)
  go_ret
  exact ⟨_, rfl, HO.out, HB1.out⟩
theorem foCommon_two (tv fv : Value) (w : World) (ht : NdO w 0 tv foT) (h : NdO w 0 fv foN) : Calls Try.prog 37 #[.int .i64 3, tv, fv] w fun e w' => ∃ v, e = .returned v ∧ NdO w' w.heap.size v foD ∧ Below w.heap.size w w' := by
  have HB : Hid (Calls Try.prog 72 #[.agg #[.int .i64 13, .int .i64 0, .int .i64 0, .int .i64 3, .int .i64 0, .int .i64 0], .slice (some ⟨w.heap.size, 0, none⟩) 2 2] (w.alloc (.cells #[tv, fv] 56)) fun e w' => ∃ v, e = .returned v ∧ NdO w' (w.alloc (.cells #[tv, fv] 56)).heap.size v foD ∧ Below (w.alloc (.cells #[tv, fv] 56)).heap.size (w.alloc (.cells #[tv, fv] 56)) w') := Lib.hid (build_any (.C 0 2) [foT, foN] (some ⟨w.heap.size, 0, none⟩) 2 _ (OpsR.two ht foT_can h foN_can) (by decide) rfl rfl foD_can)
  have HA := Lib.hid (below_alloc w (.cells #[tv, fv] 56))
  obtain ⟨A, c, rfl⟩ := h.shape
  obtain ⟨A1, c1, rfl⟩ := ht.shape
  clear h ht
  go_enter Try.func37, Try.ntmps37
  go_wp2_with (go_at_call 72; refine HB.out.mono ?_; rintro e w1 ⟨v, rfl, ho, hb1⟩; have HB1 := Lib.hid (below_trans HA.out hb1); have HO := Lib.hid (ho.mono HA.out.size); clear hb1 ho)
  go_ret
  exact ⟨_, rfl, HO.out, HB1.out⟩
end Go.Proofs.Ytahaimecchdfeaa

/-
  Walks of the reference: SamePoints, SameExchange.
-/
namespace Go.Proofs.Ytahaimecchdfeaa
open Go.RowKit

/-- A slice of points, read. -/
def PtS (w : World) (A : Option Addr) (n : Nat) (X Y : Nat → Int) : Prop :=
  ∀ k, k < n → ∃ b off, A = some ⟨b, off, none⟩ ∧ w.cell? ⟨b, off + k * 2, none⟩ = some (.int .i64 (X k)) ∧ w.cell? ⟨b, off + k * 2 + 1, none⟩ = some (.int .i64 (Y k))
theorem PtS.below {w w' : World} {A : Option Addr} {n : Nat} {X Y : Nat → Int} (h : PtS w A n X Y) (hb : Below w.heap.size w w') : PtS w' A n X Y := fun k hk =>
  let ⟨b, off, e, h1, h2⟩ := h k hk; ⟨b, off, e, cell_below hb h1, cell_below hb h2⟩
theorem PnO.pts {w : World} {base : Nat} {A : Option Addr} {c n : Nat} {l : List (Nat × Nat)} (h : PnO w base (.slice A n c) l) : PtS w A l.length (fun k => ((l.getD k (0, 0)).1 : Nat)) (fun k => ((l.getD k (0, 0)).2 : Nat)) := fun k hk => by
  obtain ⟨p, hp⟩ : ∃ p, l[k]? = some p := ⟨_, List.getElem?_eq_getElem hk⟩
  obtain ⟨b, c', e, h1, h2⟩ := pnO_at h hp
  injection e with e
  refine ⟨b, 0, e, ?_, ?_⟩
  · rw [Nat.zero_add]; dsimp only; rw [List.getD_eq_getElem?_getD, hp]; exact h1
  · rw [Nat.zero_add]; dsimp only; rw [List.getD_eq_getElem?_getD, hp]; exact h2
theorem pointNeq (x y r t : Int) (w : World) : (binOp .neq 26 (.agg #[.int .i64 x, .int .i64 y]) (.agg #[.int .i64 r, .int .i64 t])).run Try.prog w = .ok (.bool (!(x == r && y == t))) w := by
  have u3 := Try.underlying3
  have hS : Try.prog.underlying 26 = some (.struct (Try.prog.fieldsOf 26)) := by kernel_rfl
  have hp : Try.prog.stoodInHeld 26 = false := by kernel_rfl
  rw [run_neq_struct, show (10000 : Nat) = 9999 + 1 from rfl, run_equalIn_agg w 9999 26 _ _ hS hp]
  simp only [Program.fieldsOf, Try.underlying26]
  go_simp
  by_cases h1 : x = r <;> by_cases h2 : y = t <;> simp [h1, h2]
theorem ruleNeq (x y z r s t : Int) (w : World) : (binOp .neq 71 (.agg #[.int .i64 x, .int .i64 y, .int .i64 z]) (.agg #[.int .i64 r, .int .i64 s, .int .i64 t])).run Try.prog w = .ok (.bool (!(x == r && (y == s && z == t)))) w := by
  have u3 := Try.underlying3
  have hS : Try.prog.underlying 71 = some (.struct (Try.prog.fieldsOf 71)) := by kernel_rfl
  have hp : Try.prog.stoodInHeld 71 = false := by kernel_rfl
  rw [run_neq_struct, show (10000 : Nat) = 9999 + 1 from rfl, run_equalIn_agg w 9999 71 _ _ hS hp]
  simp only [Program.fieldsOf, Try.underlying71]
  go_simp
  by_cases h1 : x = r <;> by_cases h2 : y = s <;> by_cases h3 : z = t <;> simp [h1, h2, h3]
/-- Two lists of points are the same. -/
def SamPt (n : Nat) (X Y : Nat → Int) (n' : Nat) (X' Y' : Nat → Int) : Prop := n = n' ∧ ∀ k, k < n → X k = X' k ∧ Y k = Y' k
set_option maxHeartbeats 4000000 in
theorem SamePoints_any (A A' : Option Addr) (n n' c c' : Nat) (X Y X' Y' : Nat → Int) (w : World) (h : PtS w A n X Y) (h' : PtS w A' n' X' Y') (hn : n ≤ 65536) (B : Bool) (hB : B = true ↔ SamPt n X Y n' X' Y') :
    Calls Try.prog 20 #[.slice A n c, .slice A' n' c'] w fun e w' => e = .returned (.bool B) ∧ Below w.heap.size w w' := by
  have HX := Lib.hid h
  have HY := Lib.hid h'
  have HNO := Lib.hid (fun (h : ¬ SamPt n X Y n' X' Y') => (Bool.eq_false_iff.2 (fun e => h (hB.1 e)) : B = false))
  have HYE := Lib.hid hB.2
  clear h h' hB
  go_enter Try.func20, Try.ntmps20
  by_cases h1 : n = n'
  case neg =>
    have t1 : ((n : Int) != (n' : Int)) = true := by rw [bne_iff_ne]; omega
    have HV := Lib.hid (HNO.out (fun h => h1 h.1))
    clear h1 HNO HYE
    go_wp2_with fail
    go_ret
    exact ⟨by rw [HV.out]; rfl, Below.refl _ _⟩
  subst h1
  go_wp2_with fail
  go_loopw [5] (fun iv wr => ∃ t : Nat, t ≤ n ∧ iv = .int .i64 t ∧ Hid (∀ u, u < t → X u = X' u ∧ Y u = Y' u) ∧ Below w.heap.size w wr) (fun iv _ => n - (intOf iv).toNat)
  case atStart => exact ⟨0, Nat.zero_le _, rfl, Lib.hid fun u hu => absurd hu (Nat.not_lt_zero _), Below.refl _ _⟩
  case round =>
    obtain ⟨t, ht, rfl, HP, hbl⟩ := hrel
    have HBL := Lib.hid hbl
    by_cases hlt : t < n
    · obtain ⟨b, off, rfl, x0, x1⟩ := HX.out.below hbl t hlt
      obtain ⟨b', off', rfl, y0, y1⟩ := HY.out.below hbl t hlt
      have hti : (t : Int) < (n : Int) := by omega
      by_cases he : X t = X' t ∧ Y t = Y' t
      · have HNX : Hid (∀ u, u < t + 1 → X u = X' u ∧ Y u = Y' u) := Lib.hid fun u hu => by
          rcases Nat.lt_succ_iff_lt_or_eq.1 hu with h1 | rfl
          · exact HP.out u h1
          · exact he
        rw [← he.1] at y0
        rw [← he.2] at y1
        obtain ⟨p, ep⟩ : ∃ p, p = X t := ⟨_, rfl⟩
        obtain ⟨q, eq⟩ : ∃ q, q = Y t := ⟨_, rfl⟩
        rw [← ep] at x0 y0
        rw [← eq] at x1 y1
        have hq1 : ∀ w, (binOp .neq 26 (.agg #[.int .i64 p, .int .i64 q]) (.agg #[.int .i64 p, .int .i64 q])).run Try.prog w = .ok (.bool false) w := fun w => by rw [pointNeq]; simp
        clear hbl he ep eq HP
        go_wp2_with fail
        go_quiet (fail)
        go_wp2_with fail
        go_roundw
        case rel => exact ⟨t + 1, by omega, by go_num, HNX, below_drewN HBL.out _⟩
        case measure => simp [intOf]; omega
      · have HV := Lib.hid (HNO.out (fun h => he (h.2 t hlt)))
        have hne : ¬ (X t = X' t ∧ Y t = Y' t) := he
        obtain ⟨p, ep⟩ : ∃ p, p = X t := ⟨_, rfl⟩
        obtain ⟨q, eq⟩ : ∃ q, q = Y t := ⟨_, rfl⟩
        obtain ⟨p', ep'⟩ : ∃ p, p = X' t := ⟨_, rfl⟩
        obtain ⟨q', eq'⟩ : ∃ q, q = Y' t := ⟨_, rfl⟩
        rw [← ep, ← eq, ← ep', ← eq'] at hne
        rw [← ep] at x0
        rw [← eq] at x1
        rw [← ep'] at y0
        rw [← eq'] at y1
        have hq1 : ∀ w, (binOp .neq 26 (.agg #[.int .i64 p, .int .i64 q]) (.agg #[.int .i64 p', .int .i64 q'])).run Try.prog w = .ok (.bool true) w := fun w => by
          rw [pointNeq]
          by_cases h : p = p' <;> by_cases h2 : q = q' <;> simp [h, h2]
          exact hne ⟨h, h2⟩
        clear hbl he ep eq ep' eq' hne HP
        go_wp2_with fail
        go_quiet (fail)
        go_wp2_with fail
        go_ret
        exact ⟨by rw [HV.out]; rfl, below_drewN HBL.out _⟩
    · obtain rfl : t = n := by omega
      have htt : ¬ (t : Int) < (t : Int) := by omega
      have HV := Lib.hid (HYE.out ⟨rfl, HP.out⟩)
      clear hbl HP
      go_wp2_with fail
      go_ret
      exact ⟨by rw [HV.out]; rfl, HBL.out⟩
/-- Two exchanges are the same. -/
def SamEx (R : Int) (n : Nat) (fa fh fm : Nat → Int) (R' : Int) (n' : Nat) (fa' fh' fm' : Nat → Int) : Prop := R = R' ∧ n = n' ∧ ∀ k, k < n → fa k = fa' k ∧ fh k = fh' k ∧ fm k = fm' k
set_option maxHeartbeats 4000000 in
theorem SameExchange_any (R R' : Int) (A A' : Option Addr) (n n' c c' : Nat) (fa fh fm fa' fh' fm' : Nat → Int) (w : World) (h : RuleS w A n fa fh fm) (h' : RuleS w A' n' fa' fh' fm') (hn : n ≤ 65536) (B : Bool) (hB : B = true ↔ SamEx R n fa fh fm R' n' fa' fh' fm') :
    Calls Try.prog 32 #[.agg #[.int .i64 R, .slice A n c], .agg #[.int .i64 R', .slice A' n' c']] w fun e w' => e = .returned (.bool B) ∧ Below w.heap.size w w' := by
  have HX := Lib.hid h
  have HY := Lib.hid h'
  have HNO := Lib.hid (fun (h : ¬ SamEx R n fa fh fm R' n' fa' fh' fm') => (Bool.eq_false_iff.2 (fun e => h (hB.1 e)) : B = false))
  have HYE := Lib.hid hB.2
  clear h h' hB
  go_enter Try.func32, Try.ntmps32
  go_upto_region 1 with (fail)
  obtain ⟨W, hW⟩ : ∃ W, W = (w.alloc (.cells #[.int .i64 R, .slice A n c] 43)).alloc (.cells #[.int .i64 R', .slice A' n' c'] 43) := ⟨_, rfl⟩
  rw [← hW]
  obtain ⟨d0, d1, e0, e1, hB⟩ := two_boxes w _ _ _ _ _ _ W hW
  have HB := Lib.hid hB
  clear hW hB
  by_cases h0 : R = R'
  case neg =>
    have t1 : (R != R') = true := by rw [bne_iff_ne]; exact h0
    have HV := Lib.hid (HNO.out (fun h => h0 h.1))
    clear h0 HNO HYE
    go_wp2_with fail
    go_ret
    exact ⟨by rw [HV.out]; rfl, HB.out⟩
  subst h0
  have t1 : (R != R) = false := by simp
  by_cases h1 : n = n'
  case neg =>
    have t2 : ((n : Int) != (n' : Int)) = true := by rw [bne_iff_ne]; omega
    have HV := Lib.hid (HNO.out (fun h => h1 h.2.1))
    clear h1 HNO HYE
    go_wp2_with fail
    go_ret
    exact ⟨by rw [HV.out]; rfl, HB.out⟩
  subst h1
  have D1 := Lib.hid d1
  have E1 := Lib.hid e1
  have hsz := HB.out.size
  go_wp2_with fail
  clear d0 d1 e0 e1
  go_loopw [5] (fun iv wr => ∃ t : Nat, t ≤ n ∧ iv = .int .i64 t ∧ Hid (∀ u, u < t → fa u = fa' u ∧ fh u = fh' u ∧ fm u = fm' u) ∧ Below W.heap.size W wr) (fun iv _ => n - (intOf iv).toNat)
  case atStart => exact ⟨0, Nat.zero_le _, rfl, Lib.hid fun u hu => absurd hu (Nat.not_lt_zero _), Below.refl _ _⟩
  case round =>
    obtain ⟨t, ht, rfl, HP, hbl⟩ := hrel
    have HBL := Lib.hid hbl
    have d1 := cell_below hbl D1.out
    have e1 := cell_below hbl E1.out
    by_cases hlt : t < n
    · obtain ⟨b, off, rfl, x0, x1, x2, -, -, -⟩ := (HX.out.below HB.out).below hbl t hlt
      obtain ⟨b', off', rfl, y0, y1, y2, -, -, -⟩ := (HY.out.below HB.out).below hbl t hlt
      have hti : (t : Int) < (n : Int) := by omega
      obtain ⟨p, ep⟩ : ∃ p, p = fa t := ⟨_, rfl⟩
      obtain ⟨q, eq⟩ : ∃ q, q = fh t := ⟨_, rfl⟩
      obtain ⟨r, er⟩ : ∃ r, r = fm t := ⟨_, rfl⟩
      rw [← ep] at x0
      rw [← eq] at x1
      rw [← er] at x2
      by_cases he : fa t = fa' t ∧ fh t = fh' t ∧ fm t = fm' t
      · have HNX : Hid (∀ u, u < t + 1 → fa u = fa' u ∧ fh u = fh' u ∧ fm u = fm' u) := Lib.hid fun u hu => by
          rcases Nat.lt_succ_iff_lt_or_eq.1 hu with h1 | rfl
          · exact HP.out u h1
          · exact he
        rw [← he.1, ← ep] at y0
        rw [← he.2.1, ← eq] at y1
        rw [← he.2.2, ← er] at y2
        have hq1 : ∀ w, (binOp .neq 71 (.agg #[.int .i64 p, .int .i64 q, .int .i64 r]) (.agg #[.int .i64 p, .int .i64 q, .int .i64 r])).run Try.prog w = .ok (.bool false) w := fun w => by rw [ruleNeq]; simp
        clear hbl he ep eq er HP
        go_wp2_with fail
        go_quiet (fail)
        go_wp2_with fail
        go_roundw
        case rel => exact ⟨t + 1, by omega, by go_num, HNX, below_drewN HBL.out _⟩
        case measure => simp [intOf]; omega
      · have HV := Lib.hid (HNO.out (fun h => he (h.2.2 t hlt)))
        have hne := he
        obtain ⟨p', ep'⟩ : ∃ p, p = fa' t := ⟨_, rfl⟩
        obtain ⟨q', eq'⟩ : ∃ q, q = fh' t := ⟨_, rfl⟩
        obtain ⟨r', er'⟩ : ∃ q, q = fm' t := ⟨_, rfl⟩
        rw [← ep, ← eq, ← er, ← ep', ← eq', ← er'] at hne
        rw [← ep'] at y0
        rw [← eq'] at y1
        rw [← er'] at y2
        have hq1 : ∀ w, (binOp .neq 71 (.agg #[.int .i64 p, .int .i64 q, .int .i64 r]) (.agg #[.int .i64 p', .int .i64 q', .int .i64 r'])).run Try.prog w = .ok (.bool true) w := fun w => by
          rw [ruleNeq]
          by_cases h : p = p' <;> by_cases h2 : q = q' <;> by_cases h3 : r = r' <;> simp [h, h2, h3]
          exact hne ⟨h, h2, h3⟩
        clear hbl he ep eq er ep' eq' er' hne HP
        go_wp2_with fail
        go_quiet (fail)
        go_wp2_with fail
        go_ret
        exact ⟨by rw [HV.out]; rfl, below_drewN (HB.out.trans (HBL.out.mono hsz)) _⟩
    · obtain rfl : t = n := by omega
      have htt : ¬ (t : Int) < (t : Int) := by omega
      have HV := Lib.hid (HYE.out ⟨rfl, rfl, HP.out⟩)
      clear hbl HP
      go_wp2_with fail
      go_ret
      exact ⟨by rw [HV.out]; rfl, HB.out.trans (HBL.out.mono hsz)⟩
end Go.Proofs.Ytahaimecchdfeaa
