/-
  Plain facts of layer 54: the lists of masks that the lossy channel goes through; what the walk of its closure holds.
-/
import Derived.Test.YtgnkeecjaffnaaaProg
import Derived.Test.YtgnkeecjaffnaaaBase
import Derived.Test.YtgnkeecjaffnaaaRow
import Derived.Test.YtgnkeecjaffnaaaRowsOf
import Derived.Test.YtgnkeecjaffnaaaPc
import Derived.Test.YtgnkeecjaffnaaaPd
import Derived.Test.YtgnkeecjaffnaaaPrP
import Derived.Test.YtgnkeecjaffnaaaPrB
import Derived.Test.YtgnkeecjaffnaaaPrE
namespace Go.Proofs.Ytgnkeecjaffnaaa
open Go.RowKit

def lf (l : List Int) : Nat → Int := fun k => l.getD k 0
theorem lf_append (l : List Int) (x : Int) : i64L (lf (l ++ [x])) (l.length + 1) = i64L (lf l) l.length ++ [.int .i64 x] := by
  rw [i64L_succ]
  congr 1
  · refine i64L_congr fun k hk => ?_
    unfold lf; simp [List.getD_eq_getElem?_getD, List.getElem?_append_left hk]
  · unfold lf; simp
theorem lf_snoc {ls : List Int} {x : Int} (hm : ∀ k, k < ls.length → 0 ≤ lf ls k ∧ lf ls k ≤ 3) (hx : 0 ≤ x ∧ x ≤ 3) : ∀ k, k < ls.length + 1 → 0 ≤ lf (ls ++ [x]) k ∧ lf (ls ++ [x]) k ≤ 3 := fun k hk => by
  rcases Nat.lt_succ_iff_lt_or_eq.1 hk with h | rfl
  · have := hm k h
    have e : lf (ls ++ [x]) k = lf ls k := by unfold lf; simp [List.getD_eq_getElem?_getD, List.getElem?_append_left h]
    rw [e]; exact this
  · have e : lf (ls ++ [x]) ls.length = x := by unfold lf; simp
    rw [e]; exact hx
/-- Whether a mask loses only messages of agents that send. -/
def bitsOk (x who : Int) : Bool := bits .andNot .i64 x who == 0
/-- The lists of masks that are gone through from a list, with so many rounds left. -/
def gen (snd : Int → Int → Int) (bit : Int) : Nat → List Int → List (List Int)
  | 0, l => [l]
  | d + 1, l => ([0, 2, 1, 3] : List Int).flatMap fun x => if bitsOk x (runW snd bit (lf (l ++ [0])) l.length) then gen snd bit d (l ++ [x]) else []
def mkR (snd : Int → Int → Int) (p : Int × List Int) : RunD := ⟨p.2.length + 1, fun _ => 2, runL snd p.1 (lf p.2), p.2.length + 1, fun _ => p.1.toNat⟩
/-- The runs behind a call of the closure. -/
def genT (snd : Int → Int → Int) (bit : Int) (d : Nat) (l : List Int) (rs : List (Int × List Int)) : List (Int × List Int) := (rs ++ (gen snd bit d l).map fun x => (bit, x)).take 65
theorem genT_full {snd : Int → Int → Int} {bit : Int} {d : Nat} {l : List Int} {rs : List (Int × List Int)} (h : rs.length = 65) : genT snd bit d l rs = rs := by
  unfold genT; rw [List.take_append_of_le_length (by omega), List.take_of_length_le (by omega)]
theorem genT_leaf {snd : Int → Int → Int} {bit : Int} {l : List Int} {rs : List (Int × List Int)} (h : rs.length ≤ 64) : genT snd bit 0 l rs = rs ++ [(bit, l)] := by
  unfold genT gen; rw [List.take_of_length_le (by simp; omega)]; rfl
/-- .. in the loop over the masks, behind the first i. -/
def genK (snd : Int → Int → Int) (bit : Int) (d : Nat) (l : List Int) (rs : List (Int × List Int)) (i : Nat) : List (Int × List Int) :=
  (rs ++ ((([0, 2, 1, 3] : List Int).take i).flatMap fun x => if bitsOk x (runW snd bit (lf (l ++ [0])) l.length) then gen snd bit d (l ++ [x]) else []).map fun x => (bit, x)).take 65
theorem genK_zero {snd : Int → Int → Int} {bit : Int} {d : Nat} {l : List Int} {rs : List (Int × List Int)} (h : rs.length ≤ 65) : genK snd bit d l rs 0 = rs := by
  unfold genK; rw [List.take_zero, List.flatMap_nil, List.map_nil, List.append_nil, List.take_of_length_le h]
theorem genK_four {snd : Int → Int → Int} {bit : Int} {d : Nat} {l : List Int} {rs : List (Int × List Int)} : genK snd bit d l rs 4 = genT snd bit (d + 1) l rs := rfl
theorem take_take_append {α : Type} (a b : List α) (n : Nat) : (a.take n ++ b).take n = (a ++ b).take n := by
  rw [List.take_append, List.take_append, List.take_take, Nat.min_self, List.length_take]
  by_cases h : n ≤ a.length
  · rw [Nat.min_eq_left h, Nat.sub_self, show n - a.length = 0 from by omega]
  · rw [Nat.min_eq_right (by omega)]
theorem genK_yes {snd : Int → Int → Int} {bit : Int} {d i : Nat} {l : List Int} {rs : List (Int × List Int)} {x : Int} (hx : ([0, 2, 1, 3] : List Int)[i]? = some x) (hb : bitsOk x (runW snd bit (lf (l ++ [0])) l.length) = true) :
    genK snd bit d l rs (i + 1) = genT snd bit d (l ++ [x]) (genK snd bit d l rs i) := by
  have e : ([0, 2, 1, 3] : List Int).take (i + 1) = ([0, 2, 1, 3] : List Int).take i ++ [x] := by rw [List.take_add_one, hx]; rfl
  unfold genK genT
  rw [take_take_append, e, List.flatMap_append, List.map_append, List.append_assoc]
  simp [hb]
theorem genK_no {snd : Int → Int → Int} {bit : Int} {d i : Nat} {l : List Int} {rs : List (Int × List Int)} {x : Int} (hx : ([0, 2, 1, 3] : List Int)[i]? = some x) (hb : bitsOk x (runW snd bit (lf (l ++ [0])) l.length) = false) :
    genK snd bit d l rs (i + 1) = genK snd bit d l rs i := by
  have e : ([0, 2, 1, 3] : List Int).take (i + 1) = ([0, 2, 1, 3] : List Int).take i ++ [x] := by rw [List.take_add_one, hx]; rfl
  unfold genK
  rw [e, List.flatMap_append]
  simp [hb]
theorem genT_le (snd : Int → Int → Int) (bit : Int) (d : Nat) (l : List Int) (rs : List (Int × List Int)) : (genT snd bit d l rs).length ≤ 65 := by unfold genT; simp; omega
theorem genK_le (snd : Int → Int → Int) (bit : Int) (d : Nat) (l : List Int) (rs : List (Int × List Int)) (i : Nat) : (genK snd bit d l rs i).length ≤ 65 := by unfold genK; simp; omega

/-- What the walk of the closure holds: the boxes of the system, the protocol, the closure; the runs. -/
structure LosI (w0 w : World) (bS bE bF T : Nat) (eA fv vR : Value) (ps : List RunD) : Prop where
  below : Below w0.heap.size w0 w
  hS : Blk w bS 44 #[.int .i64 2, .int .i64 1, .int .i64 ((T : Int) + 1), vR]
  hE : Blk w bE 41 #[.int .i64 T, eA]
  hF : Blk w bF 71 #[fv]
  ge : w0.heap.size ≤ bS
  runs : RunsO w w0.heap.size vR ps
section
variable {w0 w w1 : World} {bS bE bF T : Nat} {eA fv vR : Value} {ps : List RunD}
theorem LosI.keep (h : LosI w0 w bS bE bF T eA fv vR ps) (hb : Below w.heap.size w w1) : LosI w0 w1 bS bE bF T eA fv vR ps :=
  ⟨h.below.trans (hb.mono h.below.size), h.hS.below hb, h.hE.below hb, h.hF.below hb, h.ge, h.runs.below hb⟩
theorem LosI.box (h : LosI w0 w bS bE bF T eA fv vR ps) {rows : List Value} {N : Nat} {o : Obj} (ho : w.ownsRow w0.heap.size 30 2 vR N rows) (hg : (w.alloc o).grownBy w1 vR.ownBlock) :
    w1.cell? ⟨bS, 3, none⟩ = some vR ∧ w1.frozen? ⟨bS, 3, none⟩ = false := by
  have hb := below_alloc w o
  have hS1 := (h.hS.below hb).kept hg ((h.hS.below hb).ne_row' (own_alloc' ho o) (by decide))
  exact ⟨hS1.cell rfl, hS1.frozen⟩
/-- A run is appended, and the system's box is written. -/
theorem LosI.grow (h : LosI w0 w bS bE bF T eA fv vR ps) {rows : List Value} {x y v' : Value} {d : RunD} {o : Obj} (ho : w.ownsRow w0.heap.size 30 2 vR ps.length rows)
    (hr : ∀ i d, ps[i]? = some d → ∃ x y, rows[i * 2]? = some x ∧ rows[i * 2 + 1]? = some y ∧ d.owned w w0.heap.size (.agg #[x, y])) (hd : d.owned w w0.heap.size (.agg #[x, y]))
    (hown : w1.ownsRow w0.heap.size 30 2 v' (ps.length + 1) (rows ++ [x, y])) (hg : (w.alloc o).grownBy w1 vR.ownBlock) :
    LosI w0 (w1.setCell ⟨bS, 3, none⟩ v') bS bE bF T eA fv v' (ps ++ [d]) ∧ Keeps w (w1.setCell ⟨bS, 3, none⟩ v') 3 := by
  have hb := below_alloc w o
  have ho1 := own_alloc' ho o
  have hlt := ho1.lt
  have hsz : (w.alloc o).heap.size = w.heap.size + 1 := by simp
  have hS1 := (h.hS.below hb).kept hg ((h.hS.below hb).ne_row' ho1 (by decide))
  have hE1 := (h.hE.below hb).kept hg ((h.hE.below hb).ne_row' ho1 (by decide))
  have hF1 := (h.hF.below hb).kept hg ((h.hF.below hb).ne_row' ho1 (by decide))
  have hR1 := RunsO.push ho hr hd hown hg
  refine ⟨⟨((h.below.alloc h.below.size o).grown hg (by have := h.below.size; omega) (fun k hk => (hlt k hk).1)).setCell (p := ⟨bS, 3, none⟩) h.ge _, hS1.set 3 v', hE1.set_ne (hE1.ne hS1 (by decide)) _ _, hF1.set_ne (hF1.ne hS1 (by decide)) _ _, h.ge, ?_⟩, ?_⟩
  · exact hR1.keeps (.of_set hS1 (by decide) _ _) (.of_set hS1 (by decide) _ _) (.of_set hS1 (by decide) _ _) (.of_set hS1 (by decide) _ _)
  · exact ((Keeps.of_below hb _).trans (Keeps.of_grown hg ho1 (by decide))).trans (.of_set hS1 (by decide) _ _)
end
/-- What the closure leaves. -/
def ListPost (w0 w : World) (bS bE bF T : Nat) (eA fv : Value) (ps : List RunD) (e : Ending) (w' : World) : Prop :=
  e = .returned (.tuple #[]) ∧ (∃ vR, LosI w0 w' bS bE bF T eA fv vR ps) ∧ Keeps w w' 3
end Go.Proofs.Ytgnkeecjaffnaaa
