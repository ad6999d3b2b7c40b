/-
  Plain facts for the walks: a region that draws its order, whose operations but the last few only read: the cheap quiet steps, then the tail.
-/
import Derived.Test.YtgnkeecjaffnaaaProg
import Derived.Test.YtgnkeecjaffnaaaBase
import Derived.StillTailTactics
import Derived.BigQuiet
namespace Go.Proofs.Ytgnkeecjaffnaaa
open Go.RowKit

theorem still_of_quiet {P : Program} {o : Oper} {a : Act} {w : World} {K : Act → Prop} (h : o.quiet P a (fun x => x = w) K) : o.still P a w K := by
  obtain ⟨v, h1, h2⟩ := h
  have h3 := h1 w rfl
  unfold Oper.quietAt at h3
  unfold Oper.still
  generalize (execOp a.eval o).run P w = r at h3
  cases r with
  | halt x w' => exact h3
  | ok n w' =>
    cases n with
    | value u => obtain ⟨e1, e2⟩ := h3; exact ⟨e1, by rw [e2]; exact h2⟩
    | skip => obtain ⟨e1, e2⟩ := h3; exact ⟨e1, by rw [← e2]; exact h2⟩
    | enter f args => obtain ⟨e1, e2⟩ := h3; exact ⟨e1, v, e2, h2⟩
    | _ => exact h3
theorem wpStill_of_quiet {P : Program} {ops : Array Oper} {w : World} {Q : Act → Prop} : ∀ (l : List Oper) (a : Act), wpQuiet P ops (fun x => x = w) Q l a → wpStill P ops w Q l a
  | [], _, h => h
  | o :: rest, a, h => by
    unfold wpQuiet at h
    unfold wpStill
    split
    · rename_i hw
      rw [if_pos hw] at h
      refine still_of_quiet ?_
      exact Oper.quiet_mono (fun a' h' => wpStill_of_quiet rest a' h') h
    · rename_i hw
      rw [if_neg hw] at h
      exact wpStill_of_quiet rest _ h
theorem wp_region_quiet_tail {P : Program} {id : Nat} {Q : Exit → Act → World → Prop} {a : Act} {w : World} {l : List Oper} (n : Nat) (hm : P.follows .mixedOrders = true) (hB : Region.lexTailB .any l.toArray n = true)
    (h : wpQuiet P l.toArray (fun x => x = w.drew) (fun a' => wpList P l.toArray Q (l.drop n) a' w.drew) (l.take n) a) : (Code.region id l.toArray true).wp P Q a w :=
  wp_region_still_tail n hm hB (wpStill_of_quiet _ _ h)
end Go.Proofs.Ytgnkeecjaffnaaa
