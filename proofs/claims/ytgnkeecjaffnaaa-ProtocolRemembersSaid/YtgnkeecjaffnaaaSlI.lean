/-
  Walks: slices.Equal for ints.
-/
import Derived.Test.YtgnkeecjaffnaaaProg
import Derived.Test.YtgnkeecjaffnaaaBase
import Derived.Test.YtgnkeecjaffnaaaRow
namespace Go.Proofs.Ytgnkeecjaffnaaa
open Go.RowKit

def eqI (n m : Nat) (f g : Nat → Int) : Bool := n == m && allB n (fun i => f i == g i)
theorem eqI_iff {n m : Nat} {f g : Nat → Int} : eqI n m f g = true ↔ n = m ∧ ∀ i, i < n → f i = g i := by
  unfold eqI; rw [Bool.and_eq_true, allB_iff]; simp only [beq_iff_eq]
set_option maxHeartbeats 1000000 in
theorem equalI_any (A B : Option Addr) (n m c d : Nat) (f g : Nat → Int) (w : World) (hA : I64s w A n f) (hB : I64s w B m g) (hn : n ≤ 9223372036854775807) (hm : m ≤ 9223372036854775807) :
    Calls Try.prog 70 #[.slice A n c, .slice B m d] w fun e w' => e = .returned (.bool (eqI n m f g)) ∧ Below w.heap.size w w' := by
  have HA := Lib.hid hA
  have HB := Lib.hid hB
  clear hA hB
  by_cases hnm : n = m
  · subst hnm
    have HE := Lib.hid (show eqI n n f g = allB n (fun i => f i == g i) by unfold eqI; simp)
    go_enter Try.func70, Try.ntmps70
    go_wp2
    go_loopw [13] (fun i wr => ∃ v : Nat, v ≤ n ∧ i = .int .i64 v ∧ Below w.heap.size w wr ∧ Hid (∀ u, u < v → (f u == g u) = true)) (fun i _ => n - (intOf i).toNat)
    case atStart => exact ⟨0, Nat.zero_le _, rfl, Below.refl _ _, Lib.hid fun u h => absurd h (Nat.not_lt_zero _)⟩
    case round =>
      obtain ⟨v, hv, rfl, hbl, HI⟩ := hrel
      by_cases hlt : v < n
      · obtain ⟨b, off, rfl, hc, hr1, hr2⟩ := HA.out.below hbl v hlt
        obtain ⟨b2, off2, rfl, hc2, hr3, hr4⟩ := HB.out.below hbl v hlt
        have hvb : (v : Int) < (n : Int) := by omega
        have HBL := Lib.hid hbl
        clear hbl
        obtain ⟨x, ex⟩ : ∃ x, x = f v := ⟨_, rfl⟩
        obtain ⟨y, ey⟩ : ∃ y, y = g v := ⟨_, rfl⟩
        rw [← ex] at hc hr1 hr2
        rw [← ey] at hc2 hr3 hr4
        have EX := Lib.hid ex
        have EY := Lib.hid ey
        clear ex ey
        by_cases he : x = y
        · have h1 : (x != y) = false := by rw [he]; simp
          have HI2 : Hid (∀ u, u < v + 1 → (f u == g u) = true) := Lib.hid fun u h => by
            rcases Nat.lt_succ_iff_lt_or_eq.1 h with h3 | rfl
            · exact HI.out u h3
            · rw [← EX.out, ← EY.out, he]; simp
          clear he
          go_wp2_with fail
          go_quiet (fail)
          go_wp2_with fail
          go_roundw
          case rel => exact ⟨v + 1, by omega, by go_num, below_drewN HBL.out _, HI2⟩
          case measure => simp [intOf]; omega
        · have h1 : (x != y) = true := bne_iff_ne.2 he
          have HF := Lib.hid (show allB n (fun i => f i == g i) = false from not_all (p := fun i => f i == g i) hlt (by rw [← EX.out, ← EY.out]; exact beq_eq_false_iff_ne.2 he))
          clear he
          go_wp2_with fail
          go_quiet (fail)
          go_wp2_with fail
          go_ret
          exact ⟨by rw [HE.out, HF.out]; rfl, below_drewN HBL.out _⟩
      · obtain rfl : v = n := by omega
        have HF := Lib.hid (show allB v (fun i => f i == g i) = true from allB_iff.2 HI.out)
        have HBL := Lib.hid hbl
        clear hbl
        go_wp2_with fail
        go_ret
        exact ⟨by rw [HE.out, HF.out]; rfl, HBL.out⟩
  · have HE := Lib.hid (show eqI n m f g = false by unfold eqI; rw [beq_eq_false_iff_ne.2 hnm]; rfl)
    have h1 : ((n : Int) != (m : Int)) = true := by rw [bne_iff_ne]; omega
    clear hnm
    go_enter Try.func70, Try.ntmps70
    go_wp2
    go_ret
    exact ⟨by rw [HE.out]; rfl, Below.refl _ _⟩
end Go.Proofs.Ytgnkeecjaffnaaa
