/-
  Walks: package revision: Check, Revise, Dalal (where there is no error).
-/
import Derived.Test.YtgnmelmmcpmhoaaProg
import Derived.Test.YtgnmelmmcpmhoaaBase
import Derived.Test.YtgnmelmmcpmhoaaOnes
import Derived.Test.YtgnmelmmcpmhoaaUpdA
import Derived.Test.YtgnmelmmcpmhoaaUpdB
import Derived.Test.YtgnmelmmcpmhoaaUpdC
import Derived.Test.YtgnmelmmcpmhoaaRevA
import Derived.Test.YtgnmelmmcpmhoaaRevB
namespace Go.Proofs.Ytgnmelmmcpmhoaa
open Go.RowKit

/-- What revision.Check returns. -/
def revErr (k : Int) (len : Nat) (f : Nat → Int) : Nat := if 0 ≤ k ∧ k ≤ 4 then (if len = 2 ^ k.toNat then (if 0 ≤ idxV f len then 1 else 0) else 3) else 2
theorem revCheck_in (kk N c : Nat) (A : Option Addr) (f : Nat → Int) (w : World) (hx : I64s w A N f) (hk : kk ≤ 4) (hN : N = 2 ^ kk) :
    Calls Try.prog 62 #[.int .i64 kk, .slice A N c] w fun e w' => e = .returned (.int .i64 ((if 0 ≤ idxV f N then 1 else 0 : Nat) : Nat)) ∧ w = w' := by
  have hw := wrap_pow hN (by omega)
  have hN16 : N ≤ 16 := by rw [hN]; exact Nat.le_trans (Nat.pow_le_pow_right (by decide) hk) (by decide)
  have hd1 : decide ((kk : Int) < 0) = false := by simp
  have hd2 : decide (4 < (kk : Int)) = false := by simp; omega
  have HX := Lib.hid hx
  clear hN hx
  by_cases hi : 0 ≤ idxV f N
  · have hi' : decide (0 ≤ idxV f N) = true := decide_eq_true hi
    rw [if_pos hi]
    go_enter Try.func62, Try.ntmps62
    go_wp2_with (go_at_call 65; refine (contains_any _ _ _ _ _ HX.out (by omega)).mono ?_; rintro e w' ⟨rfl, rfl⟩)
    go_ret
    exact ⟨rfl, rfl⟩
  · have hi' : decide (0 ≤ idxV f N) = false := decide_eq_false hi
    rw [if_neg hi]
    go_enter Try.func62, Try.ntmps62
    go_wp2_with (go_at_call 65; refine (contains_any _ _ _ _ _ HX.out (by omega)).mono ?_; rintro e w' ⟨rfl, rfl⟩)
    go_ret
    exact ⟨rfl, rfl⟩

theorem Revise_in (kk N c s : Nat) (A : Option Addr) (f : Nat → Int) (w : World) (hx : I64s w A N f) (hk : kk ≤ 4) (hN : N = 2 ^ kk) (hs : s < 2 ^ N) (hf : idxV f N = -1) :
    Calls Try.prog 55 #[.int .i64 kk, .slice A N c, .int .u64 s] w fun e w' => e = .returned (.tuple #[.int .u64 (leastP s f N).1, .int .i64 0]) ∧ w = w' := by
  have hN16 : N ≤ 16 := by rw [hN]; exact Nat.le_trans (Nat.pow_le_pow_right (by decide) hk) (by decide)
  have hs64 : s < 18446744073709551616 := Nat.lt_trans hs (pow_lt64 (by omega))
  have hse : ((setErr kk s : Int) != 0) = false := by unfold setErr; rw [← hN, if_pos hs]; rfl
  have HC := Lib.hid (revCheck_in kk N c A f w hx hk hN)
  rw [if_neg (by rw [hf]; decide)] at HC
  have HX := Lib.hid hx
  clear hN hx hs hf
  go_enter Try.func55, Try.ntmps55
  go_wp2_with (first | (go_at_call 62; refine (HC.out).mono ?_; rintro e w' ⟨rfl, rfl⟩) | (go_at_call 43; refine (bsCheck_any _ _ _ (by assumption) (by omega)).mono ?_; rintro e w' ⟨rfl, rfl⟩) | (go_at_call 63; refine (least_any _ _ _ _ _ _ HX.out (by omega) (by assumption)).mono ?_; rintro e w' ⟨rfl, rfl⟩))
  go_ret2
  exact ⟨rfl, rfl⟩

theorem RowI.i64s {w : World} {B N : Nat} {g : Nat → Nat} (h : RowI w B N g) (hg : ∀ k, g k ≤ 1000) : I64s w (some ⟨B, 0, none⟩) N (fun k => (g k : Int)) := fun k hk => by
  have := hg k
  exact ⟨B, 0, rfl, by rw [Nat.zero_add]; exact (h k hk).1, by dsimp only; omega, by dsimp only; omega⟩
theorem distF_le (N b v : Nat) : distF N b v ≤ 1000 := by have := dq_le b v N; unfold distF; omega
theorem fbad_ok {f : Nat → Int} {n : Nat} (h : ∀ k, k < n → badI f k = false) : fbad f n = none := by
  induction n with
  | zero => rfl
  | succ n ih => exact fbad_next (ih fun k hk => h k (by omega)) (h n (by omega))
theorem idxV_ok {f : Nat → Int} {n : Nat} (h : ∀ k, k < n → badI f k = false) : idxV f n = -1 := by unfold idxV; rw [fbad_ok h]

/-- Dalal's revision. -/
def dalS (N b s : Nat) : Nat := (leastP s (fun k => (distF N b k : Int)) N).1
theorem Dalal_in (kk N b s : Nat) (w : World) (hk : kk ≤ 4) (hN : N = 2 ^ kk) (hb : b < 2 ^ N) (hs : s < 2 ^ N) :
    Calls Try.prog 35 #[.int .i64 kk, .int .u64 b, .int .u64 s] w fun e w' => e = .returned (.tuple #[.int .u64 (dalS N b s : Nat), .int .i64 0]) ∧ Below w.heap.size w w' := by
  have hN16 : N ≤ 16 := by rw [hN]; exact Nat.le_trans (Nat.pow_le_pow_right (by decide) hk) (by decide)
  have hb64 : b < 18446744073709551616 := Nat.lt_trans hb (pow_lt64 (by omega))
  have HN := Lib.hid hN
  have LB := Lib.hid hb
  have LS := Lib.hid hs
  clear hN hb hs
  go_enter Try.func35, Try.ntmps35
  go_wp2_with fail
  refine (Distances_in kk N b w hk HN.out LB.out hb64).mono ?_
  rintro e w1 ⟨rfl, hrow, hbl⟩
  have HX := Lib.hid (hrow.i64s (distF_le N b))
  have HB := Lib.hid hbl
  have HF := Lib.hid (idxV_ok (f := fun k => (distF N b k : Int)) (n := N) (fun k _ => by
    unfold badI; rw [decide_eq_false_iff_not]; have := distF_le N b k; dsimp only; omega))
  clear hrow hbl
  go_wp2_with (go_at_call 55; refine (Revise_in _ _ _ _ _ _ _ HX.out hk HN.out LS.out HF.out).mono ?_; rintro e w' ⟨rfl, rfl⟩)
  go_ret2
  exact ⟨rfl, HB.out⟩
end Go.Proofs.Ytgnmelmmcpmhoaa
