/-
  Texts of this claim, one after the other: what each proves is said at its head. No condition beyond those that its theorems name.
-/
import Derived.Test.YtahaimecchdfeaaProg
import Derived.Deep.DeepCutAuto
import Derived.Deep.RegionHeld3
import Derived.Test.YtahaimecchdfeaaG24
import Derived.Test.YtahaimecchdfeaaG28
import Derived.Test.YtahaimecchdfeaaG36

/-
  Walk: the law AttackVerifies.
-/
namespace Go.Proofs.Ytahaimecchdfeaa
open Go.RowKit

set_option maxHeartbeats 4000000 in
theorem verifies_core (R : Int) (A : Option Addr) (n c : Nat) (fa fh fm : Nat → Int) (B : Option Addr) (m d : Nat) (X Y : Nat → Int) (w : World) (hx : RuleS w A n fa fh fm) (hn : n ≤ 9223372036854775807) (hy : CrS w B m X Y) (hm : m ≤ 9223372036854775807) :
    Calls Try.prog 5 #[.agg #[.int .i64 R, .slice A n c], .slice B m d] w fun e w' => e = .returned (.bool true) ∧ Below w.heap.size w w' := by
  have HB := Lib.hid (below_alloc w (.cells #[.int .i64 R, .slice A n c] 43))
  have hbk := Blk.new w #[.int .i64 R, .slice A n c] 43
  have HX := Lib.hid (hx.below HB.out)
  have HY := Lib.hid (hy.below HB.out)
  have d0 := hbk.cell (k := 0) rfl
  have d1 := hbk.cell (k := 1) rfl
  clear hbk hx hy
  by_cases h100 : 100 < n ∨ 100 < m
  · by_cases h1 : 100 < n
    · have t1 : decide (100 < n) = true := decide_eq_true h1
      have t1' : decide ((100 : Int) < (n : Int)) = true := decide_eq_true (by omega)
      clear h100 h1
      go_enter Try.func5, Try.ntmps5
      go_upto_region 1 with (fail)
      generalize w.alloc (.cells #[.int .i64 R, .slice A n c] 43) = W at HB HX HY d0 d1 ⊢
      go_wp2_with (go_at_call 13; refine (awake_any _).mono ?_; rintro e w2 ⟨rfl, hst⟩; have HB := Lib.hid (HB.out.trans (hst.mono HB.out.size)); clear hst)
      go_ret
      exact ⟨rfl, HB.out⟩
    · have h2 : 100 < m := h100.resolve_left h1
      have t1 : decide (100 < n) = false := decide_eq_false h1
      have t1' : decide ((100 : Int) < (n : Int)) = false := decide_eq_false (by omega)
      have t2 : decide (100 < m) = true := decide_eq_true h2
      have t2' : decide ((100 : Int) < (m : Int)) = true := decide_eq_true (by omega)
      clear h100 h1 h2
      go_enter Try.func5, Try.ntmps5
      go_upto_region 1 with (fail)
      generalize w.alloc (.cells #[.int .i64 R, .slice A n c] 43) = W at HB HX HY d0 d1 ⊢
      go_wp2_with (go_at_call 13; refine (awake_any _).mono ?_; rintro e w2 ⟨rfl, hst⟩; have HB := Lib.hid (HB.out.trans (hst.mono HB.out.size)); clear hst)
      go_ret
      exact ⟨rfl, HB.out⟩
  have hn1 : ¬ 100 < n := fun h => h100 (.inl h)
  have hm1 : ¬ 100 < m := fun h => h100 (.inr h)
  have t1 : decide (100 < n) = false := decide_eq_false hn1
  have t1' : decide ((100 : Int) < (n : Int)) = false := decide_eq_false (by omega)
  have t2 : decide (100 < m) = false := decide_eq_false hm1
  have t2' : decide ((100 : Int) < (m : Int)) = false := decide_eq_false (by omega)
  have HV1 := Lib.hid (fun (w : World) (hx : RuleS w A n fa fh fm) (hy : CrS w B m X Y) => Verify_any R A n c fa fh fm B m d X Y w hx hn hy (by omega))
  have HV2 := Lib.hid (fun (w : World) (hx : RuleS w A n fa fh fm) (hy : CrS w B m X Y) => rVerify_any R A n c fa fh fm B m d X Y w hx hn hy (by omega))
  obtain ⟨V, eV⟩ : ∃ E, E = verV R n fa fh fm m X Y := ⟨_, rfl⟩
  rw [← eV] at HV1 HV2
  have t3 : ((V : Int) == (V : Int)) = true := by simp
  clear h100 hn1 hm1 eV
  go_enter Try.func5, Try.ntmps5
  go_upto_region 1 with (fail)
  generalize w.alloc (.cells #[.int .i64 R, .slice A n c] 43) = W at HB HX HY d0 d1 ⊢
  obtain ⟨b1, eb1⟩ : ∃ b, b = w.heap.size := ⟨_, rfl⟩
  rw [← eb1] at d0 d1 ⊢
  clear eb1
  have hb0 := Below.refl W.heap.size W
  have HSOF := Lib.hid (fun (z : World) (h : Below W.heap.size W z) => (⟨h, cell_below h d0, cell_below h d1⟩ : Below W.heap.size W z ∧ z.cell? ⟨b1, 0, none⟩ = some (.int .i64 R) ∧ z.cell? ⟨b1, 1, none⟩ = some (.slice A n c)))
  have HC1 := Lib.hid (fun (z : World) (h : Below W.heap.size W z) => HV1.out z (HX.out.below h) (HY.out.below h))
  have HC2 := Lib.hid (fun (z : World) (h : Below W.heap.size W z) => HV2.out z (HX.out.below h) (HY.out.below h))
  clear HV1 HV2 HX HY
  go_upto_region 3 with (fail)
  clear d0 d1
  go_region_held3 (fun z => Below W.heap.size W z ∧ z.cell? ⟨b1, 0, none⟩ = some (.int .i64 R) ∧ z.cell? ⟨b1, 1, none⟩ = some (.slice A n c)) (first | exact HSOF.out _ (by assumption) | exact HSOF.out _ (below_drew hb0) | exact HSOF.out _ (below_trans (And.left (by assumption)) (by assumption)))
    (first
      | (go_at_call 23; refine (HC1.out _ (And.left (by assumption))).mono ?_; rintro e w7 ⟨rfl, hb1⟩; have HB7 := below_trans (And.left (by assumption)) hb1; clear hb1)
      | (go_at_call 24; refine (HC2.out _ (And.left (by assumption))).mono ?_; rintro e w7 ⟨rfl, hb1⟩; have HB7 := below_trans (And.left (by assumption)) hb1; clear hb1)
      | (go_at_call 13; refine (awake_any _).mono ?_; rintro e w8 ⟨rfl, hb1⟩; have HB8 := below_trans (And.left (by assumption)) hb1; clear hb1)
      | fail)
  all_goals (
    have hbz := And.left (by assumption : Below W.heap.size W _ ∧ _)
    have HZ := Lib.hid (below_trans HB.out hbz)
    clear hbz
    go_wp2_with fail
    go_ret
    exact ⟨rfl, HZ.out⟩)
end Go.Proofs.Ytahaimecchdfeaa
