/-
  Walks: the law ProtocolFloods.
-/
import Derived.Test.YtgnkeecjaffnaaaProg
import Derived.Test.YtgnkeecjaffnaaaBase
import Derived.Test.YtgnkeecjaffnaaaRow
import Derived.Test.YtgnkeecjaffnaaaRowsOf
import Derived.Test.YtgnkeecjaffnaaaPc
import Derived.Test.YtgnkeecjaffnaaaPd
import Derived.Test.YtgnkeecjaffnaaaPrG
import Derived.Test.YtgnkeecjaffnaaaPfA
import Derived.Test.YtgnkeecjaffnaaaPfC
import Derived.Test.YtgnkeecjaffnaaaPfS
import Derived.Test.YtgnkeecjaffnaaaPfF
import Derived.Test.YtgnkeecjaffnaaaPkB
import Derived.Deep.DeepCutAuto
import Derived.Deep.RegionHeld3
namespace Go.Proofs.Ytgnkeecjaffnaaa
open Go.RowKit

theorem fluD_small (n R x : Int) (m : Nat) (rd tv : Nat → Int) : (fluD n R x m rd tv).n ≤ 65536 ∧ (fluD n R x m rd tv).k ≤ 65536 ∧ (∀ i, i < (fluD n R x m rd tv).n → (fluD n R x m rd tv).m i ≤ 9223372036854775807) ∧ (∀ i j, i < (fluD n R x m rd tv).n → j < (fluD n R x m rd tv).m i → -9223372036854775808 ≤ (fluD n R x m rd tv).L i j ∧ (fluD n R x m rd tv).L i j ≤ 9223372036854775807) ∧ ∀ u, u < (fluD n R x m rd tv).k → (fluD n R x m rd tv).F u < 18446744073709551616 := by
  by_cases hE : flE n R x m rd tv = 0
  · have hD : fluD n R x m rd tv = floD n.toNat R.toNat x.toNat rd tv := if_pos hE
    obtain ⟨N, r, X, rfl, rfl, rfl, rfl, h2, h4, h3, hX, hcr⟩ := flE_ok hE
    rw [hD, Int.toNat_natCast, Int.toNat_natCast, Int.toNat_natCast]
    refine ⟨by show r + 1 ≤ 65536; omega, by show r + 1 ≤ 65536; omega, fun _ _ => by show m ≤ _; omega, fun t i ht _ => ?_, fun t _ => ?_⟩
    · have ht : t < r + 1 := ht
      have := stN_le (rd := rd) (tv := tv) (n := m) (x := X) (t := t) (i := i) h4 (by omega)
      show _ ≤ ((stN rd tv m X t i : Nat) : Int) ∧ ((stN rd tv m X t i : Nat) : Int) ≤ _
      omega
    · have h256 : (2 : Nat) ^ (m + m) ≤ 256 := Nat.pow_le_pow_right (n := 2) (j := 8) (by decide) (by omega)
      have := fcN_lt (rd := rd) (t := t) (Nat.lt_of_lt_of_le hX (Nat.pow_le_pow_right (n := 2) (j := m + m) (by decide) (by omega))) m (Nat.le_refl _)
      show fcN rd m X t m < _
      omega
  · have hD : fluD n R x m rd tv = RunD.none := if_neg hE
    rw [hD]
    exact ⟨by decide, by decide, fun _ h => absurd h (Nat.not_lt_zero _), fun _ _ h => absurd h (Nat.not_lt_zero _), fun _ h => absurd h (Nat.not_lt_zero _)⟩
set_option maxHeartbeats 4000000 in
set_option maxRecDepth 100000 in
theorem floods_core (n R x : Int) (A : Option Addr) (m c : Nat) (rd tv : Nat → Int) (w : World) (hx : CrS w A m rd tv) (hm : m ≤ 9223372036854775807) :
    Calls Try.prog 4 #[.int .i64 n, .agg #[.int .i64 R, .int .i64 x], .slice A m c] w fun e w' => e = .returned (.bool true) ∧ Below w.heap.size w w' := by
  have HX := Lib.hid hx
  have HB := Lib.hid (below_alloc w (.cells #[.int .i64 R, .int .i64 x] 25))
  have HK := Lib.hid (Blk.new w #[.int .i64 R, .int .i64 x] 25)
  by_cases h10 : 10 < m
  · have t1 : decide (10 < m) = true := decide_eq_true h10
    have t1' : decide ((10 : Int) < (m : Int)) = true := decide_eq_true (by omega)
    clear hx h10
    go_enter Try.func4, Try.ntmps4
    go_upto_region 1 with (fail)
    generalize w.alloc (.cells #[.int .i64 R, .int .i64 x] 25) = W at HB HK ⊢
    go_wp2_with (go_at_call 17; refine (awake_any _).mono ?_; rintro e w2 ⟨rfl, hst⟩; have HB := Lib.hid (HB.out.trans (hst.mono HB.out.size)); clear hst)
    go_ret
    exact ⟨rfl, HB.out⟩
  have t1 : decide (10 < m) = false := decide_eq_false h10
  have t1' : decide ((10 : Int) < (m : Int)) = false := decide_eq_false (by omega)
  have HFL := Lib.hid (fun W (hW : CrS W A m rd tv) => Flood_any n R x A m c rd tv W hW hm)
  have HFR := Lib.hid (fun W (hW : CrS W A m rd tv) => rFlood_any n R x A m c rd tv W hW hm)
  have HC1 := Lib.hid (fun W (hW : CrS W A m rd tv) => Clean_any R A m c rd tv W hW hm)
  have HC2 := Lib.hid (fun W (hW : CrS W A m rd tv) => (rClean_any R A m c rd tv W hW hm).mono (R' := fun e w' => e = .returned (.int .i64 (clV R rd m : Nat)) ∧ Below W.heap.size W w') fun e w' h => ⟨h.1, h.2 ▸ Below.refl _ _⟩)
  have HSM := Lib.hid (fluD_small n R x m rd tv)
  obtain ⟨E, eE⟩ : ∃ E, E = flE n R x m rd tv := ⟨_, rfl⟩
  obtain ⟨D, eD⟩ : ∃ D, D = fluD n R x m rd tv := ⟨_, rfl⟩
  obtain ⟨C, eC⟩ : ∃ C, C = clV R rd m := ⟨_, rfl⟩
  rw [← eE, ← eD] at HFL HFR
  rw [← eC] at HC1 HC2
  rw [← eD] at HSM
  have b1 : ((E : Int) == (E : Int)) = true := by simp
  have b2 : ((C : Int) == (C : Int)) = true := by simp
  clear hx eE eD eC h10
  go_enter Try.func4, Try.ntmps4
  go_upto_region 1 with (fail)
  generalize w.alloc (.cells #[.int .i64 R, .int .i64 x] 25) = W at HB HK ⊢
  have z0 : W.cell? ⟨w.heap.size, 0, none⟩ = some (.int .i64 R) := HK.out.cell rfl
  have z1 : W.cell? ⟨w.heap.size, 1, none⟩ = some (.int .i64 x) := HK.out.cell rfl
  have HX := Lib.hid (HX.out.below HB.out)
  clear HK
  go_upto_region 4 with (go_at_call 18; refine (HFL.out _ HX.out).mono ?_; rintro e w3 ⟨v, rfl, hd, hb⟩; obtain ⟨AL, cL, AF, cF, rfl⟩ := RunO.shape hd; have HD1 := Lib.hid hd; have HB1 := Lib.hid hb; clear hd hb)
  obtain ⟨V, hV⟩ : ∃ V, V = w3.alloc (.cells #[.slice AL D.n cL, .slice AF D.k cF] 30) := ⟨_, rfl⟩
  have hbl := below_alloc w3 (.cells #[.slice AL D.n cL, .slice AF D.k cF] 30)
  have hbk := Blk.new w3 #[.slice AL D.n cL, .slice AF D.k cF] 30
  rw [← hV] at hbl hbk ⊢
  have hb13 := HB1.out.trans (hbl.mono HB1.out.size)
  have z0 := cell_below hb13 z0
  have z1 := cell_below hb13 z1
  have HX := Lib.hid (HX.out.below hb13)
  have HB := Lib.hid (HB.out.trans (hb13.mono HB.out.size))
  have HRR1 := Lib.hid ((RunO.read HD1.out (fun i h => HSM.out.2.2.1 i h) (fun i j h1 h2 => HSM.out.2.2.2.1 i j h1 h2) (fun u h => HSM.out.2.2.2.2 u h)).below hbl)
  have x0 : V.cell? ⟨w3.heap.size, 0, none⟩ = some (.slice AL D.n cL) := hbk.cell rfl
  have x1 : V.cell? ⟨w3.heap.size, 1, none⟩ = some (.slice AF D.k cF) := hbk.cell rfl
  generalize w3.heap.size = b3 at x0 x1 ⊢
  clear hV hbl hbk hb13 HB1 HD1
  go_upto_region 5 with (go_at_call 19; refine (HFR.out _ HX.out).mono ?_; rintro e w4 ⟨v, rfl, hd, hb⟩; obtain ⟨AL4, cL4, AF4, cF4, rfl⟩ := RunO.shape hd; have HD2 := Lib.hid hd; have HB1 := Lib.hid hb; clear hd hb)
  obtain ⟨V4, hV⟩ : ∃ V4, V4 = w4.alloc (.cells #[.slice AL4 D.n cL4, .slice AF4 D.k cF4] 30) := ⟨_, rfl⟩
  have hbl := below_alloc w4 (.cells #[.slice AL4 D.n cL4, .slice AF4 D.k cF4] 30)
  have hbk := Blk.new w4 #[.slice AL4 D.n cL4, .slice AF4 D.k cF4] 30
  rw [← hV] at hbl hbk ⊢
  have hb13 := HB1.out.trans (hbl.mono HB1.out.size)
  have z0 := cell_below hb13 z0
  have x0 := cell_below hb13 x0
  have x1 := cell_below hb13 x1
  have HX := Lib.hid (HX.out.below hb13)
  have HB := Lib.hid (HB.out.trans (hb13.mono HB.out.size))
  have HRR1 := Lib.hid (HRR1.out.below hb13)
  have HRR2 := Lib.hid ((RunO.read HD2.out (fun i h => HSM.out.2.2.1 i h) (fun i j h1 h2 => HSM.out.2.2.2.1 i j h1 h2) (fun u h => HSM.out.2.2.2.2 u h)).below hbl)
  have u0 : V4.cell? ⟨w4.heap.size, 0, none⟩ = some (.slice AL4 D.n cL4) := hbk.cell rfl
  have u1 : V4.cell? ⟨w4.heap.size, 1, none⟩ = some (.slice AF4 D.k cF4) := hbk.cell rfl
  generalize w4.heap.size = b4 at u0 u1 ⊢
  clear hV hbl hbk hb13 HB1 HD2 z1
  have HSME := Lib.hid (fun X (hX : Below V4.heap.size V4 X) => SameRun_any _ _ D.n D.n D.k D.k _ _ _ _ _ _ X (HRR1.out.below hX) (HRR2.out.below hX) HSM.out.1 HSM.out.2.1 true ⟨fun _ => ⟨rfl, rfl, fun t _ => ⟨rfl, fun _ _ => rfl⟩, fun _ _ => rfl⟩, fun _ => rfl⟩)
  have HSOF := Lib.hid (fun (y : World) (h : Below V4.heap.size V4 y) => (⟨h, cell_below h z0, cell_below h x0, cell_below h x1, cell_below h u0, cell_below h u1⟩ : Below V4.heap.size V4 y ∧ y.cell? ⟨w.heap.size, 0, none⟩ = some (.int .i64 R) ∧ y.cell? ⟨b3, 0, none⟩ = some (.slice AL D.n cL) ∧ y.cell? ⟨b3, 1, none⟩ = some (.slice AF D.k cF) ∧ y.cell? ⟨b4, 0, none⟩ = some (.slice AL4 D.n cL4) ∧ y.cell? ⟨b4, 1, none⟩ = some (.slice AF4 D.k cF4)))
  have hb0 := Below.refl V4.heap.size V4
  clear z0 x0 x1 u0 u1
  go_region_held3 (fun y => Below V4.heap.size V4 y ∧ y.cell? ⟨w.heap.size, 0, none⟩ = some (.int .i64 R) ∧ y.cell? ⟨b3, 0, none⟩ = some (.slice AL D.n cL) ∧ y.cell? ⟨b3, 1, none⟩ = some (.slice AF D.k cF) ∧ y.cell? ⟨b4, 0, none⟩ = some (.slice AL4 D.n cL4) ∧ y.cell? ⟨b4, 1, none⟩ = some (.slice AF4 D.k cF4)) (first | exact HSOF.out _ (by assumption) | exact HSOF.out _ (below_drew hb0) | exact HSOF.out _ (below_trans (And.left (by assumption)) (by assumption)))
    (first
      | (go_at_call 21; refine (HC1.out _ (by exact HX.out.below (And.left (by assumption)))).mono ?_; rintro e w5 ⟨rfl, hb1⟩; have HB5 := below_trans (And.left (by assumption)) hb1; clear hb1)
      | (go_at_call 22; refine (HC2.out _ (by exact HX.out.below (And.left (by assumption)))).mono ?_; rintro e w6 ⟨rfl, hb1⟩; have HB6 := below_trans (And.left (by assumption)) hb1; clear hb1)
      | (go_at_call 20; refine (HSME.out _ (And.left (by assumption))).mono ?_; rintro e w7 ⟨rfl, hb1⟩; have HB7 := below_trans (And.left (by assumption)) hb1; clear hb1)
      | (go_at_call 17; refine (awake_any _).mono ?_; rintro e w8 ⟨rfl, hb1⟩; have HB8 := below_trans (And.left (by assumption)) hb1; clear hb1)
      | fail)
  all_goals (
    go_wp2_with fail
    go_ret
    exact ⟨rfl, HB.out.trans (Below.mono (And.left (by assumption : Below V4.heap.size V4 _ ∧ _)) HB.out.size)⟩)
end Go.Proofs.Ytgnkeecjaffnaaa
