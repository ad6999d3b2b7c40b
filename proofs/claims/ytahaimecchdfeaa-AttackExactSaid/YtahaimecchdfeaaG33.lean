/-
  Texts of this claim, one after the other: what each proves is said at its head. No condition beyond those that its theorems name.
-/
import Derived.Test.YtahaimecchdfeaaProg
import Derived.Deep.DeepCutAuto
import Derived.Test.YtahaimecchdfeaaG28
import Derived.Test.YtahaimecchdfeaaG29
import Derived.Test.YtahaimecchdfeaaG30

/-
  Walk: the law AttackExact.
-/
namespace Go.Proofs.Ytahaimecchdfeaa
open Go.RowKit

theorem al_any {k : Nat} (hk : k ≤ 4) (w : World) : Calls Try.prog 28 #[.int .i64 k] w fun e w' => ∃ A c, e = .returned (.tuple #[.agg #[.int .i64 k, .slice A k c], .int .i64 0]) ∧ RuleS w' A k (alA k) (alH k) (alM k) ∧ Below w.heap.size w w' := by
  have hbn := bnd_alt (k : Int)
  have h0 : (0 : Int) ≤ (k : Int) ∧ (k : Int) ≤ 4 := by omega
  rw [if_pos h0] at hbn
  refine (Alternating_any (k : Int) w).mono fun e w' h => ?_
  rw [if_pos h0, if_pos h0, if_pos h0] at h
  obtain ⟨A, c, rfl, hr, hb⟩ := h.read hbn
  have hl : (altS ((k : Int)).toNat).length = k := (al_nums hk).2.1
  rw [hl] at hr ⊢
  exact ⟨A, c, rfl, hr.congr fun j hj => by
    have e : (altS ((k : Int)).toNat)[j]! = (altS k).getD j (0, 0, 0) := by
      rw [List.getElem!_eq_getElem?_getD, List.getD_eq_getElem?_getD]
      rfl
    rw [e]
    exact ⟨rfl, rfl, rfl⟩, hb⟩
theorem al_los {k : Nat} (hk : k ≤ 4) {w : World} {A : Option Addr} {c : Nat} (h : RuleS w A k (alA k) (alH k) (alM k)) : Calls Try.prog 27 #[.agg #[.int .i64 k, .slice A k c]] w fun e w' => ∃ B d, e = .returned (.tuple #[.agg #[.int .i64 2, .int .i64 1, .int .i64 ((k : Int) + 1), .slice B (k + 2) d], .int .i64 0]) ∧ SysR w' (.agg #[.int .i64 2, .int .i64 1, .int .i64 ((k : Int) + 1), .slice B (k + 2) d]) 2 1 ((k : Int) + 1) (k + 2) (lT (alPs k)) (fun _ _ => 2) (psL (alS k) (alPs k)) (lT (alPs k)) (lF (alPs k)) ∧ Below w.heap.size w w' := by
  obtain ⟨hE, -, hl⟩ := al_nums hk
  refine (Lossy_any k A k c (alA k) (alH k) (alM k) w h (by omega)).mono ?_
  rintro e w' ⟨x, rfl, ho, hb⟩
  obtain ⟨hls, -, -, -, -⟩ := los_sys ho hE
  have hls' : LsS w' x (alS k) (k : Int) (alPs k) := hls
  obtain ⟨B, d, rfl, hr⟩ := hls'
  rw [hl] at hr ⊢
  exact ⟨B, d, by rw [hE]; rfl, ⟨B, d, rfl, hr⟩, hb⟩
theorem sysR_below {w w' : World} {x : Value} {a f l : Int} {n : Nat} {T : Nat → Nat} {m : Nat → Nat → Nat} {L : Nat → Nat → Nat → Int} {K : Nat → Nat} {F : Nat → Nat → Nat} (h : SysR w x a f l n T m L K F) (hb : Below w.heap.size w w') : SysR w' x a f l n T m L K F := by
  obtain ⟨A, c, e, hr⟩ := h
  exact ⟨A, c, e, hr.below hb⟩
set_option maxHeartbeats 4000000 in
theorem exact_core (x : Nat) (w : World) (hx : x < 256) :
    Calls Try.prog 8 #[.int .u8 x] w fun e w' => e = .returned (.bool true) ∧ Below w.heap.size w w' := by
  obtain ⟨k, ek⟩ : ∃ k, k = x % 5 := ⟨_, rfl⟩
  have hk : k ≤ 4 := by omega
  have hm : (x : Int).tmod 5 = (k : Int) := by rw [Int.tmod_eq_emod_of_nonneg (by omega)]; omega
  have HAL := Lib.hid (fun w => al_any hk w)
  clear ek
  go_enter Try.func8, Try.ntmps8
  go_upto_region 2 with (go_at_call 28; refine (HAL.out _).mono ?_; rintro e w1 ⟨A, c, rfl, hr, hb⟩; have HR := Lib.hid hr; have HB := Lib.hid hb; clear hr hb)
  have hbk := Blk.new w1 #[.int .i64 k, .slice A k c] 43
  have hba := below_alloc w1 (.cells #[.int .i64 k, .slice A k c] 43)
  obtain ⟨V, eV⟩ : ∃ V, V = w1.alloc (.cells #[.int .i64 k, .slice A k c] 43) := ⟨_, rfl⟩
  rw [← eV] at hbk hba ⊢
  obtain ⟨b1, eb1⟩ : ∃ b, b = w1.heap.size := ⟨_, rfl⟩
  rw [← eb1] at hbk ⊢
  have HB := Lib.hid (below_trans HB.out hba)
  have HLO := Lib.hid (al_los (c := c) hk (HR.out.below hba))
  have d0 := hbk.cell (k := 0) rfl
  have d1 := hbk.cell (k := 1) rfl
  clear hbk hba eV eb1 HR HAL
  go_upto_region 3 with (go_at_call 27; refine HLO.out.mono ?_; rintro e w3 ⟨B, d, rfl, hsy, hb3⟩; have HSY := Lib.hid hsy; have HB := Lib.hid (below_trans HB.out hb3); clear hsy hb3)
  have hbk := Blk.new w3 #[.int .i64 2, .int .i64 1, .int .i64 ((k : Int) + 1), .slice B (k + 2) d] 24
  have hba := below_alloc w3 (.cells #[.int .i64 2, .int .i64 1, .int .i64 ((k : Int) + 1), .slice B (k + 2) d] 24)
  obtain ⟨V2, eV⟩ : ∃ V, V = w3.alloc (.cells #[.int .i64 2, .int .i64 1, .int .i64 ((k : Int) + 1), .slice B (k + 2) d] 24) := ⟨_, rfl⟩
  rw [← eV] at hbk hba ⊢
  obtain ⟨bS, eb3⟩ : ∃ b, b = w3.heap.size := ⟨_, rfl⟩
  rw [← eb3] at hbk ⊢
  have HB := Lib.hid (below_trans HB.out hba)
  have HSY := Lib.hid (show SysR V2 (.agg #[.int .i64 2, .int .i64 1, .int .i64 ((k : Int) + 1), .slice B (k + 2) d]) 2 1 ((k : Int) + 1) (k + 2) (lT (alPs k)) (fun _ _ => 2) (psL (alS k) (alPs k)) (lT (alPs k)) (lF (alPs k)) from sysR_below HSY.out hba)
  have HK := Lib.hid hbk
  have q2 := hbk.cell (k := 2) rfl
  have q3 := hbk.cell (k := 3) rfl
  clear d0 d1 hbk hba eV eb3 HLO
  obtain ⟨D, eD⟩ : ∃ D : Nat → Nat → Nat, D = fun (r t : Nat) => delV 2 1 ((k : Int) + 1) (k + 2) (lT (alPs k)) (fun _ _ => 2) (psL (alS k) (alPs k)) (lT (alPs k)) (lF (alPs k)) r t := ⟨_, rfl⟩
  have HDL := Lib.hid (fun (X : World) (hX : Below V2.heap.size V2 X) (r t : Nat) (hr : r < k + 2) (ht : t < k + 1) => show Calls Try.prog 18 #[.agg #[.int .i64 2, .int .i64 1, .int .i64 ((k : Int) + 1), .slice B (k + 2) d], .agg #[.int .i64 r, .int .i64 t]] X fun e w' => e = .returned (.tuple #[.int .i64 (D r t : Nat), .int .i64 0]) ∧ Below X.heap.size X w' by
    have := Delivered_any _ 2 1 ((k : Int) + 1) (k + 2) (lT (alPs k)) (fun _ _ => 2) (psL (alS k) (alPs k)) (lT (alPs k)) (lF (alPs k)) r t X (sysR_below HSY.out hX) (by omega)
    rw [(exact_any hk hr ht).1] at this
    rw [eD]
    exact this)
  have HDP := Lib.hid (fun (X : World) (hX : Below V2.heap.size V2 X) (r t : Nat) (hr : r < k + 2) (ht : t < k + 1) => show Calls Try.prog 21 #[.agg #[.int .i64 2, .int .i64 1, .int .i64 ((k : Int) + 1), .slice B (k + 2) d], .agg #[.int .i64 r, .int .i64 t], .int .i64 0, .int .i64 20] X fun e w' => e = .returned (.tuple #[.int .i64 (D r t : Nat), .int .i64 0]) ∧ Below X.heap.size X w' by
    have := Depth_any _ 2 1 ((k : Int) + 1) (k + 2) (lT (alPs k)) (fun _ _ => 2) (psL (alS k) (alPs k)) (lT (alPs k)) (lF (alPs k)) r t 0 20 X (sysR_below HSY.out hX) (by omega)
    rw [(exact_any hk hr ht).2.1, (exact_any hk hr ht).2.2] at this
    rw [eD]
    exact this)
  clear eD HSY
  obtain ⟨N, eN⟩ : ∃ N, N = k + 2 := ⟨_, rfl⟩
  have hN64 : N ≤ 64 := by omega
  have t2 : decide ((64 : Int) < (N : Int)) = false := decide_eq_false (by omega)
  have t3 : decide ((5 : Int) < (k : Int) + 1) = false := decide_eq_false (by omega)
  have t4 : ((N : Int) == (k : Int) + 2) = true := by rw [beq_iff_eq]; omega
  rw [← eN] at HDL HDP HK q3 ⊢
  clear eN
  go_wp2_with fail
  clear q2 q3
  go_loopw [46] (fun iv wr => ∃ i : Nat, i ≤ N ∧ iv = .int .i64 i ∧ Below V2.heap.size V2 wr) (fun iv _ => N - (intOf iv).toNat)
  case atStart => exact ⟨0, Nat.zero_le _, rfl, Below.refl _ _⟩
  case round =>
    obtain ⟨i, hi, rfl, hbl⟩ := hrel
    have HBL := Lib.hid hbl
    by_cases hlt : i < N
    · have hii : (i : Int) < (N : Int) := by omega
      have q2 := (HK.out.below hbl).cell (k := 2) rfl
      clear hbl
      go_wp2_with fail
      clear q2
      go_loopw [51] (fun iv wr => ∃ j : Nat, j ≤ k + 1 ∧ iv = .int .i64 j ∧ Below V2.heap.size V2 wr) (fun iv _ => k + 1 - (intOf iv).toNat)
      case atStart => exact ⟨0, Nat.zero_le _, rfl, HBL.out⟩
      case round =>
        clear HBL
        obtain ⟨j, hj, rfl, hbl⟩ := hrel
        have HBL := Lib.hid hbl
        by_cases hjt : j < k + 1
        · have hjj : (j : Int) < (k : Int) + 1 := by omega
          clear hbl
          go_upto_region 12 with (fail)
          have hba := below_alloc wr (.cells #[.int .i64 i, .int .i64 j] 26)
          have hbk := Blk.new wr #[.int .i64 i, .int .i64 j] 26
          obtain ⟨X, eX⟩ : ∃ X, X = wr.alloc (.cells #[.int .i64 i, .int .i64 j] 26) := ⟨_, rfl⟩
          rw [← eX] at hba hbk ⊢
          obtain ⟨bP, ebP⟩ : ∃ b, b = wr.heap.size := ⟨_, rfl⟩
          rw [← ebP] at hbk ⊢
          have HBL := Lib.hid (below_trans HBL.out hba)
          have HP := Lib.hid hbk
          have p0 := hbk.cell (k := 0) rfl
          have p1 := hbk.cell (k := 1) rfl
          have q0 := (HK.out.below HBL.out).cell (k := 0) rfl
          have q1 := (HK.out.below HBL.out).cell (k := 1) rfl
          have q2 := (HK.out.below HBL.out).cell (k := 2) rfl
          have q3 := (HK.out.below HBL.out).cell (k := 3) rfl
          have t5 : ((D i j : Int) != (D i j : Int)) = false := by simp
          clear hba hbk eX ebP
          go_upto_region 13 with (go_at_call 18; refine (HDL.out _ HBL.out i j hlt hjt).mono ?_; rintro e w5 ⟨rfl, hb1⟩; have HBL := Lib.hid (below_trans HBL.out hb1); have HP := Lib.hid (HP.out.below hb1); clear hb1 p0 p1 q0 q1 q2 q3)
          have p0 := HP.out.cell (k := 0) rfl
          have p1 := HP.out.cell (k := 1) rfl
          have q0 := (HK.out.below HBL.out).cell (k := 0) rfl
          have q1 := (HK.out.below HBL.out).cell (k := 1) rfl
          have q2 := (HK.out.below HBL.out).cell (k := 2) rfl
          have q3 := (HK.out.below HBL.out).cell (k := 3) rfl
          go_wp2_with (go_at_call 21; refine (HDP.out _ HBL.out i j hlt hjt).mono ?_; rintro e w6 ⟨rfl, hb1⟩; have HBL := Lib.hid (below_trans HBL.out hb1); clear hb1)
          go_roundw
          case rel => exact ⟨j + 1, by omega, by go_num, HBL.out⟩
          case measure => simp [intOf]; omega
        · obtain rfl : j = k + 1 := by omega
          clear hbl
          go_wp2_with fail
          go_roundw
          case rel => exact ⟨i + 1, by omega, by go_num, HBL.out⟩
          case measure => simp [intOf]; omega
    · obtain rfl : i = N := by omega
      have q3 := (HK.out.below hbl).cell (k := 3) rfl
      clear hbl
      go_wp2_with (go_at_call 13; refine (awake_any _).mono ?_; rintro e w2 ⟨rfl, hst⟩; have HB := Lib.hid (below_trans HB.out (below_trans HBL.out hst)); clear hst)
      go_ret
      exact ⟨rfl, HB.out⟩
end Go.Proofs.Ytahaimecchdfeaa
