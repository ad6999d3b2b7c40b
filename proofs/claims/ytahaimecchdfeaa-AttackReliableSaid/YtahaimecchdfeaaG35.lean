/-
  Texts of this claim, one after the other: what each proves is said at its head. No condition beyond those that its theorems name.
-/
import Derived.Test.YtahaimecchdfeaaProg
import Derived.Deep.DeepCutAuto
import Derived.Test.YtahaimecchdfeaaG28
import Derived.Test.YtahaimecchdfeaaG29
import Derived.Test.YtahaimecchdfeaaG32
import Derived.Test.YtahaimecchdfeaaG34

/-
  Walk: the law AttackReliable.
-/
namespace Go.Proofs.Ytahaimecchdfeaa
open Go.RowKit

theorem tel_any {k : Nat} (hk : k ≤ 4) (w : World) : Calls Try.prog 30 #[.int .i64 k] w fun e w' => ∃ A c, e = .returned (.tuple #[.agg #[.int .i64 k, .slice A (tlN k) c], .int .i64 0]) ∧ RuleS w' A (tlN k) (tlA k) (tlH k) (tlM k) ∧ Below w.heap.size w w' := by
  have hbn := bnd_tel (k : Int)
  have h0 : (0 : Int) ≤ (k : Int) ∧ (k : Int) ≤ 4 := by omega
  rw [if_pos h0] at hbn
  refine (Telling_any (k : Int) w).mono fun e w' h => ?_
  rw [if_pos h0, if_pos h0, if_pos h0] at h
  obtain ⟨A, c, rfl, hr, hb⟩ := h.read hbn
  exact ⟨A, c, rfl, hr, hb⟩
/-- What is said of the reliable channel's system, and of the lossy one's. -/
def RelS (w : World) (x : Value) (k : Nat) : Prop := SysR w x 2 1 ((k : Int) + 1) 2 (lT (relB k 2)) (fun _ _ => 2) (psL (tlS k) (relB k 2)) (lT (relB k 2)) (lF (relB k 2))
def LosS (w : World) (x : Value) (k : Nat) : Prop := LsS w x (tlS k) (k : Int) (losRs (tlS k) k)
theorem tel_rel {k : Nat} (hk : k ≤ 4) {w : World} {A : Option Addr} {c : Nat} (h : RuleS w A (tlN k) (tlA k) (tlH k) (tlM k)) : Calls Try.prog 33 #[.agg #[.int .i64 k, .slice A (tlN k) c]] w fun e w' => ∃ B d, e = .returned (.tuple #[.agg #[.int .i64 2, .int .i64 1, .int .i64 ((k : Int) + 1), .slice B 2 d], .int .i64 0]) ∧ RelS w' (.agg #[.int .i64 2, .int .i64 1, .int .i64 ((k : Int) + 1), .slice B 2 d]) k ∧ Below w.heap.size w w' := by
  obtain ⟨-, hX⟩ := tl_err hk
  have hn : tlN k ≤ 9223372036854775807 := by
    have := len_tel (k : Int)
    rw [if_pos (by omega)] at this
    have e : tlN k = (telR ((k : Int)).toNat).length := rfl
    omega
  refine (Reliable_any k A (tlN k) c (tlA k) (tlH k) (tlM k) w h hn).mono ?_
  rintro e w' ⟨x, rfl, ho, hb⟩
  unfold relD at ho
  rw [if_pos hX] at ho
  obtain ⟨vR, rfl, hro⟩ := ho
  have hg := good_sys (T := k) (snd := tlS k) (ps := relB k 2) hro (relP k).1 hk
  obtain ⟨B, d, ex, hr⟩ := hg
  injection ex with ex
  injection ex with ex
  injection ex with _ ex
  injection ex with _ ex
  injection ex with _ ex
  injection ex with ex _
  subst ex
  exact ⟨B, d, by rw [hX]; rfl, ⟨B, d, rfl, hr⟩, hb⟩
theorem tel_los {k : Nat} (hk : k ≤ 4) {w : World} {A : Option Addr} {c : Nat} (h : RuleS w A (tlN k) (tlA k) (tlH k) (tlM k)) : Calls Try.prog 27 #[.agg #[.int .i64 k, .slice A (tlN k) c]] w fun e w' => ∃ B d, e = .returned (.tuple #[.agg #[.int .i64 2, .int .i64 1, .int .i64 ((k : Int) + 1), .slice B (losRs (tlS k) k).length d], .int .i64 0]) ∧ LosS w' (.agg #[.int .i64 2, .int .i64 1, .int .i64 ((k : Int) + 1), .slice B (losRs (tlS k) k).length d]) k ∧ Below w.heap.size w w' := by
  obtain ⟨hE, -⟩ := tl_err hk
  have hn : tlN k ≤ 9223372036854775807 := by
    have := len_tel (k : Int)
    rw [if_pos (by omega)] at this
    have e : tlN k = (telR ((k : Int)).toNat).length := rfl
    omega
  refine (Lossy_any k A (tlN k) c (tlA k) (tlH k) (tlM k) w h hn).mono ?_
  rintro e w' ⟨x, rfl, ho, hb⟩
  obtain ⟨hls, -, -, -, -⟩ := los_sys ho hE
  have hls' : LosS w' x k := hls
  obtain ⟨B, d, rfl, hr⟩ := hls'
  exact ⟨B, d, by rw [hE]; rfl, ⟨B, d, rfl, hr⟩, hb⟩
theorem tel_len {k : Nat} (hk : k ≤ 4) : (losRs (tlS k) k).length ≤ 64 ∧ ∀ r t : Nat, r < (losRs (tlS k) k).length → t < k + 1 →
    comE 2 1 ((k : Int) + 1) (losRs (tlS k) k).length (lT (losRs (tlS k) k)) (fun _ _ => 2) (lT (losRs (tlS k) k)) (lF (losRs (tlS k) k)) r t 0 = 0 ∧ comV 2 1 ((k : Int) + 1) (losRs (tlS k) k).length (lT (losRs (tlS k) k)) (fun _ _ => 2) (psL (tlS k) (losRs (tlS k) k)) (lT (losRs (tlS k) k)) (lF (losRs (tlS k) k)) r t 0 = false := by
  obtain ⟨hE, hX⟩ := tl_err hk
  have h64 : (losRs (tlS k) k).length ≤ 64 := by
    unfold losE at hE
    rw [if_pos hX] at hE
    by_cases h : 64 < (losRs (sndV (tlN k) (tlA k) (tlH k) (tlM k)) ((k : Int)).toNat).length
    · rw [if_pos h] at hE
      cases hE
    · exact Nat.le_of_not_lt h
  have hs := snd_range hX
  have hp := losP (T := k) hs hk h64
  refine ⟨h64, fun r t hr ht => never' rfl hk hs h64 (ps_chk hp.good hk (by have := hp.len.1; omega) h64) hr (by omega)⟩
theorem relS_below {w w' : World} {x : Value} {k : Nat} (h : RelS w x k) (hb : Below w.heap.size w w') : RelS w' x k := by
  obtain ⟨A, c, e, hr⟩ := h
  exact ⟨A, c, e, hr.below hb⟩
theorem losS_below {w w' : World} {x : Value} {k : Nat} (h : LosS w x k) (hb : Below w.heap.size w w') : LosS w' x k := LsS.below h hb

set_option maxHeartbeats 4000000 in
theorem reliable_core (x : Nat) (w : World) (hx : x < 256) :
    Calls Try.prog 10 #[.int .u8 x] w fun e w' => e = .returned (.bool true) ∧ Below w.heap.size w w' := by
  obtain ⟨k, ek⟩ : ∃ k, k = x % 5 := ⟨_, rfl⟩
  have hk : k ≤ 4 := by omega
  have hm : (x : Int).tmod 5 = (k : Int) := by rw [Int.tmod_eq_emod_of_nonneg (by omega)]; omega
  have HAL := Lib.hid (fun w => tel_any hk w)
  obtain ⟨h64, hnv⟩ := tel_len hk
  have HNV := Lib.hid hnv
  have HRL := Lib.hid (fun (w : World) (A : Option Addr) (c : Nat) (h : RuleS w A (tlN k) (tlA k) (tlH k) (tlM k)) => tel_rel (c := c) hk h)
  have HLO := Lib.hid (fun (w : World) (A : Option Addr) (c : Nat) (h : RuleS w A (tlN k) (tlA k) (tlH k) (tlM k)) => tel_los (c := c) hk h)
  obtain ⟨N, eN⟩ : ∃ N, N = (losRs (tlS k) k).length := ⟨_, rfl⟩
  rw [← eN] at h64 HLO HNV
  have HLS := Lib.hid (fun (X : World) (x : Value) (h : LosS X x k) (r t : Nat) (hr : r < N) (ht : t < k + 1) => by
    have h' : SysR X x 2 1 ((k : Int) + 1) (losRs (tlS k) k).length (lT (losRs (tlS k) k)) (fun _ _ => 2) (psL (tlS k) (losRs (tlS k) k)) (lT (losRs (tlS k) k)) (lF (losRs (tlS k) k)) := h
    rw [← eN] at h'
    have := Common_any x 2 1 ((k : Int) + 1) N (lT (losRs (tlS k) k)) (fun _ _ => 2) (psL (tlS k) (losRs (tlS k) k)) (lT (losRs (tlS k) k)) (lF (losRs (tlS k) k)) r t 0 X h' (by omega)
    rw [(HNV.out r t hr ht).1, (HNV.out r t hr ht).2] at this
    exact this)
  have HRS := Lib.hid (fun (X : World) (x : Value) (h : RelS X x k) (r t : Nat) (hr : r < 2) (ht : t < k + 1) => by
    have := Common_any x 2 1 ((k : Int) + 1) 2 (lT (relB k 2)) (fun _ _ => 2) (psL (tlS k) (relB k 2)) (lT (relB k 2)) (lF (relB k 2)) r t 0 X h (by omega)
    rw [(tl_com hk hr ht).1, (tl_com hk hr ht).2] at this
    exact this)
  clear ek hnv HNV eN
  go_enter Try.func10, Try.ntmps10
  go_upto_region 3 with (go_at_call 30; refine (HAL.out _).mono ?_; rintro e w1 ⟨A, c, rfl, hr, hb⟩; have HR := Lib.hid hr; have HB := Lib.hid hb; clear hr hb)
  obtain ⟨n, en⟩ : ∃ n, n = tlN k := ⟨_, rfl⟩
  rw [← en] at HR HRL HLO ⊢
  have hbk := Blk.new w1 #[.int .i64 k, .slice A n c] 43
  have hba := below_alloc w1 (.cells #[.int .i64 k, .slice A n c] 43)
  obtain ⟨V, eV⟩ : ∃ V, V = w1.alloc (.cells #[.int .i64 k, .slice A n c] 43) := ⟨_, rfl⟩
  rw [← eV] at hbk hba ⊢
  obtain ⟨b1, eb1⟩ : ∃ b, b = w1.heap.size := ⟨_, rfl⟩
  rw [← eb1] at hbk ⊢
  have HB := Lib.hid (below_trans HB.out hba)
  have HR := Lib.hid (HR.out.below hba)
  have HE := Lib.hid hbk
  have d0 := hbk.cell (k := 0) rfl
  have d1 := hbk.cell (k := 1) rfl
  clear hbk hba eV eb1 HAL en
  go_upto_region 4 with (go_at_call 33; refine (HRL.out _ _ _ HR.out).mono ?_; rintro e w3 ⟨B, d, rfl, hsy, hb3⟩; have HSY := Lib.hid hsy; have HB := Lib.hid (below_trans HB.out hb3); have HR := Lib.hid (HR.out.below hb3); have HE := Lib.hid (HE.out.below hb3); clear hsy hb3)
  have hbk := Blk.new w3 #[.int .i64 2, .int .i64 1, .int .i64 ((k : Int) + 1), .slice B 2 d] 24
  have hba := below_alloc w3 (.cells #[.int .i64 2, .int .i64 1, .int .i64 ((k : Int) + 1), .slice B 2 d] 24)
  obtain ⟨V2, eV⟩ : ∃ V, V = w3.alloc (.cells #[.int .i64 2, .int .i64 1, .int .i64 ((k : Int) + 1), .slice B 2 d] 24) := ⟨_, rfl⟩
  rw [← eV] at hbk hba ⊢
  obtain ⟨bS, eb3⟩ : ∃ b, b = w3.heap.size := ⟨_, rfl⟩
  rw [← eb3] at hbk ⊢
  have HB := Lib.hid (below_trans HB.out hba)
  have HR := Lib.hid (HR.out.below hba)
  have HSY := Lib.hid (relS_below HSY.out hba)
  have HK := Lib.hid hbk
  clear d0 d1
  have d0 := (HE.out.below hba).cell (k := 0) rfl
  have d1 := (HE.out.below hba).cell (k := 1) rfl
  clear hbk hba eV eb3 HRL HE
  go_upto_region 5 with (go_at_call 27; refine (HLO.out _ _ _ HR.out).mono ?_; rintro e w4 ⟨B2, d2, rfl, hsy, hb3⟩; have HSL := Lib.hid hsy; have HB := Lib.hid (below_trans HB.out hb3); have HSY := Lib.hid (relS_below HSY.out hb3); have HK := Lib.hid (HK.out.below hb3); clear hsy hb3)
  have hbk := Blk.new w4 #[.int .i64 2, .int .i64 1, .int .i64 ((k : Int) + 1), .slice B2 N d2] 24
  have hba := below_alloc w4 (.cells #[.int .i64 2, .int .i64 1, .int .i64 ((k : Int) + 1), .slice B2 N d2] 24)
  obtain ⟨V3, eV⟩ : ∃ V, V = w4.alloc (.cells #[.int .i64 2, .int .i64 1, .int .i64 ((k : Int) + 1), .slice B2 N d2] 24) := ⟨_, rfl⟩
  rw [← eV] at hbk hba ⊢
  obtain ⟨bL, eb3⟩ : ∃ b, b = w4.heap.size := ⟨_, rfl⟩
  rw [← eb3] at hbk ⊢
  have HB := Lib.hid (below_trans HB.out hba)
  have HSY := Lib.hid (relS_below HSY.out hba)
  have HSL := Lib.hid (losS_below HSL.out hba)
  have HK := Lib.hid (HK.out.below hba)
  have HL := Lib.hid hbk
  have q2 := HK.out.cell (k := 2) rfl
  have q3 := HK.out.cell (k := 3) rfl
  have l2 := hbk.cell (k := 2) rfl
  have l3 := hbk.cell (k := 3) rfl
  have t2 : decide ((64 : Int) < (N : Int)) = false := decide_eq_false (by omega)
  have t3 : ((k : Int) + 1 != (k : Int) + 1) = false := by simp
  clear d0 d1 hbk hba eV eb3 HLO HR
  go_wp2_with fail
  clear q2 q3 l2 l3 t2 t3
  go_loopw [73] (fun iv wr => ∃ i : Nat, i ≤ k + 1 ∧ iv = .int .i64 i ∧ Below V3.heap.size V3 wr) (fun iv _ => k + 1 - (intOf iv).toNat)
  case atStart => exact ⟨0, Nat.zero_le _, rfl, Below.refl _ _⟩
  case round =>
    obtain ⟨i, hi, rfl, hbl⟩ := hrel
    have HBL := Lib.hid hbl
    by_cases hlt : i < k + 1
    · have hii : (i : Int) < (k : Int) + 1 := by omega
      have q3 := (HK.out.below hbl).cell (k := 3) rfl
      clear hbl
      go_wp2_with fail
      clear q3
      go_loopw [79] (fun iv wr => ∃ j : Nat, j ≤ 2 ∧ iv = .int .i64 j ∧ Below V3.heap.size V3 wr) (fun iv _ => 2 - (intOf iv).toNat)
      case atStart => exact ⟨0, Nat.zero_le _, rfl, HBL.out⟩
      case round =>
        clear HBL
        obtain ⟨j, hj, rfl, hbl⟩ := hrel
        have HBL := Lib.hid hbl
        by_cases hjt : j < 2
        · have hjj : (j : Int) < 2 := by omega
          have q0 := (HK.out.below hbl).cell (k := 0) rfl
          have q1 := (HK.out.below hbl).cell (k := 1) rfl
          have q2 := (HK.out.below hbl).cell (k := 2) rfl
          have q3 := (HK.out.below hbl).cell (k := 3) rfl
          have t5 : (decide ((0 : Int) < (i : Int)) != decide ((0 : Int) < (i : Int))) = false := by simp
          clear hbl
          go_wp2_with (go_at_call 16; refine (HRS.out _ _ (relS_below HSY.out HBL.out) j i hjt hlt).mono ?_; rintro e w6 ⟨rfl, hb1⟩; have HBL := Lib.hid (below_trans HBL.out hb1); clear hb1)
          go_roundw
          case rel => exact ⟨j + 1, by omega, by go_num, HBL.out⟩
          case measure => simp [intOf]; omega
        · obtain rfl : j = 2 := by omega
          rw [show (((2 : Nat)) : Int) = 2 from rfl]
          have l3 := (HL.out.below hbl).cell (k := 3) rfl
          clear hbl
          go_wp2_with fail
          clear l3
          go_loopw [102] (fun iv wr => ∃ j : Nat, j ≤ N ∧ iv = .int .i64 j ∧ Below V3.heap.size V3 wr) (fun iv _ => N - (intOf iv).toNat)
          case atStart => exact ⟨0, Nat.zero_le _, rfl, HBL.out⟩
          case round =>
            clear HBL
            obtain ⟨j, hj, rfl, hbl⟩ := hrel
            have HBL := Lib.hid hbl
            by_cases hjt : j < N
            · have hjj : (j : Int) < (N : Int) := by omega
              have q0 := (HL.out.below hbl).cell (k := 0) rfl
              have q1 := (HL.out.below hbl).cell (k := 1) rfl
              have q2 := (HL.out.below hbl).cell (k := 2) rfl
              have q3 := (HL.out.below hbl).cell (k := 3) rfl
              clear hbl
              go_wp2_with (go_at_call 16; refine (HLS.out _ _ (losS_below HSL.out HBL.out) j i hjt hlt).mono ?_; rintro e w6 ⟨rfl, hb1⟩; have HBL := Lib.hid (below_trans HBL.out hb1); clear hb1)
              go_roundw
              case rel => exact ⟨j + 1, by omega, by go_num, HBL.out⟩
              case measure => simp [intOf]; omega
            · obtain rfl : j = N := by omega
              clear hbl
              go_wp2_with fail
              go_roundw
              case rel => exact ⟨i + 1, by omega, by go_num, HBL.out⟩
              case measure => simp [intOf]; omega
    · obtain rfl : i = k + 1 := by omega
      clear hbl
      go_wp2_with (go_at_call 13; refine (awake_any _).mono ?_; rintro e w2 ⟨rfl, hst⟩; have HB := Lib.hid (below_trans HB.out (below_trans HBL.out hst)); clear hst)
      go_ret
      exact ⟨rfl, HB.out⟩
end Go.Proofs.Ytahaimecchdfeaa
