/-
  Texts of this claim, one after the other: what each proves is said at its head. No condition beyond those that its theorems name.
-/
import Derived.Test.YtahaimecchdfeaaProg
import Derived.Deep.DeepCutAuto
import Derived.Test.YtahaimecchdfeaaG06
import Derived.Test.YtahaimecchdfeaaG18
import Derived.Test.YtahaimecchdfeaaG20
import Derived.Test.YtahaimecchdfeaaG22
import Derived.Test.YtahaimecchdfeaaG28
import Derived.Test.YtahaimecchdfeaaG38
import Derived.Test.YtahaimecchdfeaaG40

/-
  Walk: the law AttackComponents.
-/
namespace Go.Proofs.Ytahaimecchdfeaa
open Go.RowKit

theorem cmpP_short (a f l : Int) (n : Nat) (T : Nat → Nat) (m : Nat → Nat → Nat) (L : Nat → Nat → Nat → Int) (K : Nat → Nat) (F : Nat → Nat → Nat) (r t : Int) : (cmpP a f l n T m L K F r t).length ≤ 65536 := by
  unfold cmpP
  by_cases hE : entE a f l n T m K F r t = 0
  · rw [if_pos hE, List.length_map]
    have hck : chkE a f l n T m K F = 0 := by
      unfold entE at hE
      by_cases hc : chkE a f l n T m K F = 0
      · exact hc
      · rw [if_neg hc] at hE; exact absurd hE hc
    obtain ⟨-, -, hl, hn64, -, -, -, -⟩ := chkE_ok hck
    have h1 := cmpL_len (akS a l n L) (n * l.toNat) (posP l r t)
    have h2 : n * l.toNat ≤ 64 * 16 := Nat.mul_le_mul hn64 (by omega)
    omega
  · rw [if_neg hE]
    decide
set_option maxHeartbeats 4000000 in
theorem components_core (a f l : Int) (A : Option Addr) (n c : Nat) (T : Nat → Nat) (m : Nat → Nat → Nat) (L : Nat → Nat → Nat → Int) (K : Nat → Nat) (F : Nat → Nat → Nat) (r t fc : Int) (w : World) (h : RunsW w A n T m L K F) (hn : n ≤ 9223372036854775807) :
    Calls Try.prog 3 #[.agg #[.int .i64 a, .int .i64 f, .int .i64 l, .slice A n c], .agg #[.int .i64 r, .int .i64 t], .int .i64 fc] w fun e w' => e = .returned (.bool true) ∧ Below w.heap.size w w' := by
  obtain ⟨W, hW⟩ : ∃ W, W = (w.alloc (.cells #[.int .i64 a, .int .i64 f, .int .i64 l, .slice A n c] 24)).alloc (.cells #[.int .i64 r, .int .i64 t] 26) := ⟨_, rfl⟩
  obtain ⟨k0, k1, hB⟩ := two_boxes4 w _ _ _ _ W hW
  have HR := Lib.hid (h.below hB)
  have HK := Lib.hid k0
  have HK1 := Lib.hid k1
  have HB := Lib.hid hB
  have hFW := rFew_any a f l A n c T m L K F W HR.out hn
  have HBW := Lib.hid (Below.refl W.heap.size W)
  clear k0 k1 hB h
  cases hb : fewB a l n T K with
  | false =>
    rw [hb] at hFW
    have HFW := Lib.hid hFW
    clear hb hFW
    go_enter Try.func3, Try.ntmps3
    go_upto_region 1 with (fail)
    rw [← hW]
    obtain ⟨bS, ebS⟩ : ∃ b, b = w.heap.size := ⟨_, rfl⟩
    obtain ⟨bP, ebP⟩ : ∃ b, b = w.heap.size + 1 := ⟨_, rfl⟩
    rw [← ebP, ← ebS]
    rw [← ebS] at HK
    rw [← ebP] at HK1
    clear hW ebS ebP
    have q0 := HK.out.cell (k := 0) rfl
    have q1 := HK.out.cell (k := 1) rfl
    have q2 := HK.out.cell (k := 2) rfl
    have q3 := HK.out.cell (k := 3) rfl
    go_wp2_with (first
      | (go_at_call 12; refine HFW.out.mono ?_; rintro e w1 ⟨rfl, hb1⟩; have HBW := Lib.hid (below_trans HBW.out hb1); clear hb1)
      | (go_at_call 13; refine (awake_any _).mono ?_; rintro e w2 ⟨rfl, hst⟩; have HBW := Lib.hid (below_trans HBW.out hst); clear hst))
    go_ret
    exact ⟨rfl, below_trans HB.out HBW.out⟩
  | true =>
    rw [hb] at hFW
    have HFW := Lib.hid hFW
    obtain ⟨hn70, -, -, hfew⟩ := few_iff.1 hb
    have hRR := HR.out.small fun i hi => by have := hfew i hi; omega
    have hS : SysR W (.agg #[.int .i64 a, .int .i64 f, .int .i64 l, .slice A n c]) a f l n T m L K F := ⟨A, c, rfl, hRR⟩
    have hn6 : n ≤ 65536 := by omega
    have H1 := Lib.hid (fun (X : World) (hX : Below W.heap.size W X) => Component_any _ _ _ _ _ _ _ _ _ _ r t X (sys_below hS hX) hn6)
    have H2 := Lib.hid (fun (X : World) (hX : Below W.heap.size W X) => rComponent_any _ _ _ _ _ _ _ _ _ _ r t X (sys_below hS hX) hn6)
    have H3 := Lib.hid (fun (X : World) (hX : Below W.heap.size W X) => Common_any _ _ _ _ _ _ _ _ _ _ r t fc X (sys_below hS hX) hn6)
    have H4 := Lib.hid (fun (X : World) (hX : Below W.heap.size W X) => rCommon_any _ _ _ _ _ _ _ _ _ _ r t fc X (sys_below hS hX) hn6)
    have H5 := Lib.hid (fun (X : World) (hX : Below W.heap.size W X) => Delivered_any _ _ _ _ _ _ _ _ _ _ r t X (sys_below hS hX) hn6)
    have H6 := Lib.hid (fun (X : World) (hX : Below W.heap.size W X) => rDelivered_any _ _ _ _ _ _ _ _ _ _ r t X (sys_below hS hX) hn6)
    have hcl := cmpP_short a f l n T m L K F r t
    obtain ⟨E1, e1⟩ : ∃ E, E = entE a f l n T m K F r t := ⟨_, rfl⟩
    obtain ⟨cp, e2⟩ : ∃ E, E = cmpP a f l n T m L K F r t := ⟨_, rfl⟩
    obtain ⟨E3, e3⟩ : ∃ E, E = comE a f l n T m K F r t fc := ⟨_, rfl⟩
    obtain ⟨V3, e4⟩ : ∃ E, E = comV a f l n T m L K F r t fc := ⟨_, rfl⟩
    obtain ⟨E5, e5⟩ : ∃ E, E = delF a f l n T m L K F r t := ⟨_, rfl⟩
    obtain ⟨V5, e6⟩ : ∃ E, E = delV a f l n T m L K F r t := ⟨_, rfl⟩
    rw [← e1, ← e2] at H1 H2
    rw [← e3, ← e4] at H3 H4
    rw [← e5, ← e6] at H5 H6
    rw [← e2] at hcl
    have u1 : ((E1 : Int) == (E1 : Int)) = true := by simp
    have u2 : (V3 == V3) = true := by simp
    have u3 : ((E3 : Int) == (E3 : Int)) = true := by simp
    have u4 : ((V5 : Int) == (V5 : Int)) = true := by simp
    have u5 : ((E5 : Int) == (E5 : Int)) = true := by simp
    clear hb hFW e1 e2 e3 e4 e5 e6 hS hRR hfew HR
    go_enter Try.func3, Try.ntmps3
    go_upto_region 1 with (fail)
    rw [← hW]
    obtain ⟨bS, ebS⟩ : ∃ b, b = w.heap.size := ⟨_, rfl⟩
    obtain ⟨bP, ebP⟩ : ∃ b, b = w.heap.size + 1 := ⟨_, rfl⟩
    rw [← ebP, ← ebS]
    rw [← ebS] at HK
    rw [← ebP] at HK1
    clear hW ebS ebP
    have q0 := (HK.out.below HBW.out).cell (k := 0) rfl
    have q1 := (HK.out.below HBW.out).cell (k := 1) rfl
    have q2 := (HK.out.below HBW.out).cell (k := 2) rfl
    have q3 := (HK.out.below HBW.out).cell (k := 3) rfl
    have p0 := (HK1.out.below HBW.out).cell (k := 0) rfl
    have p1 := (HK1.out.below HBW.out).cell (k := 1) rfl
    go_upto_region 3 with (go_at_call 12; refine HFW.out.mono ?_; rintro e w1 ⟨rfl, hb1⟩; have HBW := Lib.hid (below_trans HBW.out hb1); clear hb1)
    clear q0 q1 q2 q3 p0 p1
    have q0 := (HK.out.below HBW.out).cell (k := 0) rfl
    have q1 := (HK.out.below HBW.out).cell (k := 1) rfl
    have q2 := (HK.out.below HBW.out).cell (k := 2) rfl
    have q3 := (HK.out.below HBW.out).cell (k := 3) rfl
    have p0 := (HK1.out.below HBW.out).cell (k := 0) rfl
    have p1 := (HK1.out.below HBW.out).cell (k := 1) rfl
    go_upto_region 4 with (go_at_call 14; refine (H1.out _ HBW.out).mono ?_; rintro e w1 ⟨v, rfl, hpo, hb1⟩; obtain ⟨A1, c1, rfl⟩ := hpo.shape; have HBW := Lib.hid (below_trans HBW.out hb1); have HP1 := Lib.hid hpo.pts; clear hb1 hpo)
    clear q0 q1 q2 q3 p0 p1
    have q0 := (HK.out.below HBW.out).cell (k := 0) rfl
    have q1 := (HK.out.below HBW.out).cell (k := 1) rfl
    have q2 := (HK.out.below HBW.out).cell (k := 2) rfl
    have q3 := (HK.out.below HBW.out).cell (k := 3) rfl
    have p0 := (HK1.out.below HBW.out).cell (k := 0) rfl
    have p1 := (HK1.out.below HBW.out).cell (k := 1) rfl
    go_upto_region 5 with (go_at_call 15; refine (H2.out _ HBW.out).mono ?_; rintro e w1 ⟨v, rfl, hpo, hb1⟩; obtain ⟨A2, c2, rfl⟩ := hpo.shape; have HBW := Lib.hid (below_trans HBW.out hb1); have HP1 := Lib.hid (HP1.out.below hb1); have HP2 := Lib.hid hpo.pts; clear hb1 hpo)
    clear q0 q1 q2 q3 p0 p1
    have q0 := (HK.out.below HBW.out).cell (k := 0) rfl
    have q1 := (HK.out.below HBW.out).cell (k := 1) rfl
    have q2 := (HK.out.below HBW.out).cell (k := 2) rfl
    have q3 := (HK.out.below HBW.out).cell (k := 3) rfl
    have p0 := (HK1.out.below HBW.out).cell (k := 0) rfl
    have p1 := (HK1.out.below HBW.out).cell (k := 1) rfl
    go_upto_region 6 with (go_at_call 16; refine (H3.out _ HBW.out).mono ?_; rintro e w1 ⟨rfl, hb1⟩; have HBW := Lib.hid (below_trans HBW.out hb1); have HP1 := Lib.hid (HP1.out.below hb1); have HP2 := Lib.hid (HP2.out.below hb1); clear hb1)
    clear q0 q1 q2 q3 p0 p1
    have q0 := (HK.out.below HBW.out).cell (k := 0) rfl
    have q1 := (HK.out.below HBW.out).cell (k := 1) rfl
    have q2 := (HK.out.below HBW.out).cell (k := 2) rfl
    have q3 := (HK.out.below HBW.out).cell (k := 3) rfl
    have p0 := (HK1.out.below HBW.out).cell (k := 0) rfl
    have p1 := (HK1.out.below HBW.out).cell (k := 1) rfl
    go_upto_region 7 with (go_at_call 17; refine (H4.out _ HBW.out).mono ?_; rintro e w1 ⟨rfl, hb1⟩; have HBW := Lib.hid (below_trans HBW.out hb1); have HP1 := Lib.hid (HP1.out.below hb1); have HP2 := Lib.hid (HP2.out.below hb1); clear hb1)
    clear q0 q1 q2 q3 p0 p1
    have q0 := (HK.out.below HBW.out).cell (k := 0) rfl
    have q1 := (HK.out.below HBW.out).cell (k := 1) rfl
    have q2 := (HK.out.below HBW.out).cell (k := 2) rfl
    have q3 := (HK.out.below HBW.out).cell (k := 3) rfl
    have p0 := (HK1.out.below HBW.out).cell (k := 0) rfl
    have p1 := (HK1.out.below HBW.out).cell (k := 1) rfl
    go_upto_region 8 with (go_at_call 18; refine (H5.out _ HBW.out).mono ?_; rintro e w1 ⟨rfl, hb1⟩; have HBW := Lib.hid (below_trans HBW.out hb1); have HP1 := Lib.hid (HP1.out.below hb1); have HP2 := Lib.hid (HP2.out.below hb1); clear hb1)
    clear q0 q1 q2 q3 p0 p1
    have q0 := (HK.out.below HBW.out).cell (k := 0) rfl
    have q1 := (HK.out.below HBW.out).cell (k := 1) rfl
    have q2 := (HK.out.below HBW.out).cell (k := 2) rfl
    have q3 := (HK.out.below HBW.out).cell (k := 3) rfl
    have p0 := (HK1.out.below HBW.out).cell (k := 0) rfl
    have p1 := (HK1.out.below HBW.out).cell (k := 1) rfl
    go_upto_region 9 with (go_at_call 19; refine (H6.out _ HBW.out).mono ?_; rintro e w1 ⟨rfl, hb1⟩; have HBW := Lib.hid (below_trans HBW.out hb1); have HP1 := Lib.hid (HP1.out.below hb1); have HP2 := Lib.hid (HP2.out.below hb1); clear hb1)
    clear q0 q1 q2 q3 p0 p1
    go_wp2_with (first
      | (go_at_call 20; refine (SamePoints_any _ _ _ _ _ _ _ _ _ _ _ HP1.out HP2.out hcl true ⟨fun _ => ⟨rfl, fun _ _ => ⟨rfl, rfl⟩⟩, fun _ => rfl⟩).mono ?_; rintro e w2 ⟨rfl, hst⟩; have HBW := Lib.hid (below_trans HBW.out hst); clear hst)
      | (go_at_call 13; refine (awake_any _).mono ?_; rintro e w2 ⟨rfl, hst⟩; have HBW := Lib.hid (below_trans HBW.out hst); clear hst))
    go_ret
    exact ⟨rfl, below_trans HB.out HBW.out⟩
end Go.Proofs.Ytahaimecchdfeaa
