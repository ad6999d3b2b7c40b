/-
  Texts of this claim, one after the other: what each proves is said at its head. No condition beyond those that its theorems name.
-/
import Derived.Test.YtahaimecchdfeaaProg
import Derived.Deep.DeepCutAuto
import Derived.Test.YtahaimecchdfeaaG25
import Derived.Test.YtahaimecchdfeaaG28
import Derived.Test.YtahaimecchdfeaaG40
import Derived.Test.YtahaimecchdfeaaG42

/-
  Walk: the law AttackDepths.
-/
namespace Go.Proofs.Ytahaimecchdfeaa
open Go.RowKit

set_option maxHeartbeats 4000000 in
theorem depths_core (a f l : Int) (A : Option Addr) (n c : Nat) (T : Nat → Nat) (m : Nat → Nat → Nat) (L : Nat → Nat → Nat → Int) (K : Nat → Nat) (F : Nat → Nat → Nat) (r t fc mo : Int) (w : World) (h : RunsW w A n T m L K F) (hn : n ≤ 9223372036854775807) :
    Calls Try.prog 4 #[.agg #[.int .i64 a, .int .i64 f, .int .i64 l, .slice A n c], .agg #[.int .i64 r, .int .i64 t], .agg #[.int .i64 fc, .int .i64 mo]] w fun e w' => e = .returned (.bool true) ∧ Below w.heap.size w w' := by
  obtain ⟨W, hW⟩ : ∃ W, W = ((w.alloc (.cells #[.int .i64 a, .int .i64 f, .int .i64 l, .slice A n c] 24)).alloc (.cells #[.int .i64 r, .int .i64 t] 26)).alloc (.cells #[.int .i64 fc, .int .i64 mo] 38) := ⟨_, rfl⟩
  obtain ⟨k0, k1, k2, hB⟩ := three_boxes w _ _ _ _ _ _ W hW
  have HR := Lib.hid (h.below hB)
  have HK := Lib.hid k0
  have HK1 := Lib.hid k1
  have HK2 := Lib.hid k2
  have HB := Lib.hid hB
  have hFW := rFew_any a f l A n c T m L K F W HR.out hn
  have HBW := Lib.hid (Below.refl W.heap.size W)
  clear k0 k1 k2 hB h
  cases hb : fewB a l n T K with
  | false =>
    rw [hb] at hFW
    have HFW := Lib.hid hFW
    clear hb hFW
    go_enter Try.func4, Try.ntmps4
    go_upto_region 1 with (fail)
    rw [← hW]
    obtain ⟨bS, ebS⟩ : ∃ b, b = w.heap.size := ⟨_, rfl⟩
    obtain ⟨bP, ebP⟩ : ∃ b, b = w.heap.size + 1 := ⟨_, rfl⟩
    obtain ⟨bQ, ebQ⟩ : ∃ b, b = w.heap.size + 1 + 1 := ⟨_, rfl⟩
    rw [← ebQ, ← ebP, ← ebS]
    rw [← ebS] at HK
    rw [← ebP] at HK1
    rw [← ebQ] at HK2
    clear hW ebS ebP ebQ
    have q0 := (HK.out.below HBW.out).cell (k := 0) rfl
    have q1 := (HK.out.below HBW.out).cell (k := 1) rfl
    have q2 := (HK.out.below HBW.out).cell (k := 2) rfl
    have q3 := (HK.out.below HBW.out).cell (k := 3) rfl
    have p0 := (HK1.out.below HBW.out).cell (k := 0) rfl
    have p1 := (HK1.out.below HBW.out).cell (k := 1) rfl
    have z0 := (HK2.out.below HBW.out).cell (k := 0) rfl
    have z1 := (HK2.out.below HBW.out).cell (k := 1) rfl
    go_wp2_with (first
      | (go_at_call 12; refine HFW.out.mono ?_; rintro e w1 ⟨rfl, hb1⟩; have HBW := Lib.hid (below_trans HBW.out hb1); clear hb1)
      | (go_at_call 13; refine (awake_any _).mono ?_; rintro e w2 ⟨rfl, hst⟩; have HBW := Lib.hid (below_trans HBW.out hst); clear hst))
    go_ret
    exact ⟨rfl, below_trans HB.out HBW.out⟩
  | true =>
    rw [hb] at hFW
    have HFW := Lib.hid hFW
    obtain ⟨hn70, -, -, hfew⟩ := few_iff.1 hb
    have hRR := HR.out.small fun i hi => by have := hfew i hi; omega
    have hS : SysR W (.agg #[.int .i64 a, .int .i64 f, .int .i64 l, .slice A n c]) a f l n T m L K F := ⟨A, c, rfl, hRR⟩
    have hn6 : n ≤ 65536 := by omega
    have H1 := Lib.hid (fun (X : World) (hX : Below W.heap.size W X) => Depth_any _ _ _ _ _ _ _ _ _ _ r t fc mo X (sys_below hS hX) hn6)
    have H2 := Lib.hid (fun (X : World) (hX : Below W.heap.size W X) => rDepth_any _ _ _ _ _ _ _ _ _ _ r t fc mo X (sys_below hS hX) hn6)
    obtain ⟨E1, e1⟩ : ∃ E, E = depE a f l n T m K F r t fc mo := ⟨_, rfl⟩
    obtain ⟨V1, e2⟩ : ∃ E, E = depV a f l n T m L K F r t fc mo := ⟨_, rfl⟩
    rw [← e1, ← e2] at H1 H2
    have u1 : ((E1 : Int) == (E1 : Int)) = true := by simp
    have u2 : ((V1 : Int) == (V1 : Int)) = true := by simp
    clear hb hFW e1 e2 hS hRR hfew HR
    go_enter Try.func4, Try.ntmps4
    go_upto_region 1 with (fail)
    rw [← hW]
    obtain ⟨bS, ebS⟩ : ∃ b, b = w.heap.size := ⟨_, rfl⟩
    obtain ⟨bP, ebP⟩ : ∃ b, b = w.heap.size + 1 := ⟨_, rfl⟩
    obtain ⟨bQ, ebQ⟩ : ∃ b, b = w.heap.size + 1 + 1 := ⟨_, rfl⟩
    rw [← ebQ, ← ebP, ← ebS]
    rw [← ebS] at HK
    rw [← ebP] at HK1
    rw [← ebQ] at HK2
    clear hW ebS ebP ebQ
    have q0 := (HK.out.below HBW.out).cell (k := 0) rfl
    have q1 := (HK.out.below HBW.out).cell (k := 1) rfl
    have q2 := (HK.out.below HBW.out).cell (k := 2) rfl
    have q3 := (HK.out.below HBW.out).cell (k := 3) rfl
    have p0 := (HK1.out.below HBW.out).cell (k := 0) rfl
    have p1 := (HK1.out.below HBW.out).cell (k := 1) rfl
    have z0 := (HK2.out.below HBW.out).cell (k := 0) rfl
    have z1 := (HK2.out.below HBW.out).cell (k := 1) rfl
    go_upto_region 3 with (go_at_call 12; refine HFW.out.mono ?_; rintro e w1 ⟨rfl, hb1⟩; have HBW := Lib.hid (below_trans HBW.out hb1); clear hb1)
    clear q0 q1 q2 q3 p0 p1 z0 z1
    have q0 := (HK.out.below HBW.out).cell (k := 0) rfl
    have q1 := (HK.out.below HBW.out).cell (k := 1) rfl
    have q2 := (HK.out.below HBW.out).cell (k := 2) rfl
    have q3 := (HK.out.below HBW.out).cell (k := 3) rfl
    have p0 := (HK1.out.below HBW.out).cell (k := 0) rfl
    have p1 := (HK1.out.below HBW.out).cell (k := 1) rfl
    have z0 := (HK2.out.below HBW.out).cell (k := 0) rfl
    have z1 := (HK2.out.below HBW.out).cell (k := 1) rfl
    go_upto_region 4 with (go_at_call 21; refine (H1.out _ HBW.out).mono ?_; rintro e w1 ⟨rfl, hb1⟩; have HBW := Lib.hid (below_trans HBW.out hb1); clear hb1)
    clear q0 q1 q2 q3 p0 p1 z0 z1
    have q0 := (HK.out.below HBW.out).cell (k := 0) rfl
    have q1 := (HK.out.below HBW.out).cell (k := 1) rfl
    have q2 := (HK.out.below HBW.out).cell (k := 2) rfl
    have q3 := (HK.out.below HBW.out).cell (k := 3) rfl
    have p0 := (HK1.out.below HBW.out).cell (k := 0) rfl
    have p1 := (HK1.out.below HBW.out).cell (k := 1) rfl
    have z0 := (HK2.out.below HBW.out).cell (k := 0) rfl
    have z1 := (HK2.out.below HBW.out).cell (k := 1) rfl
    go_upto_region 5 with (go_at_call 22; refine (H2.out _ HBW.out).mono ?_; rintro e w1 ⟨rfl, hb1⟩; have HBW := Lib.hid (below_trans HBW.out hb1); clear hb1)
    clear q0 q1 q2 q3 p0 p1 z0 z1
    go_wp2_with (go_at_call 13; refine (awake_any _).mono ?_; rintro e w2 ⟨rfl, hst⟩; have HBW := Lib.hid (below_trans HBW.out hst); clear hst)
    go_ret
    exact ⟨rfl, below_trans HB.out HBW.out⟩
end Go.Proofs.Ytahaimecchdfeaa
