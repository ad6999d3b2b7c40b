/-
  Walks: the law UpdateFamilies, over whatever memory.
-/
import Derived.Test.YtgnmelmmcpmhoaaProg
import Derived.Test.YtgnmelmmcpmhoaaBase
import Derived.Test.YtgnmelmmcpmhoaaUpdA
import Derived.Test.YtgnmelmmcpmhoaaUpdB
import Derived.Test.YtgnmelmmcpmhoaaUpdC
import Derived.Test.YtgnmelmmcpmhoaaUpdD
import Derived.Test.YtgnmelmmcpmhoaaUpdE
import Derived.Test.YtgnmelmmcpmhoaaUpdF
import Derived.Test.YtgnmelmmcpmhoaaRefB
import Derived.Test.YtgnmelmmcpmhoaaLawA
import Derived.Test.YtgnmelmmcpmhoaaLawB
import Derived.Test.YtgnmelmmcpmhoaaPlain
namespace Go.Proofs.Ytgnmelmmcpmhoaa
open Go.RowKit

theorem famPost0_of' {k n : Nat} {cl : Nat → Nat → Bool} {w w' : World} {e : Ending} (hk : k ≤ 3) (hn : n = 2 ^ k) (h : FamPost k cl w e w') : FamPost0 k n cl w e w' := by
  subst hn; exact famPost0_of hk h
theorem fam_check {k n : Nat} (hk : k ≤ 3) (hn : n = 2 ^ k) : checkZ k n (fun _ => n) (famF n subB) = 0 ∧ checkZ k n (fun _ => n) (famF n cntB) = 0 ∧ totalB k n (fun _ => n) (famF n cntB) = true := by
  have h : k = 0 ∨ k = 1 ∨ k = 2 ∨ k = 3 := by omega
  subst hn
  rcases h with rfl | rfl | rfl | rfl <;> decide +kernel
theorem fam_inside {k n v x u : Nat} (hk : k ≤ 3) (hn : n = 2 ^ k) (hv : v < n) (hx : x < n) (hu : u < n) : strB (famF n subB v) x u = true → strB (famF n cntB v) x u = true := by
  have h : k = 0 ∨ k = 1 ∨ k = 2 ∨ k = 3 := by omega
  subst hn
  have key : ∀ k : Nat, k < 4 → ∀ v : Nat, v < 2 ^ k → ∀ x : Nat, x < 2 ^ k → ∀ u : Nat, u < 2 ^ k → (!strB (famF (2 ^ k) subB v) x u || strB (famF (2 ^ k) cntB v) x u) = true := by decide +kernel
  have := key k (by omega) v hv x hx u hu
  intro h1
  rw [h1] at this
  simpa using this
theorem fam_min {k n v s : Nat} (hk : k ≤ 3) (hn : n = 2 ^ k) (hv : v < n) {u : Nat} (h : (minS n (famF n cntB v) s).testBit u = true) : (minS n (famF n subB v) s).testBit u = true := by
  rw [minS_bit] at *
  refine ⟨h.1, h.2.1, fun x hx hxs => ?_⟩
  cases hc : strB (famF n subB v) x u
  · rfl
  · have := fam_inside hk hn hv hx h.1 hc
    rw [h.2.2 x hx hxs] at this; cases this
theorem minS_lt (n : Nat) (f : Nat → Nat) (s : Nat) : minS n f s < 2 ^ n := mkSet_lt _ _
theorem min_val (k n : Nat) (cl : Nat → Nat → Bool) (v s X : Nat) (A : Option Addr) (c : Nat) (R : Nat → Option Addr) (cc : Nat → Nat) (w : World) (hM : Mat w A n R (fun _ => n) cc (famF n cl))
    (hX : X = minS n (famF n cl v) s) (hk : k ≤ 3) (hn : n = 2 ^ k) (hc : checkZ k n (fun _ => n) (famF n cl) = 0) (hv : v < n) (hs : s < 2 ^ n) :
    Calls Try.prog 25 #[.agg #[.int .i64 k, .slice A n c], .int .i64 v, .int .u64 s] w fun e w' => e = .returned (.tuple #[.int .u64 X, .int .i64 0]) ∧ Below w.heap.size w w' := by
  have h8 := pow_le8 hn hk
  have h64 := pow_lt64 (k := n) (by omega)
  have h := Minimal_any k v s A n c R (fun _ => n) cc (famF n cl) w hM (by omega) (by omega)
  have e1 : minimalV k n (fun _ => n) (famF n cl) v s = X := by unfold minimalV; rw [if_pos ⟨hc, ⟨by omega, by omega⟩, hs⟩, hX]; rfl
  have e2 : minimalE k n (fun _ => n) (famF n cl) v s = 0 := by unfold minimalE; rw [if_pos hc, if_pos ⟨⟨by omega, by omega⟩, hs⟩]
  rw [e1, e2] at h
  exact h
theorem bits_hasnt' (s v : Nat) (hs : s < 18446744073709551616) (hv : v ≤ 64) : (bits .and .u64 ((s : Int) / 2 ^ v) 1 == 0) = !s.testBit v := by
  have h := bits_hasnt s v hs
  rwa [Nat.min_eq_left hv] at h
theorem chk_val (k n : Nat) (cl : Nat → Nat → Bool) (A : Option Addr) (c : Nat) (R : Nat → Option Addr) (cc : Nat → Nat) (w : World) (hM : Mat w A n R (fun _ => n) cc (famF n cl)) (hc : checkZ k n (fun _ => n) (famF n cl) = 0) :
    Calls Try.prog 20 #[.agg #[.int .i64 k, .slice A n c]] w fun e w' => e = .returned (.int .i64 0) ∧ Below w.heap.size w w' := by
  have h := updCheck_any k A n c R (fun _ => n) cc (famF n cl) w hM
  rw [hc] at h
  exact h
theorem tot_val (k n : Nat) (cl : Nat → Nat → Bool) (A : Option Addr) (c : Nat) (R : Nat → Option Addr) (cc : Nat → Nat) (w : World) (hM : Mat w A n R (fun _ => n) cc (famF n cl)) (hc : totalB k n (fun _ => n) (famF n cl) = true) :
    Calls Try.prog 22 #[.agg #[.int .i64 k, .slice A n c]] w fun e w' => e = .returned (.bool true) ∧ Below w.heap.size w w' := by
  have h := Total_any k A n c R (fun _ => n) cc (famF n cl) w hM
  rw [hc] at h
  exact h

set_option maxHeartbeats 4000000 in
theorem families_core (x y s : Nat) (w : World) (hx : x < 256) (hy : y < 256) (hs : s < 18446744073709551616) :
    Calls Try.prog 10 #[.int .u8 x, .int .u8 y, .int .u64 s] w fun e w' => e = .returned (.bool true) ∧ Below w.heap.size w w' := by
  have HB := Lib.hid (Below.refl w.heap.size w)
  obtain ⟨kk, ekk⟩ : ∃ kk, kk = x % 4 := ⟨_, rfl⟩
  have hk3 : kk ≤ 3 := by omega
  have hmx : (x : Int) % 4 = (kk : Int) := by rw [ekk]; rfl
  obtain ⟨n, hn⟩ : ∃ n, n = 2 ^ kk := ⟨_, rfl⟩
  have hn8 := pow_le8 hn hk3
  have hn1 : 1 ≤ n := by rw [hn]; exact Nat.two_pow_pos kk
  have hw := wrap_pow hn (by omega)
  obtain ⟨v, ev⟩ : ∃ v, v = y % n := ⟨_, rfl⟩
  have hvn : v < n := by rw [ev]; exact Nat.mod_lt _ (by omega)
  have hmod : (y : Int) % (n : Int) = (v : Int) := by rw [ev]; rfl
  have hmod' : (y : Int).tmod (n : Int) = (v : Int) := by rw [Int.tmod_eq_emod_of_nonneg (by omega)]; exact hmod
  obtain ⟨ss, ess⟩ : ∃ ss, ss = s &&& (2 ^ 2 ^ kk - 1) := ⟨_, rfl⟩
  obtain ⟨hms, hsl⟩ := and_mask (by omega) hs ess
  rw [← hn] at hsl
  have h64 := pow_lt64 (k := n) (by omega)
  obtain ⟨P, eP⟩ : ∃ P, P = 2 ^ v := ⟨_, rfl⟩
  have hsh := shl_one eP (by omega)
  obtain ⟨c1, c2, c3⟩ := fam_check hk3 hn
  obtain ⟨X, eX⟩ : ∃ X, X = minS n (famF n subB v) ss := ⟨_, rfl⟩
  obtain ⟨Y, eY⟩ : ∃ Y, Y = minS n (famF n cntB v) ss := ⟨_, rfl⟩
  have hXl : X < 2 ^ n := by rw [eX]; exact minS_lt _ _ _
  have hYl : Y < 2 ^ n := by rw [eY]; exact minS_lt _ _ _
  have hyx : bits .andNot .u64 (Y : Int) (X : Int) = 0 := by
    rw [bits_andNot _ _ (by omega) (by omega), (andNot_eq_zero (by omega) (by omega)).2 fun i hi => ?_]
    · rfl
    · rw [eX]; rw [eY] at hi; exact fam_min hk3 hn hvn hi
  have hself : (bits .and .u64 ((ss : Int) / 2 ^ v) 1 == 0) = true ∨ ((bits .and .u64 ((ss : Int) / 2 ^ v) 1 == 0) = false ∧ ((X : Int) == (P : Int)) = true ∧ ((Y : Int) == (P : Int)) = true) := by
    rw [bits_hasnt' ss v (by omega) (by omega)]
    cases hb : ss.testBit v
    · exact .inl rfl
    · refine .inr ⟨rfl, ?_, ?_⟩
      · have : X = P := by
          rw [eX, eP]
          apply Nat.eq_of_testBit_eq
          intro i
          rw [Bool.eq_iff_iff, min_self (famOk_of c1) hvn hb, Nat.testBit_two_pow]
          simp only [decide_eq_true_eq]; exact eq_comm
        rw [this]; simp
      · have : Y = P := by
          rw [eY, eP]
          apply Nat.eq_of_testBit_eq
          intro i
          rw [Bool.eq_iff_iff, min_self (famOk_of c2) hvn hb, Nat.testBit_two_pow]
          simp only [decide_eq_true_eq]; exact eq_comm
        rw [this]; simp
  have HX := Lib.hid eX
  have HY := Lib.hid eY
  have HN := Lib.hid hn
  have HK := Lib.hid hk3
  have LS := Lib.hid hsl
  have C1 := Lib.hid c1
  have C2 := Lib.hid c2
  have C3 := Lib.hid c3
  have HS := Lib.hid hself
  clear eX eY eP hn hsl c1 c2 c3 hself ekk ev ess hXl hYl h64
  go_enter Try.func10, Try.ntmps10
  go_wp2_with fail
  refine (awake_any _).mono ?_
  rintro e w0 ⟨rfl, hst⟩
  have HB := Lib.hid (HB.out.trans (hst.mono HB.out.size))
  clear hst
  go_wp2_with fail
  refine (Winslett_any kk _).mono ?_
  intro e v8 h1
  obtain ⟨A8, k8, R, cc, rfl, hm, hf, hb⟩ := famPost0_of' HK.out HN.out h1
  clear h1 hf
  go_upto_region 5 with (fail)
  have hst := hb.trans ((below_alloc v8 (.cells #[.int .i64 kk, .slice A8 n k8] 24)).mono hb.size)
  have HG8 := Lib.hid (Fam.new (k := kk) (c := k8) 24 hm)
  have HB := Lib.hid (HB.out.trans (hst.mono HB.out.size))
  clear hm hb
  generalize v8.alloc _ = W at HB hst HG8 ⊢
  generalize v8.heap.size = b8 at HG8 ⊢
  go_wp2_with fail
  refine (Forbus_any kk _).mono ?_
  intro e v10 h1
  obtain ⟨A10, k10, R, cc, rfl, hm, hf, hb⟩ := famPost0_of' HK.out HN.out h1
  clear h1 hf
  go_upto_region 6 with (fail)
  have hst := hb.trans ((below_alloc v10 (.cells #[.int .i64 kk, .slice A10 n k10] 24)).mono hb.size)
  have HG10 := Lib.hid (Fam.new (k := kk) (c := k10) 24 hm)
  have HB := Lib.hid (HB.out.trans (hst.mono HB.out.size))
  clear hm hb
  generalize v10.alloc _ = W at HB hst HG10 ⊢
  generalize v10.heap.size = b10 at HG10 ⊢
  have HG8 := Lib.hid (HG8.out.below hst)
  have d0 := HG8.out.c0
  have d1 := HG8.out.c1
  obtain ⟨R, cc, hm⟩ := HG8.out.mat
  have HM := Lib.hid hm
  clear hm
  go_wp2_with fail
  refine (chk_val kk n subB _ _ _ _ _ HM.out C1.out).mono ?_
  rintro e V ⟨rfl, hst⟩
  clear HM d0 d1
  have HB := Lib.hid (HB.out.trans (hst.mono HB.out.size))
  have HG8 := Lib.hid (HG8.out.below hst)
  have HG10 := Lib.hid (HG10.out.below hst)
  have d0 := HG10.out.c0
  have d1 := HG10.out.c1
  obtain ⟨R, cc, hm⟩ := HG10.out.mat
  have HM := Lib.hid hm
  clear hm
  go_wp2_with fail
  refine (chk_val kk n cntB _ _ _ _ _ HM.out C2.out).mono ?_
  rintro e V ⟨rfl, hst⟩
  clear HM d0 d1
  have HB := Lib.hid (HB.out.trans (hst.mono HB.out.size))
  have HG8 := Lib.hid (HG8.out.below hst)
  have HG10 := Lib.hid (HG10.out.below hst)
  have d0 := HG10.out.c0
  have d1 := HG10.out.c1
  obtain ⟨R, cc, hm⟩ := HG10.out.mat
  have HM := Lib.hid hm
  clear hm
  go_wp2_with fail
  refine (tot_val kk n cntB _ _ _ _ _ HM.out C3.out).mono ?_
  rintro e V ⟨rfl, hst⟩
  clear HM d0 d1
  have HB := Lib.hid (HB.out.trans (hst.mono HB.out.size))
  have HG8 := Lib.hid (HG8.out.below hst)
  have HG10 := Lib.hid (HG10.out.below hst)
  go_wp2_with fail
  go_quiet ((go_at_call 32; first | exact quiet_l0 (lawAll_any _ _ (by omega)) | exact quiet_l1 (lawAll_any _ _ (by omega))))
  generalize hV : World.drewN _ _ = V2
  have HG8 : Hid (Fam V2 b8 kk n subB A8 k8) := by rw [← hV]; exact ⟨HG8.out.c0, HG8.out.c1, HG8.out.mat⟩
  have HG10 : Hid (Fam V2 b10 kk n cntB A10 k10) := by rw [← hV]; exact ⟨HG10.out.c0, HG10.out.c1, HG10.out.mat⟩
  have HB : Hid (Below w.heap.size w V2) := by rw [← hV]; exact below_drewN HB.out _
  clear hV
  have d0 := HG8.out.c0
  have d1 := HG8.out.c1
  obtain ⟨R, cc, hm⟩ := HG8.out.mat
  have HM := Lib.hid hm
  clear hm
  go_wp2_with fail
  refine (min_val kk n subB v ss X _ _ _ _ _ HM.out HX.out HK.out HN.out C1.out hvn LS.out).mono ?_
  rintro e V ⟨rfl, hst⟩
  clear HM d0 d1
  have HB := Lib.hid (HB.out.trans (hst.mono HB.out.size))
  have HG8 := Lib.hid (HG8.out.below hst)
  have HG10 := Lib.hid (HG10.out.below hst)
  have d0 := HG10.out.c0
  have d1 := HG10.out.c1
  obtain ⟨R, cc, hm⟩ := HG10.out.mat
  have HM := Lib.hid hm
  clear hm
  go_wp2_with fail
  refine (min_val kk n cntB v ss Y _ _ _ _ _ HM.out HY.out HK.out HN.out C2.out hvn LS.out).mono ?_
  rintro e V ⟨rfl, hst⟩
  clear HM d0 d1
  have HB := Lib.hid (HB.out.trans (hst.mono HB.out.size))
  rcases HS.out with h | ⟨h, h2, h3⟩
  all_goals
    go_wp2
    go_ret
    exact ⟨rfl, HB.out⟩
end Go.Proofs.Ytgnmelmmcpmhoaa
