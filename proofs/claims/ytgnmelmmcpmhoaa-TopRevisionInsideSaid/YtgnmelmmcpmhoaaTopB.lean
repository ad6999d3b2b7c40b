/-
  Walks: the law TopPointwise, over whatever memory.
-/
import Derived.Test.YtgnmelmmcpmhoaaProg
import Derived.Test.YtgnmelmmcpmhoaaBase
import Derived.Test.YtgnmelmmcpmhoaaUpdA
import Derived.Test.YtgnmelmmcpmhoaaUpdB
import Derived.Test.YtgnmelmmcpmhoaaUpdC
import Derived.Test.YtgnmelmmcpmhoaaUpdD
import Derived.Test.YtgnmelmmcpmhoaaUpdE
import Derived.Test.YtgnmelmmcpmhoaaUpdF
import Derived.Test.YtgnmelmmcpmhoaaLawA
import Derived.Test.YtgnmelmmcpmhoaaLawB
import Derived.Test.YtgnmelmmcpmhoaaLawC
import Derived.Test.YtgnmelmmcpmhoaaLawE
import Derived.Test.YtgnmelmmcpmhoaaPlain
import Derived.Test.YtgnmelmmcpmhoaaRevC
import Derived.Test.YtgnmelmmcpmhoaaTopA
import Derived.Test.YtgnmelmmcpmhoaaTopP
namespace Go.Proofs.Ytgnmelmmcpmhoaa
open Go.RowKit

theorem upds_val (kk b s X : Nat) (A : Option Addr) (n c : Nat) (R : Nat → Option Addr) (m cc : Nat → Nat) (F : Nat → Nat → Nat) (w : World) (hM : Mat w A n R m cc F)
    (hX : X = updS n F b s) (hc : checkZ kk n m F = 0) (hb : b < 2 ^ n) (hs : s < 2 ^ n) :
    Calls Try.prog 27 #[.agg #[.int .i64 kk, .slice A n c], .int .u64 b, .int .u64 s] w fun e w' => e = .returned (.tuple #[.int .u64 X, .int .i64 0]) ∧ Below w.heap.size w w' := by
  obtain ⟨kk', h1, h2, h3, -⟩ := checkZ_ok hc
  have h8 := pow_le8 h3 h2
  have h64 := pow_lt64 (k := n) (by omega)
  have h := Update_any kk b s A n c R m cc F w hM (by omega) (by omega)
  have e1 : updV kk n m F b s = X := by unfold updV; rw [if_pos ⟨hc, hb, hs⟩, hX]
  have e2 : updE kk n m F b s = 0 := by unfold updE; rw [if_pos hc, if_pos ⟨hb, hs⟩]
  rw [e1, e2] at h
  exact h
theorem dalU_lt {b n : Nat} {N s : Nat} : unionS b (fun v => dalS N (2 ^ v) s) n < 2 ^ N := unionS_lt fun _ _ => dalS_lt _ _ _
theorem or_dal {u N b s : Nat} (hN : N ≤ 63) (h : b.testBit u = true) : bits .or .u64 (unionS b (fun v => dalS N (2 ^ v) s) u : Int) (dalS N (2 ^ u) s : Int) = ((unionS b (fun v => dalS N (2 ^ v) s) (u + 1) : Nat) : Int) := by
  have h1 : unionS b (fun v => dalS N (2 ^ v) s) u < 2 ^ N := dalU_lt
  have h2 := dalS_lt N (2 ^ u) s
  have h3 : 2 ^ N ≤ 2 ^ 64 := Nat.pow_le_pow_right (by decide) (by omega)
  rw [u64_or_nat _ _ (by omega) (by omega), unionS_yes h]

set_option maxHeartbeats 4000000 in
theorem pointwise_core (x b s : Nat) (w : World) (hx : x < 256) (hb : b < 18446744073709551616) (hs : s < 18446744073709551616) :
    Calls Try.prog 11 #[.int .u8 x, .int .u64 b, .int .u64 s] w fun e w' => e = .returned (.bool true) ∧ Below w.heap.size w w' := by
  have HB := Lib.hid (Below.refl w.heap.size w)
  obtain ⟨kk, ekk⟩ : ∃ kk, kk = x % 4 := ⟨_, rfl⟩
  have hk3 : kk ≤ 3 := by omega
  have hmx : (x : Int) % 4 = (kk : Int) := by rw [ekk]; rfl
  obtain ⟨n, hn⟩ : ∃ n, n = 2 ^ kk := ⟨_, rfl⟩
  have hn8 := pow_le8 hn hk3
  have hw := wrap_pow hn (by omega)
  have hall := all_val kk (by omega)
  obtain ⟨bb, ebb⟩ : ∃ bb, bb = b &&& (2 ^ 2 ^ kk - 1) := ⟨_, rfl⟩
  obtain ⟨ss, ess⟩ : ∃ ss, ss = s &&& (2 ^ 2 ^ kk - 1) := ⟨_, rfl⟩
  obtain ⟨hmb, hbl⟩ := and_mask (by omega) hb ebb
  obtain ⟨hms, hsl⟩ := and_mask (by omega) hs ess
  rw [← hn] at hbl hsl
  have h64 := pow_lt64 (k := n) (by omega)
  have hb64 : bb < 18446744073709551616 := by omega
  obtain ⟨c1, c2, c3⟩ := fam_check hk3 hn
  obtain ⟨M, eM⟩ : ∃ M, M = 2 ^ 2 ^ kk - 1 := ⟨_, rfl⟩
  rw [← eM] at hall hmb hms
  obtain ⟨X, eX⟩ : ∃ X, X = updS n (famF n cntB) bb ss := ⟨_, rfl⟩
  have hend : X = unionS bb (fun v => dalS n (2 ^ v) ss) n := by rw [eX]; exact upd_dal _ _ _
  have HX := Lib.hid eX
  have HE := Lib.hid hend
  have HN := Lib.hid hn
  have HK := Lib.hid hk3
  have LS := Lib.hid hsl
  have LB := Lib.hid hbl
  have C2 := Lib.hid c2
  clear eX hn hsl hbl c1 c2 c3 ekk ebb ess h64 hend eM
  go_enter Try.func11, Try.ntmps11
  go_wp2_with fail
  refine (bMoves_any _).mono ?_
  rintro e w0 ⟨rfl, hst⟩
  have HB := Lib.hid (HB.out.trans (hst.mono HB.out.size))
  clear hst
  go_wp2_with fail
  refine (Forbus_any kk _).mono ?_
  intro e v11 h1
  obtain ⟨A11, k11, R, cc, rfl, hm, hf, hb⟩ := famPost0_of' HK.out HN.out h1
  clear h1 hf
  go_upto_region 7 with (fail)
  have hst := hb.trans ((below_alloc v11 (.cells #[.int .i64 kk, .slice A11 n k11] 24)).mono hb.size)
  have HG11 := Lib.hid (Fam.new (k := kk) (c := k11) 24 hm)
  have HB := Lib.hid (HB.out.trans (hst.mono HB.out.size))
  clear hm hb
  generalize v11.alloc _ = W at HB hst HG11 ⊢
  generalize v11.heap.size = b11 at HG11 ⊢
  have d0 := HG11.out.c0
  have d1 := HG11.out.c1
  obtain ⟨R, cc, hm⟩ := HG11.out.mat
  have HM := Lib.hid hm
  clear hm
  go_wp2_with fail
  refine (upds_val kk bb ss X _ _ _ _ _ _ _ _ HM.out HX.out C2.out LB.out LS.out).mono ?_
  rintro e V ⟨rfl, hst⟩
  clear HM d0 d1
  have HB := Lib.hid (HB.out.trans (hst.mono HB.out.size))
  go_wp2_with fail
  have HB0 := HB
  clear HB
  go_loopw [15, 54] (fun o i wr => ∃ v : Nat, v ≤ n ∧ i = .int .i64 v ∧ o = .int .u64 (unionS bb (fun v => dalS n (2 ^ v) ss) v) ∧ Below w.heap.size w wr) (fun _ i _ => n - (intOf i).toNat)
  case atStart => exact ⟨0, Nat.zero_le _, rfl, rfl, HB0.out⟩
  case round =>
    obtain ⟨v, hv, rfl, rfl, hbw⟩ := hrel
    have HB := Lib.hid hbw
    clear hbw HB0
    by_cases hlt : v < n
    · have hbit := bits_hasnt' bb v hb64 (by omega)
      obtain ⟨P, eP⟩ : ∃ P, P = 2 ^ v := ⟨_, rfl⟩
      have hsh := shl_one eP (by omega)
      have hP : P < 2 ^ n := by rw [eP]; exact Nat.pow_lt_pow_right (by decide) hlt
      have hor := fun h => or_dal (u := v) (N := n) (b := bb) (s := ss) (by omega) h
      have hno := fun h => unionS_no (b := bb) (k := v) (g := fun v => dalS n (2 ^ v) ss) h
      obtain ⟨U, eU⟩ : ∃ U, U = unionS bb (fun v => dalS n (2 ^ v) ss) v := ⟨_, rfl⟩
      obtain ⟨V, eV⟩ : ∃ V, V = unionS bb (fun v => dalS n (2 ^ v) ss) (v + 1) := ⟨_, rfl⟩
      obtain ⟨D, eD⟩ : ∃ D, D = dalS n P ss := ⟨_, rfl⟩
      rw [← eP, ← eU, ← eV, ← eD] at hor
      rw [← eU, ← eV] at hno
      rw [← eU]
      have HD := Lib.hid eD
      have HV := Lib.hid eV
      have HP := Lib.hid hP
      clear eP eU eV eD hP
      cases hbu : bb.testBit v
      · rw [hbu] at hbit
        have HH := Lib.hid (hno hbu)
        clear hor hno
        have hbit' : (bits .and .u64 ((bb : Int) / 2 ^ v) 1 == 0) = true := hbit
        go_wp2_with fail
        go_roundw
        case rel => exact ⟨v + 1, by omega, by go_num, by rw [← HV.out, HH.out], HB.out⟩
        case measure => simp [intOf]; omega
      · rw [hbu] at hbit
        have hor' := hor hbu
        clear hor hno
        have hbit' : (bits .and .u64 ((bb : Int) / 2 ^ v) 1 == 0) = false := hbit
        go_wp2_with fail
        refine (dal_val kk n P ss D _ (by omega) HN.out HP.out LS.out HD.out).mono ?_
        rintro e w' ⟨rfl, hst⟩
        have HB := Lib.hid (HB.out.trans (hst.mono HB.out.size))
        clear hst
        go_wp2_with fail
        go_roundw
        case rel => exact ⟨v + 1, by omega, by go_num, by rw [← HV.out], HB.out⟩
        case measure => simp [intOf]; omega
    · obtain rfl : v = n := by omega
      have hfin : ((X : Int) == (unionS bb (fun u => dalS v (2 ^ u) ss) v : Nat)) = true := by rw [HE.out]; simp
      go_wp2_with fail
      go_ret
      exact ⟨rfl, HB.out⟩
end Go.Proofs.Ytgnmelmmcpmhoaa
