/-
  Walks: the laws of wittingtop about update and revision: bMoves, and the plain law.
-/
import Derived.Test.YtgnmelmmcpmhoaaProg
import Derived.Test.YtgnmelmmcpmhoaaBase
import Derived.Test.YtgnmelmmcpmhoaaUpdA
import Derived.Test.YtgnmelmmcpmhoaaUpdB
import Derived.Test.YtgnmelmmcpmhoaaUpdC
import Derived.Test.YtgnmelmmcpmhoaaUpdD
import Derived.Test.YtgnmelmmcpmhoaaUpdE
import Derived.Test.YtgnmelmmcpmhoaaUpdF
import Derived.Test.YtgnmelmmcpmhoaaLawA
import Derived.Test.YtgnmelmmcpmhoaaLawC
import Derived.Test.YtgnmelmmcpmhoaaLawE
import Derived.Test.YtgnmelmmcpmhoaaRevC
namespace Go.Proofs.Ytgnmelmmcpmhoaa
open Go.RowKit

theorem dal_ex : dalS 4 6 10 = 2 := by decide +kernel
theorem dal_val (kk N b s X : Nat) (w : World) (hk : kk ≤ 4) (hN : N = 2 ^ kk) (hb : b < 2 ^ N) (hs : s < 2 ^ N) (hX : X = dalS N b s) :
    Calls Try.prog 35 #[.int .i64 kk, .int .u64 b, .int .u64 s] w fun e w' => e = .returned (.tuple #[.int .u64 X, .int .i64 0]) ∧ Below w.heap.size w w' := by
  rw [hX]; exact Dalal_in kk N b s w hk hN hb hs

set_option maxHeartbeats 2000000 in
theorem bMoves_any (w : World) : Calls Try.prog 34 #[] w fun e w' => e = .returned (.bool true) ∧ Below w.heap.size w w' := by
  have HB := Lib.hid (Below.refl w.heap.size w)
  go_enter Try.func34, Try.ntmps34
  go_wp2_with fail
  refine (Forbus_any 2 _).mono ?_
  intro e v1 h1
  obtain ⟨A1, k1, R, cc, rfl, hm, hf, hb⟩ := famPost0_of (k := 2) (by decide) h1
  clear h1 hf
  go_upto_region 2 with (fail)
  have hst := hb.trans ((below_alloc v1 (.cells #[.int .i64 2, .slice A1 4 k1] 24)).mono hb.size)
  have HG1 := Lib.hid (Fam.new (k := 2) (c := k1) 24 hm)
  have HB := Lib.hid (HB.out.trans (hst.mono HB.out.size))
  clear hm hb
  generalize v1.alloc _ = W at HB hst HG1 ⊢
  generalize v1.heap.size = b1 at HG1 ⊢
  have d0 := HG1.out.c0
  have d1 := HG1.out.c1
  obtain ⟨R, cc, hm⟩ := HG1.out.mat
  have HM := Lib.hid hm
  clear hm
  go_wp2_with fail
  refine (ex_update 2 4 cntB 6 10 10 _ _ _ _ _ HM.out (by decide) (by decide) r2).mono ?_
  rintro e V ⟨rfl, hst⟩
  clear HM d0 d1
  have HB := Lib.hid (HB.out.trans (hst.mono HB.out.size))
  go_wp2_with fail
  refine (dal_val 2 4 6 10 2 _ (by decide) (by decide) (by decide) (by decide) dal_ex.symm).mono ?_
  rintro e w' ⟨rfl, hst⟩
  have HB := Lib.hid (HB.out.trans (hst.mono HB.out.size))
  go_wp2
  go_ret
  exact ⟨rfl, HB.out⟩
end Go.Proofs.Ytgnmelmmcpmhoaa
