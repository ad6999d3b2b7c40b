/-
  Walks: the examples of chapter 41 (awake), and the small functions of the laws.
-/
import Derived.Test.YtgnmelmmcpmhoaaProg
import Derived.Test.YtgnmelmmcpmhoaaBase
import Derived.Test.YtgnmelmmcpmhoaaUpdA
import Derived.Test.YtgnmelmmcpmhoaaUpdB
import Derived.Test.YtgnmelmmcpmhoaaUpdC
import Derived.Test.YtgnmelmmcpmhoaaUpdD
import Derived.Test.YtgnmelmmcpmhoaaUpdE
import Derived.Test.YtgnmelmmcpmhoaaUpdF
namespace Go.Proofs.Ytgnmelmmcpmhoaa
open Go.RowKit

theorem famPost0_of {k : Nat} {cl : Nat → Nat → Bool} {w w' : World} {e : Ending} (hk : k ≤ 3) (h : FamPost k cl w e w') : FamPost0 k (2 ^ k) cl w e w' := by
  have hk' : (0 : Int) ≤ k ∧ (k : Int) ≤ 3 := by omega
  obtain ⟨A, c, R, cc, he, hm, hf, hb⟩ := h
  have e1 : famK k = k := by unfold famK; rw [if_pos hk']
  have e2 : famN k = 2 ^ k := by unfold famN; rw [if_pos hk']; rfl
  have e3 : famE k = 0 := by unfold famE; rw [if_pos hk']
  rw [e1, e2, e3] at he
  rw [e2] at hm hf
  exact ⟨A, c, R, cc, he, hm, hf, hb⟩

/-- The local variable at block b holds the family of k facts (n valuations) of 'cl'. -/
structure Fam (w : World) (b k n : Nat) (cl : Nat → Nat → Bool) (A : Option Addr) (c : Nat) : Prop where
  c0 : w.cell? ⟨b, 0, none⟩ = some (.int .i64 k)
  c1 : w.cell? ⟨b, 1, none⟩ = some (.slice A n c)
  mat : ∃ R cc, Mat w A n R (fun _ => n) cc (famF n cl)
theorem Fam.below {w w' : World} {b k n c : Nat} {cl : Nat → Nat → Bool} {A : Option Addr} (h : Fam w b k n cl A c) (hb : Below w.heap.size w w') : Fam w' b k n cl A c :=
  ⟨cell_below hb h.c0, cell_below hb h.c1, let ⟨R, cc, hm⟩ := h.mat; ⟨R, cc, hm.below hb⟩⟩

theorem Fam.new {w : World} {k n c : Nat} {cl : Nat → Nat → Bool} {A : Option Addr} {R : Nat → Option Addr} {cc : Nat → Nat} (T : TypeId) (hm : Mat w A n R (fun _ => n) cc (famF n cl)) :
    Fam (w.alloc (.cells #[.int .i64 k, .slice A n c] T)) w.heap.size k n cl A c :=
  ⟨(cells_box2 w _ _ T).1, (cells_box2 w _ _ T).2, R, cc, hm.below (below_alloc _ _)⟩


theorem ex_update (k n : Nat) (cl : Nat → Nat → Bool) (b s r : Nat) (A : Option Addr) (c : Nat) (R : Nat → Option Addr) (cc : Nat → Nat) (w : World) (hM : Mat w A n R (fun _ => n) cc (famF n cl)) (hb : b < 18446744073709551616) (hs : s < 18446744073709551616)
    (hr : updV k n (fun _ => n) (famF n cl) b s = r ∧ updE k n (fun _ => n) (famF n cl) b s = 0) :
    Calls Try.prog 27 #[.agg #[.int .i64 k, .slice A n c], .int .u64 b, .int .u64 s] w fun e w' => e = .returned (.tuple #[.int .u64 r, .int .i64 0]) ∧ Below w.heap.size w w' := by
  have h := Update_any k b s A n c R (fun _ => n) cc (famF n cl) w hM hb hs
  rw [hr.1, hr.2] at h
  exact h
theorem ex_erase (k n : Nat) (cl : Nat → Nat → Bool) (b s r : Nat) (A : Option Addr) (c : Nat) (R : Nat → Option Addr) (cc : Nat → Nat) (w : World) (hM : Mat w A n R (fun _ => n) cc (famF n cl)) (hb : b < 18446744073709551616) (hs : s < 18446744073709551616)
    (hr : eraV k n (fun _ => n) (famF n cl) b s = r ∧ updE k n (fun _ => n) (famF n cl) b s = 0) :
    Calls Try.prog 29 #[.agg #[.int .i64 k, .slice A n c], .int .u64 b, .int .u64 s] w fun e w' => e = .returned (.tuple #[.int .u64 r, .int .i64 0]) ∧ Below w.heap.size w w' := by
  have h := Erase_any k b s A n c R (fun _ => n) cc (famF n cl) w hM hb hs
  rw [hr.1, hr.2] at h
  exact h
theorem ex_minimal (k n : Nat) (cl : Nat → Nat → Bool) (v s r : Nat) (A : Option Addr) (c : Nat) (R : Nat → Option Addr) (cc : Nat → Nat) (w : World) (hM : Mat w A n R (fun _ => n) cc (famF n cl)) (hn : n ≤ 9223372036854775807) (hs : s < 18446744073709551616)
    (hr : minimalV k n (fun _ => n) (famF n cl) v s = r ∧ minimalE k n (fun _ => n) (famF n cl) v s = 0) :
    Calls Try.prog 25 #[.agg #[.int .i64 k, .slice A n c], .int .i64 v, .int .u64 s] w fun e w' => e = .returned (.tuple #[.int .u64 r, .int .i64 0]) ∧ Below w.heap.size w w' := by
  have h := Minimal_any k v s A n c R (fun _ => n) cc (famF n cl) w hM hn hs
  rw [hr.1, hr.2] at h
  exact h
theorem ex_total (k n : Nat) (cl : Nat → Nat → Bool) (r : Bool) (A : Option Addr) (c : Nat) (R : Nat → Option Addr) (cc : Nat → Nat) (w : World) (hM : Mat w A n R (fun _ => n) cc (famF n cl))
    (hr : totalB k n (fun _ => n) (famF n cl) = r) :
    Calls Try.prog 22 #[.agg #[.int .i64 k, .slice A n c]] w fun e w' => e = .returned (.bool r) ∧ Below w.heap.size w w' := by
  have h := Total_any k A n c R (fun _ => n) cc (famF n cl) w hM
  rw [hr] at h
  exact h
theorem ex_check (k n : Nat) (cl : Nat → Nat → Bool) (A : Option Addr) (c : Nat) (R : Nat → Option Addr) (cc : Nat → Nat) (w : World) (hM : Mat w A n R (fun _ => n) cc (famF n cl))
    (hr : checkZ k n (fun _ => n) (famF n cl) = 0) :
    Calls Try.prog 20 #[.agg #[.int .i64 k, .slice A n c]] w fun e w' => e = .returned (.int .i64 0) ∧ Below w.heap.size w w' := by
  have h := updCheck_any k A n c R (fun _ => n) cc (famF n cl) w hM
  rw [hr] at h
  exact h
theorem r1 : updV (2 : Nat) 4 (fun _ => 4) (famF 4 subB) 6 10 = 10 ∧ updE (2 : Nat) 4 (fun _ => 4) (famF 4 subB) 6 10 = 0 := by decide +kernel
theorem r2 : updV (2 : Nat) 4 (fun _ => 4) (famF 4 cntB) 6 10 = 10 ∧ updE (2 : Nat) 4 (fun _ => 4) (famF 4 cntB) 6 10 = 0 := by decide +kernel
theorem r3 : updV (3 : Nat) 8 (fun _ => 8) (famF 8 subB) 1 66 = 66 ∧ updE (3 : Nat) 8 (fun _ => 8) (famF 8 subB) 1 66 = 0 := by decide +kernel
theorem r4 : updV (3 : Nat) 8 (fun _ => 8) (famF 8 cntB) 1 66 = 2 ∧ updE (3 : Nat) 8 (fun _ => 8) (famF 8 cntB) 1 66 = 0 := by decide +kernel
theorem r5 : eraV (2 : Nat) 4 (fun _ => 4) (famF 4 cntB) 6 10 = 7 ∧ updE (2 : Nat) 4 (fun _ => 4) (famF 4 cntB) 6 10 = 0 := by decide +kernel
theorem r6 : minimalV (2 : Nat) 4 (fun _ => 4) (famF 4 cntB) (2 : Nat) 10 = 8 ∧ minimalE (2 : Nat) 4 (fun _ => 4) (famF 4 cntB) (2 : Nat) 10 = 0 := by decide +kernel
theorem r7 : totalB (2 : Nat) 4 (fun _ => 4) (famF 4 subB) = false := by decide +kernel
theorem r8 : totalB (2 : Nat) 4 (fun _ => 4) (famF 4 cntB) = true := by decide +kernel
theorem r9 : checkZ (2 : Nat) 4 (fun _ => 4) (famF 4 subB) = 0 := by decide +kernel

set_option maxHeartbeats 2000000 in
theorem awake_any (w : World) : Calls Try.prog 14 #[] w fun e w' => e = .returned (.bool true) ∧ Below w.heap.size w w' := by
  have HB := Lib.hid (Below.refl w.heap.size w)
  go_enter Try.func14, Try.ntmps14
  go_wp2_with fail
  refine (Winslett_any 2 _).mono ?_
  intro e v1 h1
  obtain ⟨A1, k1, R, cc, rfl, hm, hf, hb⟩ := famPost0_of (k := 2) (by decide) h1
  clear h1 hf
  go_upto_region 2 with (fail)
  have hst := hb.trans ((below_alloc v1 (.cells #[.int .i64 2, .slice A1 4 k1] 24)).mono hb.size)
  have HG1 := Lib.hid (Fam.new (k := 2) (c := k1) 24 hm)
  have HB := Lib.hid (HB.out.trans (hst.mono HB.out.size))
  clear hm hb
  generalize v1.alloc _ = W at HB hst HG1 ⊢
  generalize v1.heap.size = b1 at HG1 ⊢
  go_wp2_with fail
  refine (Forbus_any 2 _).mono ?_
  intro e v3 h1
  obtain ⟨A3, k3, R, cc, rfl, hm, hf, hb⟩ := famPost0_of (k := 2) (by decide) h1
  clear h1 hf
  go_upto_region 3 with (fail)
  have hst := hb.trans ((below_alloc v3 (.cells #[.int .i64 2, .slice A3 4 k3] 24)).mono hb.size)
  have HG3 := Lib.hid (Fam.new (k := 2) (c := k3) 24 hm)
  have HB := Lib.hid (HB.out.trans (hst.mono HB.out.size))
  clear hm hb
  generalize v3.alloc _ = W at HB hst HG3 ⊢
  generalize v3.heap.size = b3 at HG3 ⊢
  have HG1 := Lib.hid (HG1.out.below hst)
  have d0 := HG1.out.c0
  have d1 := HG1.out.c1
  obtain ⟨R, cc, hm⟩ := HG1.out.mat
  have HM := Lib.hid hm
  clear hm
  go_wp2_with fail
  refine (ex_update 2 4 subB 6 10 10 _ _ _ _ _ HM.out (by decide) (by decide) r1).mono ?_
  rintro e V ⟨rfl, hst⟩
  clear HM d0 d1
  have HB := Lib.hid (HB.out.trans (hst.mono HB.out.size))
  go_upto_region 4 with (fail)
  have HG1 := Lib.hid (HG1.out.below hst)
  have HG3 := Lib.hid (HG3.out.below hst)
  have d0 := HG3.out.c0
  have d1 := HG3.out.c1
  obtain ⟨R, cc, hm⟩ := HG3.out.mat
  have HM := Lib.hid hm
  clear hm
  go_wp2_with fail
  refine (ex_update 2 4 cntB 6 10 10 _ _ _ _ _ HM.out (by decide) (by decide) r2).mono ?_
  rintro e V ⟨rfl, hst⟩
  clear HM d0 d1
  have HB := Lib.hid (HB.out.trans (hst.mono HB.out.size))
  go_upto_region 5 with (fail)
  have HG1 := Lib.hid (HG1.out.below hst)
  have HG3 := Lib.hid (HG3.out.below hst)
  go_wp2_with fail
  refine (Winslett_any 3 _).mono ?_
  intro e v9 h1
  obtain ⟨A9, k9, R, cc, rfl, hm, hf, hb⟩ := famPost0_of (k := 3) (by decide) h1
  clear h1 hf
  go_upto_region 6 with (fail)
  have hst := hb.trans ((below_alloc v9 (.cells #[.int .i64 3, .slice A9 8 k9] 24)).mono hb.size)
  have HG9 := Lib.hid (Fam.new (k := 3) (c := k9) 24 hm)
  have HB := Lib.hid (HB.out.trans (hst.mono HB.out.size))
  clear hm hb
  generalize v9.alloc _ = W at HB hst HG9 ⊢
  generalize v9.heap.size = b9 at HG9 ⊢
  have HG1 := Lib.hid (HG1.out.below hst)
  have HG3 := Lib.hid (HG3.out.below hst)
  go_wp2_with fail
  refine (Forbus_any 3 _).mono ?_
  intro e v11 h1
  obtain ⟨A11, k11, R, cc, rfl, hm, hf, hb⟩ := famPost0_of (k := 3) (by decide) h1
  clear h1 hf
  go_upto_region 7 with (fail)
  have hst := hb.trans ((below_alloc v11 (.cells #[.int .i64 3, .slice A11 8 k11] 24)).mono hb.size)
  have HG11 := Lib.hid (Fam.new (k := 3) (c := k11) 24 hm)
  have HB := Lib.hid (HB.out.trans (hst.mono HB.out.size))
  clear hm hb
  generalize v11.alloc _ = W at HB hst HG11 ⊢
  generalize v11.heap.size = b11 at HG11 ⊢
  have HG1 := Lib.hid (HG1.out.below hst)
  have HG3 := Lib.hid (HG3.out.below hst)
  have HG9 := Lib.hid (HG9.out.below hst)
  have d0 := HG9.out.c0
  have d1 := HG9.out.c1
  obtain ⟨R, cc, hm⟩ := HG9.out.mat
  have HM := Lib.hid hm
  clear hm
  go_wp2_with fail
  refine (ex_update 3 8 subB 1 66 66 _ _ _ _ _ HM.out (by decide) (by decide) r3).mono ?_
  rintro e V ⟨rfl, hst⟩
  clear HM d0 d1
  have HB := Lib.hid (HB.out.trans (hst.mono HB.out.size))
  go_upto_region 8 with (fail)
  have HG1 := Lib.hid (HG1.out.below hst)
  have HG3 := Lib.hid (HG3.out.below hst)
  have HG11 := Lib.hid (HG11.out.below hst)
  have d0 := HG11.out.c0
  have d1 := HG11.out.c1
  obtain ⟨R, cc, hm⟩ := HG11.out.mat
  have HM := Lib.hid hm
  clear hm
  go_wp2_with fail
  refine (ex_update 3 8 cntB 1 66 2 _ _ _ _ _ HM.out (by decide) (by decide) r4).mono ?_
  rintro e V ⟨rfl, hst⟩
  clear HM d0 d1
  have HB := Lib.hid (HB.out.trans (hst.mono HB.out.size))
  go_upto_region 9 with (fail)
  have HG1 := Lib.hid (HG1.out.below hst)
  have HG3 := Lib.hid (HG3.out.below hst)
  have d0 := HG3.out.c0
  have d1 := HG3.out.c1
  obtain ⟨R, cc, hm⟩ := HG3.out.mat
  have HM := Lib.hid hm
  clear hm
  go_wp2_with fail
  refine (ex_erase 2 4 cntB 6 10 7 _ _ _ _ _ HM.out (by decide) (by decide) r5).mono ?_
  rintro e V ⟨rfl, hst⟩
  clear HM d0 d1
  have HB := Lib.hid (HB.out.trans (hst.mono HB.out.size))
  go_upto_region 10 with (fail)
  have HG1 := Lib.hid (HG1.out.below hst)
  have HG3 := Lib.hid (HG3.out.below hst)
  have d0 := HG3.out.c0
  have d1 := HG3.out.c1
  obtain ⟨R, cc, hm⟩ := HG3.out.mat
  have HM := Lib.hid hm
  clear hm
  go_wp2_with fail
  refine (ex_minimal 2 4 cntB 2 10 8 _ _ _ _ _ HM.out (by decide) (by decide) r6).mono ?_
  rintro e V ⟨rfl, hst⟩
  clear HM d0 d1
  have HB := Lib.hid (HB.out.trans (hst.mono HB.out.size))
  go_upto_region 11 with (fail)
  have HG1 := Lib.hid (HG1.out.below hst)
  have HG3 := Lib.hid (HG3.out.below hst)
  have d0 := HG1.out.c0
  have d1 := HG1.out.c1
  obtain ⟨R, cc, hm⟩ := HG1.out.mat
  have HM := Lib.hid hm
  clear hm
  go_wp2_with fail
  refine (ex_total 2 4 subB false _ _ _ _ _ HM.out r7).mono ?_
  rintro e V ⟨rfl, hst⟩
  clear HM d0 d1
  have HB := Lib.hid (HB.out.trans (hst.mono HB.out.size))
  have HG1 := Lib.hid (HG1.out.below hst)
  have HG3 := Lib.hid (HG3.out.below hst)
  have d0 := HG3.out.c0
  have d1 := HG3.out.c1
  obtain ⟨R, cc, hm⟩ := HG3.out.mat
  have HM := Lib.hid hm
  clear hm
  go_wp2_with fail
  refine (ex_total 2 4 cntB true _ _ _ _ _ HM.out r8).mono ?_
  rintro e V ⟨rfl, hst⟩
  clear HM d0 d1
  have HB := Lib.hid (HB.out.trans (hst.mono HB.out.size))
  have HG1 := Lib.hid (HG1.out.below hst)
  have d0 := HG1.out.c0
  have d1 := HG1.out.c1
  obtain ⟨R, cc, hm⟩ := HG1.out.mat
  have HM := Lib.hid hm
  clear hm
  go_wp2_with fail
  refine (ex_check 2 4 subB _ _ _ _ _ HM.out r9).mono ?_
  rintro e V ⟨rfl, hst⟩
  clear HM d0 d1
  have HB := Lib.hid (HB.out.trans (hst.mono HB.out.size))
  go_wp2
  go_ret
  exact ⟨rfl, HB.out⟩

theorem lawAll_any (k : Nat) (w : World) (hk : k ≤ 4) :
    Calls Try.prog 32 #[.int .i64 k] w fun e w' => e = .returned (.int .u64 (2 ^ 2 ^ k - 1 : Nat)) ∧ w = w' := by
  go_enter Try.func32, Try.ntmps32
  go_wp2
  go_ret
  exact ⟨ret_int (all_val k hk), rfl⟩
def upOk (k : Int) (n : Nat) (m : Nat → Nat) (F : Nat → Nat → Nat) (b s : Nat) : Bool := updE k n m F b s == 0
theorem up_any (k : Int) (b s : Nat) (A : Option Addr) (n c : Nat) (R : Nat → Option Addr) (m cc : Nat → Nat) (F : Nat → Nat → Nat) (w : World) (hM : Mat w A n R m cc F) (hb : b < 18446744073709551616) (hs : s < 18446744073709551616) :
    Calls Try.prog 33 #[.agg #[.int .i64 k, .slice A n c], .int .u64 b, .int .u64 s] w fun e w' => e = .returned (.tuple #[.int .u64 (updV k n m F b s : Nat), .bool (upOk k n m F b s)]) ∧ Below w.heap.size w w' := by
  have hq : (((updE k n m F b s : Nat) : Int) == 0) = upOk k n m F b s := by
    unfold upOk; rw [Bool.eq_iff_iff]; simp
  go_enter Try.func33, Try.ntmps33
  go_wp2_with (go_at_call 27; refine (Update_any _ _ _ _ _ _ _ _ _ _ _ (hM.below (below_alloc _ _)) hb hs).mono ?_; rintro e w1 ⟨rfl, hb1⟩)
  go_ret2
  exact ⟨rfl, (below_alloc _ _).trans (hb1.mono (below_alloc _ _).size)⟩
end Go.Proofs.Ytgnmelmmcpmhoaa
