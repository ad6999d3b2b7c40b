/-
  Texts of this claim, one after the other: what each proves is said at its head. No condition beyond those that its theorems name.
-/
import Derived.Test.YtahaimecchdfeaaProg
import Derived.Deep.DeepCutAuto
import Derived.Deep.RegionHeld3
import Derived.Laws.EntriesVeiled
import Derived.Test.YtahaimecchdfeaaH01
import Derived.Test.YtahaimecchdfeaaH02
import Derived.Test.YtahaimecchdfeaaH09

/-
  Walks of package runs: Check.
-/
namespace Go.Proofs.Ytahaimecchdfeaa
open Go.RowKit

/-- A run has the form of a system: its times, its facts, its agents. -/
def frmB (a l : Int) (T : Nat) (m : Nat → Nat) (K : Nat) : Bool := !((T : Int) != l) && !((K : Int) != l) && allB T (fun t => !((m t : Int) != a))
/-- .. and its facts are few. -/
def facB (f : Int) (K : Nat) (F : Nat → Nat) : Bool := allB K (fun t => !decide (2 ^ f.toNat ≤ F t))
/-- The error of a system. -/
def chkE (a f l : Int) (n : Nat) (T : Nat → Nat) (m : Nat → Nat → Nat) (K : Nat → Nat) (F : Nat → Nat → Nat) : Nat :=
  if (0 ≤ a ∧ a ≤ 4) ∧ (0 ≤ f ∧ f ≤ 8) ∧ 1 ≤ l ∧ l ≤ 16 then (if 64 < (n : Int) ∨ 512 < (n : Int) * l then 8 else if n = 0 then 3 else if allB n (fun i => frmB a l (T i) (m i) (K i)) then (if allB n (fun i => facB f (K i) (F i)) then 0 else 2) else 3) else 2
theorem chkE_ok {a f l : Int} {n : Nat} {T : Nat → Nat} {m : Nat → Nat → Nat} {K : Nat → Nat} {F : Nat → Nat → Nat} (h : chkE a f l n T m K F = 0) :
    (0 ≤ a ∧ a ≤ 4) ∧ (0 ≤ f ∧ f ≤ 8) ∧ (1 ≤ l ∧ l ≤ 16) ∧ n ≤ 64 ∧ (n : Int) * l ≤ 512 ∧ n ≠ 0 ∧ (∀ i, i < n → (T i : Int) = l ∧ (K i : Int) = l ∧ ∀ t, t < T i → (m i t : Int) = a) ∧ ∀ i, i < n → ∀ t, t < K i → F i t < 2 ^ f.toNat := by
  unfold chkE at h
  by_cases h1 : (0 ≤ a ∧ a ≤ 4) ∧ (0 ≤ f ∧ f ≤ 8) ∧ 1 ≤ l ∧ l ≤ 16
  · rw [if_pos h1] at h
    by_cases h2 : 64 < (n : Int) ∨ 512 < (n : Int) * l
    · rw [if_pos h2] at h; cases h
    · rw [if_neg h2] at h
      by_cases h3 : n = 0
      · rw [if_pos h3] at h; cases h
      · rw [if_neg h3] at h
        cases h4 : allB n (fun i => frmB a l (T i) (m i) (K i))
        · rw [h4, if_neg (by decide)] at h; cases h
        · rw [h4, if_pos rfl] at h
          cases h5 : allB n (fun i => facB f (K i) (F i))
          · rw [h5, if_neg (by decide)] at h; cases h
          · refine ⟨h1.1, h1.2.1, h1.2.2, by omega, by omega, h3, fun i hi => ?_, fun i hi t ht => ?_⟩
            · have := allB_iff.1 h4 i hi
              unfold frmB at this
              rw [Bool.and_eq_true, Bool.and_eq_true] at this
              refine ⟨by simpa using this.1.1, by simpa using this.1.2, fun t ht => ?_⟩
              have := allB_iff.1 this.2 t ht
              simpa using this
            · have := allB_iff.1 (allB_iff.1 h5 i hi) t ht
              simpa using this
  · rw [if_neg h1] at h; cases h
set_option maxHeartbeats 4000000 in
set_option maxRecDepth 100000 in
theorem rCheckS_any (x : Value) (a f l : Int) (n : Nat) (T : Nat → Nat) (m : Nat → Nat → Nat) (L : Nat → Nat → Nat → Int) (K : Nat → Nat) (F : Nat → Nat → Nat) (w : World) (h : SysR w x a f l n T m L K F) (hn : n ≤ 65536) :
    Calls Try.prog 73 #[x] w fun e w' => e = .returned (.int .i64 (chkE a f l n T m K F : Nat)) ∧ Below w.heap.size w w' := by
  obtain ⟨A, c, rfl, hR⟩ := h
  have HR := Lib.hid hR
  have HB := Lib.hid (below_alloc w (.cells #[.int .i64 a, .int .i64 f, .int .i64 l, .slice A n c] 24))
  have hbk := Blk.new w #[.int .i64 a, .int .i64 f, .int .i64 l, .slice A n c] 24
  have g0 := hbk.cell (k := 0) rfl
  have g1 := hbk.cell (k := 1) rfl
  have g2 := hbk.cell (k := 2) rfl
  have g3 := hbk.cell (k := 3) rfl
  clear hR hbk
  go_enter Try.func73, Try.ntmps73
  go_upto_region 1 with (fail)
  obtain ⟨W, hW⟩ : ∃ W, W = w.alloc (.cells #[.int .i64 a, .int .i64 f, .int .i64 l, .slice A n c] 24) := ⟨_, rfl⟩
  rw [← hW] at HB g0 g1 g2 g3 ⊢
  clear hW
  obtain ⟨bs, ebs⟩ : ∃ b, b = w.heap.size := ⟨_, rfl⟩
  have d0 : W.cell? ⟨bs, 0, none⟩ = some (.int .i64 a) := by rw [ebs]; exact g0
  have d1 : W.cell? ⟨bs, 1, none⟩ = some (.int .i64 f) := by rw [ebs]; exact g1
  have d2 : W.cell? ⟨bs, 2, none⟩ = some (.int .i64 l) := by rw [ebs]; exact g2
  have d3 : W.cell? ⟨bs, 3, none⟩ = some (.slice A n c) := by rw [ebs]; exact g3
  rw [← ebs]
  clear ebs g0 g1 g2 g3
  by_cases a1 : a < 0
  · have e1 : decide (a < 0) = true := decide_eq_true a1
    have HE := Lib.hid (show chkE a f l n T m K F = 2 from if_neg (by omega))
    clear a1
    go_wp2_with fail
    go_ret
    exact ⟨by rw [HE.out]; rfl, HB.out⟩
  have e1 : decide (a < 0) = false := decide_eq_false a1
  by_cases a2 : 4 < a
  · have e2 : decide (4 < a) = true := decide_eq_true a2
    have HE := Lib.hid (show chkE a f l n T m K F = 2 from if_neg (by omega))
    clear a1 a2
    go_wp2_with fail
    go_ret
    exact ⟨by rw [HE.out]; rfl, HB.out⟩
  have e2 : decide (4 < a) = false := decide_eq_false a2
  by_cases a3 : f < 0
  · have e3 : decide (f < 0) = true := decide_eq_true a3
    have HE := Lib.hid (show chkE a f l n T m K F = 2 from if_neg (by omega))
    clear a1 a2 a3
    go_wp2_with fail
    go_ret
    exact ⟨by rw [HE.out]; rfl, HB.out⟩
  have e3 : decide (f < 0) = false := decide_eq_false a3
  by_cases a4 : 8 < f
  · have e4 : decide (8 < f) = true := decide_eq_true a4
    have HE := Lib.hid (show chkE a f l n T m K F = 2 from if_neg (by omega))
    clear a1 a2 a3 a4
    go_wp2_with fail
    go_ret
    exact ⟨by rw [HE.out]; rfl, HB.out⟩
  have e4 : decide (8 < f) = false := decide_eq_false a4
  by_cases a5 : l < 1
  · have e5 : decide (l < 1) = true := decide_eq_true a5
    have HE := Lib.hid (show chkE a f l n T m K F = 2 from if_neg (by omega))
    clear a1 a2 a3 a4 a5
    go_wp2_with fail
    go_ret
    exact ⟨by rw [HE.out]; rfl, HB.out⟩
  have e5 : decide (l < 1) = false := decide_eq_false a5
  by_cases a6 : 16 < l
  · have e6 : decide (16 < l) = true := decide_eq_true a6
    have HE := Lib.hid (show chkE a f l n T m K F = 2 from if_neg (by omega))
    clear a1 a2 a3 a4 a5 a6
    go_wp2_with fail
    go_ret
    exact ⟨by rw [HE.out]; rfl, HB.out⟩
  have e6 : decide (16 < l) = false := decide_eq_false a6
  obtain ⟨f', rfl⟩ : ∃ N : Nat, f = N := ⟨f.toNat, by omega⟩
  obtain ⟨l', rfl⟩ : ∃ N : Nat, l = N := ⟨l.toNat, by omega⟩
  obtain ⟨a', rfl⟩ : ∃ N : Nat, a = N := ⟨a.toNat, by omega⟩
  have hE0 : chkE a' f' l' n T m K F = if 64 < (n : Int) ∨ 512 < (n : Int) * (l' : Int) then 8 else if n = 0 then 3 else if allB n (fun i => frmB a' l' (T i) (m i) (K i)) then (if allB n (fun i => facB f' (K i) (F i)) then 0 else 2) else 3 := if_pos (by omega)
  have hf8 : f' ≤ 8 := by omega
  have hl16 : l' ≤ 16 := by omega
  have e2n : decide (4 < a') = false := decide_eq_false (by omega)
  have e4n : decide (8 < f') = false := decide_eq_false (by omega)
  have e5n : decide (l' < 1) = false := decide_eq_false (by omega)
  have e6n : decide (16 < l') = false := decide_eq_false (by omega)
  clear a1 a2 a3 a4 a5 a6
  by_cases h64 : 64 < n
  · have t1 : decide ((64 : Int) < (n : Int)) = true := decide_eq_true (by omega)
    have t1' : decide (64 < n) = true := decide_eq_true h64
    have HE := Lib.hid (show chkE a' f' l' n T m K F = 8 by rw [hE0, if_pos (by omega)])
    clear h64 hE0
    go_wp2_with fail
    go_ret
    exact ⟨by rw [HE.out]; rfl, HB.out⟩
  have t1 : decide ((64 : Int) < (n : Int)) = false := decide_eq_false (by omega)
  have t1' : decide (64 < n) = false := decide_eq_false h64
  obtain ⟨M, eM⟩ : ∃ M, M = n * l' := ⟨_, rfl⟩
  have hM : M ≤ 64 * 16 := by rw [eM]; exact Nat.mul_le_mul (by omega) hl16
  have hmul : (n : Int) * (l' : Int) = (M : Int) := by rw [eM, Int.natCast_mul]
  have hwr : IntKind.i64.wrap ((n : Int) * (l' : Int)) = (M : Int) := by rw [hmul, IntKind.wrap_i64]; omega
  rw [hmul] at hE0
  clear eM
  by_cases h512 : 512 < M
  · have t2 : decide ((512 : Int) < (M : Int)) = true := decide_eq_true (by omega)
    have t2' : decide (512 < M) = true := decide_eq_true h512
    have HE := Lib.hid (show chkE a' f' l' n T m K F = 8 by rw [hE0, if_pos (by omega)])
    clear h64 h512 hE0
    go_wp2_with fail
    go_ret
    exact ⟨by rw [HE.out]; rfl, HB.out⟩
  have t2 : decide ((512 : Int) < (M : Int)) = false := decide_eq_false (by omega)
  have t2' : decide (512 < M) = false := decide_eq_false h512
  rw [if_neg (by omega)] at hE0
  by_cases hn0 : n = 0
  · have t3 : ((n : Int) == 0) = true := by rw [beq_iff_eq]; omega
    have HE := Lib.hid (show chkE a' f' l' n T m K F = 3 by rw [hE0, if_pos hn0])
    clear h64 h512 hE0 hn0
    go_wp2_with fail
    go_ret
    exact ⟨by rw [HE.out]; rfl, HB.out⟩
  have t3 : ((n : Int) == 0) = false := by rw [beq_eq_false_iff_ne]; omega
  rw [if_neg hn0] at hE0
  have HE0 := Lib.hid hE0
  have D0 := Lib.hid d0
  have D1 := Lib.hid d1
  have D2 := Lib.hid d2
  have D3 := Lib.hid d3
  have HRW := Lib.hid (HR.out.below HB.out)
  clear hE0 h64 h512 hn0 HR
  go_wp2_with fail
  clear e1 e2 e3 e4 e5 e6 e2n e4n e5n e6n t1 t1' t2 t2' t3 hwr hmul
  go_loopw [55] (fun iv wr => ∃ i : Nat, i ≤ n ∧ iv = .int .i64 i ∧ Hid (∀ j, j < i → frmB a' l' (T j) (m j) (K j) = true) ∧ Below W.heap.size W wr) (fun iv _ => n - (intOf iv).toNat)
  case atStart => exact ⟨0, Nat.zero_le _, rfl, Lib.hid fun j h => absurd h (Nat.not_lt_zero _), Below.refl _ _⟩
  case round =>
    clear d0 d1 d2 d3
    obtain ⟨i, hi, rfl, HF, hbl⟩ := hrel
    have HBL := Lib.hid hbl
    by_cases hlt : i < n
    · obtain ⟨b, off, u, v, rfl, c0, c1, hT, hK, Au, cu, Bv, dv, Ru, ccu, euv, hM, hU⟩ := HRW.out.below hbl i hlt
      obtain ⟨rfl, rfl⟩ : u = .slice Au (T i) cu ∧ v = .slice Bv (K i) dv := by simpa using euv
      have d2 := cell_below hbl D2.out
      have d0 := cell_below hbl D0.out
      have hii : (i : Int) < (n : Int) := by omega
      have hi0 : (0 : Int) ≤ (i : Int) := by omega
      have HFR := Lib.hid (show frmB a' l' (T i) (m i) (K i) = (!((T i : Int) != (l' : Int)) && !((K i : Int) != (l' : Int)) && allB (T i) (fun t => !((m i t : Int) != (a' : Int)))) from rfl)
      have HNO := Lib.hid (fun (h : frmB a' l' (T i) (m i) (K i) = false) => (show chkE a' f' l' n T m K F = 3 by rw [HE0.out, not_all (p := fun i => frmB a' l' (T i) (m i) (K i)) hlt h, if_neg (by decide)]))
      have HYE := Lib.hid (fun (h : frmB a' l' (T i) (m i) (K i) = true) => (show ∀ j, j < i + 1 → frmB a' l' (T j) (m j) (K j) = true from fun j hj => by
        rcases Nat.lt_succ_iff_lt_or_eq.1 hj with h1 | rfl
        · exact HF.out j h1
        · exact h))
      have HMM := Lib.hid hM
      clear HF hbl euv hM hU
      go_upto_region 10 with (fail)
      have hba := below_alloc wr (.cells #[.slice Au (T i) cu, .slice Bv (K i) dv] 69)
      have hbk := Blk.new wr #[.slice Au (T i) cu, .slice Bv (K i) dv] 69
      have d2 := cell_below hba d2
      have d0 := cell_below hba d0
      have x0 := hbk.cell (k := 0) rfl
      have x1 := hbk.cell (k := 1) rfl
      have HBV := Lib.hid (below_trans HBL.out hba)
      have HCC := Lib.hid (ckCon1_any Au (T i) cu Ru (m i) ccu (L i) a' bs _ (HMM.out.below hba) (by omega) d0)
      generalize wr.alloc (.cells #[.slice Au (T i) cu, .slice Bv (K i) dv] 69) = V at d2 d0 x0 x1 HBV HCC ⊢
      generalize wr.heap.size = bR at x0 x1 ⊢
      clear hba hbk c0 c1 HMM HBL
      obtain ⟨t, et⟩ : ∃ t, t = T i := ⟨_, rfl⟩
      obtain ⟨k, ek⟩ : ∃ t, t = K i := ⟨_, rfl⟩
      rw [← et, ← ek] at HFR HNO HYE
      rw [← et] at x0 HCC hT
      rw [← ek] at x1 hK
      obtain ⟨q, eq⟩ : ∃ q, q = allB t (fun t => !((m i t : Int) != (a' : Int))) := ⟨_, rfl⟩
      rw [← eq] at HFR HCC
      rw [← et, ← ek]
      clear et ek eq
      cases g1 : ((t : Int) != (l' : Int))
      · cases g2 : ((k : Int) != (l' : Int))
        · rw [g1, g2] at HFR
          cases q
          · have HE := Lib.hid (HNO.out HFR.out)
            clear HNO HYE HFR
            go_wp2_with (go_at_call 94; refine (HCC.out).mono ?_; rintro e w' ⟨rfl, rfl⟩)
            go_ret
            exact ⟨by rw [HE.out]; rfl, HB.out.trans (HBV.out.mono HB.out.size)⟩
          · have HF2 := Lib.hid (HYE.out HFR.out)
            clear HNO HYE HFR
            go_wp2_with (go_at_call 94; refine (HCC.out).mono ?_; rintro e w' ⟨rfl, rfl⟩)
            go_roundw
            case rel => exact ⟨i + 1, by omega, by go_num, HF2, HBV.out⟩
            case measure => simp [intOf]; omega
        · rw [g1, g2] at HFR
          have HE := Lib.hid (HNO.out (by rw [HFR.out]; rfl))
          clear HNO HYE HFR HCC
          go_wp2_with fail
          go_ret
          exact ⟨by rw [HE.out]; rfl, HB.out.trans (HBV.out.mono HB.out.size)⟩
      · rw [g1] at HFR
        have HE := Lib.hid (HNO.out (by rw [HFR.out]; rfl))
        clear HNO HYE HFR HCC
        go_wp2_with fail
        go_ret
        exact ⟨by rw [HE.out]; rfl, HB.out.trans (HBV.out.mono HB.out.size)⟩
    · obtain rfl : i = n := by omega
      have hall : allB i (fun j => frmB a' l' (T j) (m j) (K j)) = true := allB_iff.2 HF.out
      have HE1 := Lib.hid (show chkE a' f' l' i T m K F = if allB i (fun i => facB f' (K i) (F i)) then 0 else 2 by rw [HE0.out, hall, if_pos rfl])
      have d3 := cell_below hbl D3.out
      have hir : ¬ (i : Int) < (i : Int) := by omega
      obtain ⟨n, en⟩ : ∃ n, n = i := ⟨_, rfl⟩
      subst en
      obtain ⟨V1, eW⟩ : ∃ V1, V1 = wr := ⟨_, rfl⟩
      subst eW
      clear HF hall HE0 hbl
      go_wp2_with fail
      go_loopw [83] (fun iv wr => ∃ i : Nat, i ≤ n ∧ iv = .int .i64 i ∧ Hid (∀ j, j < i → facB f' (K j) (F j) = true) ∧ Below V1.heap.size V1 wr) (fun iv _ => n - (intOf iv).toNat)
      case atStart => exact ⟨0, Nat.zero_le _, rfl, Lib.hid fun j h => absurd h (Nat.not_lt_zero _), Below.refl _ _⟩
      case round =>
        clear d3
        obtain ⟨i, hi, rfl, HF, hbx⟩ := hrel
        have hbl := below_trans HBL.out hbx
        have HBX := Lib.hid hbl
        by_cases hlt : i < n
        · obtain ⟨b, off, u, v, rfl, c0, c1, hT, hK, Au, cu, Bv, dv, Ru, ccu, euv, hM, hU⟩ := HRW.out.below hbl i hlt
          obtain ⟨rfl, rfl⟩ : u = .slice Au (T i) cu ∧ v = .slice Bv (K i) dv := by simpa using euv
          have d1 := cell_below hbl D1.out
          have hii : (i : Int) < (n : Int) := by omega
          have hi0 : (0 : Int) ≤ (i : Int) := by omega
          have HNO := Lib.hid (fun (h : facB f' (K i) (F i) = false) => (show chkE a' f' l' n T m K F = 2 by rw [HE1.out, not_all (p := fun i => facB f' (K i) (F i)) hlt h, if_neg (by decide)]))
          have HYE := Lib.hid (fun (h : facB f' (K i) (F i) = true) => (show ∀ j, j < i + 1 → facB f' (K j) (F j) = true from fun j hj => by
            rcases Nat.lt_succ_iff_lt_or_eq.1 hj with h1 | rfl
            · exact HF.out j h1
            · exact h))
          have HUU := Lib.hid hU
          clear HF hbl euv hM hU
          go_upto_region 16 with (fail)
          have hba := below_alloc wr (.cells #[.slice Au (T i) cu, .slice Bv (K i) dv] 69)
          have hbk := Blk.new wr #[.slice Au (T i) cu, .slice Bv (K i) dv] 69
          have d1 := cell_below hba d1
          have x1 := hbk.cell (k := 1) rfl
          have HBV := Lib.hid (below_trans HBX.out hba)
          have HBY := Lib.hid (below_trans hbx hba)
          have HCC := Lib.hid (ckCon2_any Bv (K i) dv (F i) f' bs _ (HUU.out.below hba) (by omega) hf8 d1)
          rw [show (allB (K i) fun t => !decide (2 ^ f' ≤ F i t)) = facB f' (K i) (F i) by unfold facB; rw [Int.toNat_natCast]] at HCC
          generalize wr.alloc (.cells #[.slice Au (T i) cu, .slice Bv (K i) dv] 69) = V at d1 x1 HBV HBY HCC ⊢
          generalize wr.heap.size = bR at x1 ⊢
          clear hba hbk c0 c1 HUU HBX hbx
          cases g : facB f' (K i) (F i)
          · rw [g] at HCC
            have HE := Lib.hid (HNO.out g)
            clear HNO HYE g
            go_wp2_with (go_at_call 96; refine (HCC.out).mono ?_; rintro e w' ⟨rfl, rfl⟩)
            go_ret
            exact ⟨by rw [HE.out]; rfl, HB.out.trans (HBV.out.mono HB.out.size)⟩
          · rw [g] at HCC
            have HF2 := Lib.hid (HYE.out g)
            clear HNO HYE g
            go_wp2_with (go_at_call 96; refine (HCC.out).mono ?_; rintro e w' ⟨rfl, rfl⟩)
            go_roundw
            case rel => exact ⟨i + 1, by omega, by go_num, HF2, HBY.out⟩
            case measure => simp [intOf]; omega
        · obtain rfl : i = n := by omega
          have HE := Lib.hid (show chkE a' f' l' i T m K F = 0 by rw [HE1.out, allB_iff.2 HF.out, if_pos rfl])
          have hir : ¬ (i : Int) < (i : Int) := by omega
          clear HF hbl hbx
          go_wp2_with fail
          go_ret
          exact ⟨by rw [HE.out]; rfl, HB.out.trans (HBX.out.mono HB.out.size)⟩
end Go.Proofs.Ytahaimecchdfeaa
