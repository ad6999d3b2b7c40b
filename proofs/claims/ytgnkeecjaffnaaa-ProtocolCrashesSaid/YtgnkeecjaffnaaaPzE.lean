/-
  Walks of layer 54: Crashes of the reference.
-/
import Derived.Test.YtgnkeecjaffnaaaProg
import Derived.Test.YtgnkeecjaffnaaaBase
import Derived.Test.YtgnkeecjaffnaaaRow
import Derived.Test.YtgnkeecjaffnaaaRowsOf
import Derived.Test.YtgnkeecjaffnaaaPc
import Derived.Test.YtgnkeecjaffnaaaPd
import Derived.Test.YtgnkeecjaffnaaaPrI
import Derived.Test.YtgnkeecjaffnaaaPrM
import Derived.Test.YtgnkeecjaffnaaaPrN
import Derived.Test.YtgnkeecjaffnaaaPfA
import Derived.Test.YtgnkeecjaffnaaaPfR
import Derived.Test.YtgnkeecjaffnaaaPfW
import Derived.Test.YtgnkeecjaffnaaaPtP
import Derived.Test.YtgnkeecjaffnaaaPtQ
import Derived.Test.YtgnkeecjaffnaaaPtB
import Derived.Test.YtgnkeecjaffnaaaPzA
import Derived.Test.YtgnkeecjaffnaaaPzB
import Derived.Test.YtgnkeecjaffnaaaPzD
import Derived.Deep.RegionHeld3
import Derived.Deep.AppendLies
import Derived.Deep.DeepCutAuto
namespace Go.Proofs.Ytgnkeecjaffnaaa
open Go.RowKit

set_option maxHeartbeats 4000000 in
set_option maxRecDepth 100000 in
theorem rCrashes_any (n F R : Int) (A : Option Addr) (m c : Nat) (f : Nat → Int) (w : World) (hx : I64s w A m f) (hm : m ≤ 65536) :
    Calls Try.prog 38 #[.int .i64 n, .int .i64 F, .int .i64 R, .slice A m c] w (SysPost w (crD n F R m f) (crE n F R m f)) := by
  have HP := Lib.hid (fun w => rPatterns_any n F R w)
  have HB := Lib.hid (below_alloc w (.cells #[.int .i64 0, .int .i64 0, .int .i64 0, .slice none 0 0] 44))
  have HK2 := Lib.hid (Blk.new w #[.int .i64 0, .int .i64 0, .int .i64 0, .slice none 0 0] 44)
  have hsW := HB.out.size
  have HX := Lib.hid hx
  clear hx
  by_cases hE0 : patE n F R = 0
  case neg =>
    have hE : crE n F R m f = patE n F R := if_neg hE0
    have HE := Lib.hid hE
    have HD := Lib.hid (show crD n F R m f = SysD.none from if_neg (by rw [hE]; exact hE0))
    obtain ⟨E, eE⟩ : ∃ E, E = patE n F R := ⟨_, rfl⟩
    rw [← eE] at HP HE hE0
    have t1 : ((E : Int) != 0) = true := by rw [bne_iff_ne]; omega
    clear hE eE hE0
    go_enter Try.func38, Try.ntmps38
    go_upto_region 1 with (fail)
    generalize w.alloc (.cells #[.int .i64 0, .int .i64 0, .int .i64 0, .slice none 0 0] 44) = W at HB HK2 hsW ⊢
    go_upto_region 3 with (go_at_call 35; refine (HP.out _).mono ?_; rintro e w1 ⟨pv, rfl, hp, hb1⟩; have HPT := Lib.hid hp; have HK2 := Lib.hid (HK2.out.below hb1); have HB := Lib.hid (HB.out.trans (hb1.mono HB.out.size)); clear hp hb1)
    obtain ⟨⟨c0, f0, c1, f1, c2, f2, c3, f3⟩, hk2⟩ := (HK2.out).put4 (.int .i64 0) (.int .i64 0) (.int .i64 0) (.slice none 0 0)
    have q0 := hk2.cell (k := 0) rfl
    have q1 := hk2.cell (k := 1) rfl
    have q2 := hk2.cell (k := 2) rfl
    have q3 := hk2.cell (k := 3) rfl
    clear hk2
    go_wp2_with fail
    exact bodyPost_ret (v := .tuple #[.agg #[.int .i64 0, .int .i64 0, .int .i64 0, .slice none 0 0], .int .i64 E]) (by simp [results, Try.results38, go_sem, q0, q1, q2, q3]) rfl (show SysPost w _ _ _ _ from by rw [HD.out, HE.out]; exact ⟨_, rfl, SysD.none_owned _ _, below_put4 HB.out (by omega) _ _ _ _⟩)
  obtain ⟨N, r, f', rfl, rfl, rfl, h2, h4, h3, hpl, h64⟩ := patE_ok hE0
  have hE1 : crE N f' r m f = if m = 0 then 3 else if allB m (fun i => !badX N (f i)) then (if 64 < m * (pfx N r f' N).length then 8 else 0) else 2 := by
    unfold crE; rw [if_pos hE0, Int.toNat_natCast, hpl]
  rw [hE0] at HP
  have hPM : ∀ l, l ∈ pfx N r f' N → l.length = N ∧ patOk N r l := fun l hl => ⟨pfx_len hl, pfx_ok hl⟩
  have HPM := Lib.hid hPM
  obtain ⟨pts, ep⟩ : ∃ p, p = pfx N r f' N := ⟨_, rfl⟩
  rw [← ep] at hpl h64 hE1 HPM
  rw [hpl] at HP
  have HPL := Lib.hid hpl
  have HE1 := Lib.hid hE1
  clear hE0 hE1 ep hPM hpl
  by_cases hm0 : m = 0
  · have t1 : ((m : Int) == 0) = true := by rw [beq_iff_eq]; omega
    have hE : crE N f' r m f = 3 := by rw [HE1.out, if_pos hm0]
    have HE := Lib.hid hE
    have HD := Lib.hid (show crD N f' r m f = SysD.none from if_neg (by rw [hE]; decide))
    clear hE hm0 HE1
    go_enter Try.func38, Try.ntmps38
    go_upto_region 1 with (fail)
    generalize w.alloc (.cells #[.int .i64 0, .int .i64 0, .int .i64 0, .slice none 0 0] 44) = W at HB HK2 hsW ⊢
    go_upto_region 5 with (go_at_call 35; refine (HP.out _).mono ?_; rintro e w1 ⟨pv, rfl, hp, hb1⟩; have HPT := Lib.hid hp; have HK2 := Lib.hid (HK2.out.below hb1); have HB := Lib.hid (HB.out.trans (hb1.mono HB.out.size)); clear hp hb1)
    obtain ⟨⟨c0, f0, c1, f1, c2, f2, c3, f3⟩, hk2⟩ := (HK2.out).put4 (.int .i64 0) (.int .i64 0) (.int .i64 0) (.slice none 0 0)
    have q0 := hk2.cell (k := 0) rfl
    have q1 := hk2.cell (k := 1) rfl
    have q2 := hk2.cell (k := 2) rfl
    have q3 := hk2.cell (k := 3) rfl
    clear hk2
    go_wp2_with fail
    exact bodyPost_ret (v := .tuple #[.agg #[.int .i64 0, .int .i64 0, .int .i64 0, .slice none 0 0], .int .i64 3]) (by simp [results, Try.results38, go_sem, q0, q1, q2, q3]) rfl (show SysPost w _ _ _ _ from by rw [HD.out, HE.out]; exact ⟨_, rfl, SysD.none_owned _ _, below_put4 HB.out (by omega) _ _ _ _⟩)
  have t1 : ((m : Int) == 0) = false := by rw [beq_eq_false_iff_ne]; omega
  have hwp := wrap_pow (k := N) rfl h4
  have hpw : ((2 ^ N : Nat) : Int) = (2 : Int) ^ N := by rw [Int.natCast_pow]; rfl
  have h16 : (2 : Nat) ^ N ≤ 16 := Nat.pow_le_pow_right (n := 2) (j := 4) (by decide) h4
  have hw64 := wrap64_self (z := (2 : Int) ^ N) (by rw [← hpw]; exact ⟨Int.natCast_nonneg _, Int.ofNat_le.2 h16⟩)
  have HPW := Lib.hid hpw
  clear hpw h16
  have HE2 := Lib.hid (fun (h : allB m (fun i => !badX N (f i)) = false) => (show crE N f' r m f = 2 by rw [HE1.out, if_neg hm0, h, if_neg (by decide)]))
  obtain ⟨L, eL⟩ : ∃ L, L = pts.length := ⟨_, rfl⟩
  obtain ⟨M, eM⟩ : ∃ M, M = m * L := ⟨_, rfl⟩
  rw [← eL] at h64
  have hM : M ≤ 65536 * 64 := by rw [eM]; exact Nat.mul_le_mul hm h64
  have hmul : (L : Int) * (m : Int) = (M : Int) := by rw [eM, Int.natCast_mul, Int.mul_comm]
  have hwr : IntKind.i64.wrap ((L : Int) * (m : Int)) = (M : Int) := by rw [hmul, IntKind.wrap_i64]; omega
  have HE3 := Lib.hid (fun (h : allB m (fun i => !badX N (f i)) = true) => (show crE N f' r m f = if 64 < M then 8 else 0 by rw [HE1.out, if_neg hm0, h, if_pos rfl, ← eL, ← eM]))
  have HLL := Lib.hid eL
  have HML := Lib.hid eM
  clear eL eM hm0 HE1
  have hw2 : IntKind.i64.wrap (2 * (N : Int)) = 2 * (N : Int) := by rw [IntKind.wrap_i64]; omega
  have hw3 : IntKind.i64.wrap ((r : Int) + 1) = (r : Int) + 1 := by rw [IntKind.wrap_i64]; omega
  have HFL := Lib.hid (fun X Ar cr rd tv W (h : CrS W Ar N rd tv) (hX : X < 2 ^ N) htv => rflood_any N r X Ar cr rd tv W h h2 h4 h3 hX htv)
  go_enter Try.func38, Try.ntmps38
  go_upto_region 1 with (fail)
  generalize w.alloc (.cells #[.int .i64 0, .int .i64 0, .int .i64 0, .slice none 0 0] 44) = W at HB HK2 hsW ⊢
  go_upto_region 6 with (go_at_call 35; refine (HP.out _).mono ?_; rintro e w1 ⟨pv, rfl, hp, hb1⟩; have HPT := Lib.hid hp; have HK2 := Lib.hid (HK2.out.below hb1); have HB := Lib.hid (HB.out.trans (hb1.mono HB.out.size)); clear hp hb1)
  obtain ⟨AP, cP, rfl⟩ := HPT.out.shape
  rw [← HLL.out]
  have HX1 := Lib.hid (HX.out.below HB.out)
  have h2l := HK2.out.lt
  clear HP
  go_wp2_with fail
  go_loop [12] (fun iv => ∃ i : Nat, i ≤ m ∧ iv = .int .i64 i ∧ Hid (∀ j, j < i → badX N (f j) = false)) (fun iv => m - (intOf iv).toNat)
  case atStart => exact ⟨0, Nat.zero_le _, rfl, Lib.hid fun j h => absurd h (Nat.not_lt_zero _)⟩
  case round =>
    obtain ⟨i, hi, rfl, HF⟩ := hrel
    by_cases hlt : i < m
    · obtain ⟨b0, off, rfl, cx, -, -⟩ := HX1.out i hlt
      obtain ⟨x, ex⟩ : ∃ x, x = f i := ⟨_, rfl⟩
      rw [← ex] at cx
      have EX := Lib.hid ex
      have hii : (i : Int) < (m : Int) := by omega
      have hi0 : (0 : Int) ≤ (i : Int) := by omega
      clear ex
      by_cases h0 : x < 0
      · have e0 : decide (x < 0) = true := decide_eq_true h0
        have hE := HE2.out (not_all hlt (by rw [← EX.out]; unfold badX; rw [e0]; rfl))
        have HE := Lib.hid hE
        have HD := Lib.hid (show crD N f' r m f = SysD.none from if_neg (by rw [hE]; decide))
        clear h0 hE
        obtain ⟨⟨c0, f0, c1, f1, c2, f2, c3, f3⟩, hk2⟩ := (HK2.out).put4 (.int .i64 0) (.int .i64 0) (.int .i64 0) (.slice none 0 0)
        have q0 := hk2.cell (k := 0) rfl
        have q1 := hk2.cell (k := 1) rfl
        have q2 := hk2.cell (k := 2) rfl
        have q3 := hk2.cell (k := 3) rfl
        clear hk2
        go_wp2_with fail
        exact bodyPost_ret (v := .tuple #[.agg #[.int .i64 0, .int .i64 0, .int .i64 0, .slice none 0 0], .int .i64 2]) (by simp [results, Try.results38, go_sem, q0, q1, q2, q3]) rfl (show SysPost w _ _ _ _ from by rw [HD.out, HE.out]; exact ⟨_, rfl, SysD.none_owned _ _, below_put4 HB.out (by omega) _ _ _ _⟩)
      · have e0 : decide (x < 0) = false := decide_eq_false h0
        by_cases h1 : (2 : Int) ^ N ≤ x
        · have e1 : decide ((2 : Int) ^ N ≤ x) = true := decide_eq_true h1
          have hE := HE2.out (not_all hlt (by rw [← EX.out]; unfold badX; rw [HPW.out, e1]; simp))
          have HE := Lib.hid hE
          have HD := Lib.hid (show crD N f' r m f = SysD.none from if_neg (by rw [hE]; decide))
          clear h0 h1 hE
          obtain ⟨⟨c0, f0, c1, f1, c2, f2, c3, f3⟩, hk2⟩ := (HK2.out).put4 (.int .i64 0) (.int .i64 0) (.int .i64 0) (.slice none 0 0)
          have q0 := hk2.cell (k := 0) rfl
          have q1 := hk2.cell (k := 1) rfl
          have q2 := hk2.cell (k := 2) rfl
          have q3 := hk2.cell (k := 3) rfl
          clear hk2
          go_wp2_with fail
          exact bodyPost_ret (v := .tuple #[.agg #[.int .i64 0, .int .i64 0, .int .i64 0, .slice none 0 0], .int .i64 2]) (by simp [results, Try.results38, go_sem, q0, q1, q2, q3]) rfl (show SysPost w _ _ _ _ from by rw [HD.out, HE.out]; exact ⟨_, rfl, SysD.none_owned _ _, below_put4 HB.out (by omega) _ _ _ _⟩)
        · have e1 : decide ((2 : Int) ^ N ≤ x) = false := decide_eq_false h1
          have HF2 : Hid (∀ j, j < i + 1 → badX N (f j) = false) := Lib.hid fun j hj => by
            rcases Nat.lt_succ_iff_lt_or_eq.1 hj with h | rfl
            · exact HF.out j h
            · rw [← EX.out]; unfold badX; rw [e0, HPW.out, e1]; rfl
          clear h0 h1 HF
          go_wp2_with fail
          go_round
          case rel => exact ⟨i + 1, by omega, by go_num, HF2⟩
          case measure => simp [intOf]; omega
    · obtain rfl : i = m := by omega
      have hall : allB i (fun j => !badX N (f j)) = true := allB_iff.2 fun j hj => by rw [HF.out j hj]; rfl
      have HAL := Lib.hid hall
      have hir : ¬ (i : Int) < (i : Int) := by omega
      obtain ⟨m, em⟩ : ∃ m, m = i := ⟨_, rfl⟩
      subst em
      clear HF
      by_cases hov : 64 < M
      · have t2 : decide ((64 : Int) < (M : Int)) = true := decide_eq_true (by omega)
        have t2' : decide (64 < M) = true := decide_eq_true hov
        have hE : crE N f' r m f = 8 := by rw [HE3.out hall, if_pos hov]
        have HE := Lib.hid hE
        have HD := Lib.hid (show crD N f' r m f = SysD.none from if_neg (by rw [hE]; decide))
        clear hE hall hov
        obtain ⟨⟨c0, f0, c1, f1, c2, f2, c3, f3⟩, hk2⟩ := (HK2.out).put4 (.int .i64 0) (.int .i64 0) (.int .i64 0) (.slice none 0 0)
        have q0 := hk2.cell (k := 0) rfl
        have q1 := hk2.cell (k := 1) rfl
        have q2 := hk2.cell (k := 2) rfl
        have q3 := hk2.cell (k := 3) rfl
        clear hk2
        go_wp2_with fail
        exact bodyPost_ret (v := .tuple #[.agg #[.int .i64 0, .int .i64 0, .int .i64 0, .slice none 0 0], .int .i64 8]) (by simp [results, Try.results38, go_sem, q0, q1, q2, q3]) rfl (show SysPost w _ _ _ _ from by rw [HD.out, HE.out]; exact ⟨_, rfl, SysD.none_owned _ _, below_put4 HB.out (by omega) _ _ _ _⟩)
      have t2 : decide ((64 : Int) < (M : Int)) = false := decide_eq_false (by omega)
      have t2' : decide (64 < M) = false := decide_eq_false hov
      have hE : crE N f' r m f = 0 := by rw [HE3.out hall, if_neg hov]
      have HE := Lib.hid hE
      have HD := Lib.hid (show crD N f' r m f = ⟨N, 2 * N, (r : Int) + 1, crP N r f pts m 0⟩ by unfold crD; rw [if_pos hE, Int.toNat_natCast, Int.toNat_natCast, HPL.out])
      have HM64 := Lib.hid (show m * L ≤ 64 by have := HML.out; omega)
      clear hE hall hov
      go_upto_region 14 with (fail)
      have hB3 := below_alloc w1 (.cells #[.int .i64 N, .int .i64 (2 * (N : Int)), .int .i64 ((r : Int) + 1), .slice none 0 0] 44)
      have hS := Blk.new w1 #[.int .i64 N, .int .i64 (2 * (N : Int)), .int .i64 ((r : Int) + 1), .slice none 0 0] 44
      have hI0 : SyI w (w1.alloc (.cells #[.int .i64 N, .int .i64 (2 * (N : Int)), .int .i64 ((r : Int) + 1), .slice none 0 0] 44)) none w.heap.size w1.heap.size N N (2 * (N : Int)) ((r : Int) + 1) (.slice AP pts.length cP) (.slice none 0 0) pts (crP N r f pts 0 0) :=
        ⟨HB.out.trans (hB3.mono HB.out.size), HK2.out.below hB3, (fun b e => by cases e), hS, by omega, ⟨by omega, by omega⟩, by rw [crP_zero]; exact RunsO.nil _ _, (HPT.out.mono hsW).below hB3⟩
      rw [← HLL.out] at hI0
      have HI := Lib.hid hI0
      generalize w1.alloc (.cells #[.int .i64 N, .int .i64 (2 * (N : Int)), .int .i64 ((r : Int) + 1), .slice none 0 0] 44) = V at HI ⊢
      obtain ⟨bS, ebS⟩ : ∃ b, b = w1.heap.size := ⟨_, rfl⟩
      rw [← ebS] at HI ⊢
      clear ebS hI0 hS hB3 HK2 HPT h2l hw2 hw3 hwr hmul t1 t2 t2' HX1
      go_wp2_with fail
      go_loopw [14] (fun iv wr => ∃ i : Nat, i ≤ m ∧ iv = .int .i64 i ∧ ∃ vR, SyI w wr none w.heap.size bS N N (2 * (N : Int)) ((r : Int) + 1) (.slice AP L cP) vR pts (crP N r f pts i 0)) (fun iv _ => m - (intOf iv).toNat)
      case atStart => exact ⟨0, Nat.zero_le _, rfl, _, HI.out⟩
      case round =>
        clear HI
        obtain ⟨i, hi, rfl, vR, hI⟩ := hrel
        by_cases hlt : i < m
        · obtain ⟨b0, off, rfl, cx, hx1, hx2⟩ := HX.out.below hI.below i hlt
          have hbad : badX N (f i) = false := by
            have := allB_iff.1 HAL.out i hlt
            simpa using this
          obtain ⟨hp0, hpN⟩ := badX_no hbad
          obtain ⟨X, eX⟩ : ∃ X : Nat, f i = X := ⟨(f i).toNat, by omega⟩
          rw [eX] at cx
          have HXN := Lib.hid (show X < 2 ^ N by rw [eX, Int.toNat_natCast] at hpN; exact hpN)
          have HGX := Lib.hid (fun l => (show gD N r (f i) l = floD N r X (rdP l) (tvP l) by unfold gD; rw [eX, Int.toNat_natCast]))
          have HI := Lib.hid hI
          have EXX := Lib.hid eX
          have hii : (i : Int) < (m : Int) := by omega
          clear hI hbad hp0 hpN eX hx1 hx2
          go_wp2_with fail
          go_loopw [15] (fun kv wr => ∃ k : Nat, k ≤ L ∧ kv = .int .i64 k ∧ ∃ vR, SyI w wr none w.heap.size bS N N (2 * (N : Int)) ((r : Int) + 1) (.slice AP L cP) vR pts (crP N r f pts i k)) (fun kv _ => L - (intOf kv).toNat)
          case atStart => exact ⟨0, Nat.zero_le _, rfl, _, HI.out⟩
          case round =>
            clear HI
            obtain ⟨k, hk, rfl, vR, hI⟩ := hrel
            by_cases hlk : k < L
            · obtain ⟨l, hl⟩ : ∃ l, pts[k]? = some l := ⟨_, List.getElem?_eq_getElem (by rw [← HLL.out]; exact hlk)⟩
              obtain ⟨hll, hpo⟩ := HPM.out l (List.mem_of_getElem? hl)
              have HST := Lib.hid (crP_step (N := N) (r := r) (f := f) (i := i) hl)
              obtain ⟨gP, cP', rv, eP, cl0, hrow⟩ := hI.pats.at hl
              injection eP with eP1 eP2 eP3
              subst eP1
              obtain ⟨Ar, cr, rfl, hcs, htv⟩ := crS_of hrow hll hpo h4 h3
              have HCS := Lib.hid hcs
              have HTV := Lib.hid htv
              have hkk : (k : Int) < (L : Int) := by omega
              have hcnt : (crP N r f pts i k).length ≤ 64 := by
                rw [crP_len (by rw [← HLL.out]; exact hk), ← HLL.out]
                have h1 : (i + 1) * L ≤ m * L := Nat.mul_le_mul_right L hlt
                rw [Nat.succ_mul] at h1
                have := HM64.out
                omega
              obtain ⟨rows1, ho1, hr1⟩ := hI.runs
              obtain ⟨AR, cR, rfl, -⟩ := own_form' ho1
              obtain ⟨q, eq⟩ : ∃ q, q = (crP N r f pts i k).length := ⟨_, rfl⟩
              rw [← eq] at hI ho1 hcnt
              have EQ := Lib.hid eq
              have HI1 := Lib.hid hI
              have s3 := hI.hS.cell (k := 3) rfl
              have cx : wr.cell? ⟨b0, off + i, none⟩ = some (.int .i64 X) := by
                obtain ⟨b1, o1, e1, c1, -, -⟩ := HX.out.below hI.below i hlt
                injection e1 with e1
                injection e1 with e1 e2 _
                subst e1 e2
                rw [EXX.out] at c1
                exact c1
              have hi0 : (0 : Int) ≤ (i : Int) := by omega
              have hsz := hI.below.size
              clear hl hll hpo hrow hcs htv eP2 eP3 hI ho1 hr1 eq
              go_upto_region 20 with (fail)
              go_region_law (first
                | (go_simp; go_at_call 46; refine (HFL.out X Ar cr (rdP l) (tvP l) _ (by exact HCS.out) HXN.out HTV.out).mono ?_; rintro e w4 ⟨v4, rfl, hrun, hb1⟩; obtain ⟨AL, cAL, AF, cAF, rfl⟩ := RunO.shape (show RunO w4 _ v4 (r + 1) _ _ (r + 1) _ from hrun); have HB4 : Hid (Below wr.heap.size wr w4) := Lib.hid ⟨hb1.os, hb1.tape, hb1.output, hb1.size, hb1.block⟩; have s3 := cell_below HB4.out s3; have s4 := cell_below (below_alloc w4 (.cells #[.slice AL (r + 1) cAL, .slice AF (r + 1) cAF] 30)) s3; have HI4 := Lib.hid (HI1.out.keep HB4.out); have HRU := Lib.hid (RunO.mono hrun (show w.heap.size ≤ wr.heap.size from hsz)); have hs4 := HI4.out.below.size; obtain ⟨rows4, ho4, hr4⟩ := HI4.out.runs; rw [← EQ.out] at ho4; have HO4 := Lib.hid ho4; have HR4 := Lib.hid hr4; clear hrun hb1 ho4 hr4)
                | (obtain ⟨i0, hi, hz0, hz1, hz2⟩ := info_parts Try.infoRun; refine step_append_lies _ (by rfl) _ _ _ (by rfl) w.heap.size 30 i0 _ 2 48 Try.underlying42 hi hz0 hz1 hz2 rfl (by decide) (.slice AR q cR) q rows4 (by rfl) (own_alloc' HO4.out _) ⟨w4.heap.size, 0, none⟩ 1 1 [.slice AL (r + 1) cAL, .slice AF (r + 1) cAF] (by rfl) (by rfl) (World.news_of_block (cs := #[.slice AL (r + 1) cAL, .slice AF (r + 1) cAF]) (t := 30) (fr := (0, 0)) (heap_alloc_new w4 _)) (by simp [Value.oneCell']) (by decide) (by unfold maxLen; omega) (by omega) (by simp; omega) (w4.heap.size + 1) (by simp) ?_; intro gf capF w7 hown7 hgrow7 _ _; have HG7 : Hid ((w4.alloc (.cells #[.slice AL (r + 1) cAL, .slice AF (r + 1) cAF] 30)).grownBy w7 (Value.slice AR q cR).ownBlock) := Lib.hid ⟨hgrow7.os, hgrow7.tape, hgrow7.output, hgrow7.size, hgrow7.block⟩; obtain ⟨q3, f3⟩ := HI4.out.box HO4.out HG7.out; have HOW7 := Lib.hid hown7; clear hi hz0 hz1 hz2 hown7 hgrow7))
              all_goals (
                go_wp2_with fail
                go_roundw
                case rel => exact ⟨k + 1, by omega, by go_num, _, by
                  rw [HST.out]
                  exact HI4.out.grow (d := gD N r (f i) l) (by rw [← EQ.out]; exact HO4.out) HR4.out (by rw [HGX.out]; exact HRU.out) (by rw [← EQ.out]; exact HOW7.out) HG7.out⟩
                case measure => simp [intOf]; omega)
            · obtain rfl : k = L := by omega
              have HI1 := Lib.hid (show SyI w wr none w.heap.size bS N N (2 * (N : Int)) ((r : Int) + 1) (.slice AP k cP) vR pts (crP N r f pts (i + 1) 0) by rw [← crP_row, ← HLL.out]; exact hI)
              clear hI
              go_wp2_with fail
              go_roundw
              case rel => exact ⟨i + 1, by omega, by go_num, _, HI1.out⟩
              case measure => simp [intOf]; omega
        · obtain rfl : i = m := by omega
          obtain ⟨rows, ho, -⟩ := hI.runs
          obtain ⟨AR, cR, rfl, -⟩ := own_form' ho
          obtain ⟨q, eq⟩ : ∃ q, q = (crP N r f pts i 0).length := ⟨_, rfl⟩
          have hI2 := hI
          rw [← eq] at hI2
          have d0 := hI2.hS.cell (k := 0) rfl
          have d1 := hI2.hS.cell (k := 1) rfl
          have d2 := hI2.hS.cell (k := 2) rfl
          have d3 := hI2.hS.cell (k := 3) rfl
          obtain ⟨⟨c0, f0, c1, f1, c2, f2, c3, f3⟩, hk2⟩ := hI2.h2.put4 (.int .i64 N) (.int .i64 (2 * (N : Int))) (.int .i64 ((r : Int) + 1)) (.slice AR q cR)
          have q0 := hk2.cell (k := 0) rfl
          have q1 := hk2.cell (k := 1) rfl
          have q2 := hk2.cell (k := 2) rfl
          have q3 := hk2.cell (k := 3) rfl
          have HB3 := Lib.hid hI.below
          have HRU := Lib.hid (hI2.runs.keeps (Keeps.put4 hI2.h2 (by decide) (.int .i64 N) (.int .i64 (2 * (N : Int))) (.int .i64 ((r : Int) + 1)) (.slice AR q cR)) (Keeps.put4 hI2.h2 (by decide) _ _ _ _) (Keeps.put4 hI2.h2 (by decide) _ _ _ _) (Keeps.put4 hI2.h2 (by decide) _ _ _ _))
          have hii : ¬ (i : Int) < (i : Int) := by omega
          clear hI hI2 hk2 ho eq
          go_wp2_with fail
          exact bodyPost_ret (v := .tuple #[.agg #[.int .i64 N, .int .i64 (2 * (N : Int)), .int .i64 ((r : Int) + 1), .slice AR q cR], .int .i64 0]) (by simp [results, Try.results38, go_sem, q0, q1, q2, q3]) rfl (show SysPost w _ _ _ _ from by rw [HD.out, HE.out]; exact ⟨_, rfl, ⟨_, rfl, HRU.out⟩, below_put4 HB3.out (by omega) _ _ _ _⟩)
end Go.Proofs.Ytgnkeecjaffnaaa
