/-
  Walks: the law ProtocolAgrees.
-/
import Derived.Test.YtgnkeecjaffnaaaProg
import Derived.Test.YtgnkeecjaffnaaaBase
import Derived.Test.YtgnkeecjaffnaaaRow
import Derived.Test.YtgnkeecjaffnaaaRowsOf
import Derived.Test.YtgnkeecjaffnaaaPc
import Derived.Test.YtgnkeecjaffnaaaPd
import Derived.Test.YtgnkeecjaffnaaaRkP
import Derived.Test.YtgnkeecjaffnaaaPfP
import Derived.Test.YtgnkeecjaffnaaaPfL
import Derived.Test.YtgnkeecjaffnaaaPfA
import Derived.Test.YtgnkeecjaffnaaaPfB
import Derived.Test.YtgnkeecjaffnaaaPfC
import Derived.Test.YtgnkeecjaffnaaaPkB
import Derived.Deep.DeepCutAuto
namespace Go.Proofs.Ytgnkeecjaffnaaa
open Go.RowKit

set_option maxHeartbeats 4000000 in
set_option maxRecDepth 100000 in
theorem agrees_core (n R x : Int) (A : Option Addr) (m c : Nat) (rd tv : Nat → Int) (w : World) (hx : CrS w A m rd tv) (hm : m ≤ 9223372036854775807) :
    Calls Try.prog 5 #[.int .i64 n, .agg #[.int .i64 R, .int .i64 x], .slice A m c] w fun e w' => e = .returned (.bool true) ∧ Below w.heap.size w w' := by
  have HX := Lib.hid hx
  have HB := Lib.hid (below_alloc w (.cells #[.int .i64 R, .int .i64 x] 25))
  have HK := Lib.hid (Blk.new w #[.int .i64 R, .int .i64 x] 25)
  by_cases h10 : 10 < m
  · have t1 : decide (10 < m) = true := decide_eq_true h10
    have t1' : decide ((10 : Int) < (m : Int)) = true := decide_eq_true (by omega)
    clear hx h10
    go_enter Try.func5, Try.ntmps5
    go_upto_region 1 with (fail)
    generalize w.alloc (.cells #[.int .i64 R, .int .i64 x] 25) = W at HB HK ⊢
    go_wp2_with (go_at_call 17; refine (awake_any _).mono ?_; rintro e w2 ⟨rfl, hst⟩; have HB := Lib.hid (HB.out.trans (hst.mono HB.out.size)); clear hst)
    go_ret
    exact ⟨rfl, HB.out⟩
  have t1 : decide (10 < m) = false := decide_eq_false h10
  have t1' : decide ((10 : Int) < (m : Int)) = false := decide_eq_false (by omega)
  have HFL := Lib.hid (fun W (hW : CrS W A m rd tv) => Flood_any n R x A m c rd tv W hW hm)
  by_cases hE : flE n R x m rd tv = 0
  case neg =>
    obtain ⟨E, eE⟩ : ∃ E, E = flE n R x m rd tv := ⟨_, rfl⟩
    obtain ⟨D, eD⟩ : ∃ D, D = fluD n R x m rd tv := ⟨_, rfl⟩
    rw [← eE, ← eD] at HFL
    rw [← eE] at hE
    have hne : ((E : Int) != 0) = true := by rw [bne_iff_ne]; omega
    clear hx eE eD hE h10
    go_enter Try.func5, Try.ntmps5
    go_upto_region 1 with (fail)
    generalize w.alloc (.cells #[.int .i64 R, .int .i64 x] 25) = W at HB HK ⊢
    have d0 : W.cell? ⟨w.heap.size, 0, none⟩ = some (.int .i64 R) := HK.out.cell rfl
    have d1 : W.cell? ⟨w.heap.size, 1, none⟩ = some (.int .i64 x) := HK.out.cell rfl
    go_wp2_with (first | (go_at_call 18; refine (HFL.out _ (HX.out.below HB.out)).mono ?_; rintro e w1 ⟨v, rfl, hd, hb⟩; obtain ⟨AL, cL, AF, cF, rfl⟩ := RunO.shape hd; have HB := Lib.hid ((HB.out.trans (hb.mono HB.out.size)).alloc (HB.out.trans (hb.mono HB.out.size)).size (.cells #[.slice AL D.n cL, .slice AF D.k cF] 30)); clear hd hb) | (go_at_call 17; refine (awake_any _).mono ?_; rintro e w2 ⟨rfl, hst⟩; have HB := Lib.hid (HB.out.trans (hst.mono HB.out.size)); clear hst))
    go_ret
    exact ⟨rfl, HB.out⟩
  obtain ⟨N, r, X, rfl, rfl, rfl, rfl, h2, h4, h3, hX, hcr⟩ := flE_ok hE
  have hD : fluD m r X m rd tv = floD m r X rd tv := by unfold fluD; rw [if_pos hE]; rfl
  rw [hE, hD] at HFL
  have hcl : clV r rd m = if 1 ≤ r then clN rd m r else 0 := by
    unfold clV
    by_cases h : 1 ≤ r
    · rw [if_pos h, if_pos (by omega), Int.toNat_natCast]
    · rw [if_neg h, if_neg (by omega)]
  have HCL := Lib.hid (fun W (hW : CrS W A m rd tv) => Clean_any r A m c rd tv W hW hm)
  obtain ⟨C, eC⟩ : ∃ C, C = clV r rd m := ⟨_, rfl⟩
  have hCr : C ≤ r := by
    rw [eC, hcl]
    split
    · exact clN_le _ _ _
    · omega
  have hCz : cntB m (fun i => decide (0 < rd i)) < r → 1 ≤ C := fun h => by
    rw [eC, hcl, if_pos (by omega)]
    rcases Nat.eq_zero_or_pos (clN rd m r) with h0 | h0
    · have := clN_crashed h0; omega
    · exact h0
  have hSame : ∀ t, 1 ≤ C → C ≤ t → ∃ V : Nat, V ≠ 0 ∧ ∀ k, k < m → stN rd tv m X t k = if goB rd k t then 0 else V := fun t h1 ht => by
    have hc := clN_clean (rd := rd) (n := m) (R := r) (by rw [eC, hcl] at h1; split at h1 <;> omega)
    have hcv : clN rd m r = C := by rw [eC, hcl] at *; split at h1 <;> split <;> omega
    rw [hcv] at hc
    obtain ⟨s, hs⟩ : ∃ s, C = s + 1 := ⟨C - 1, by omega⟩
    rw [hs] at hc ht
    obtain ⟨V, hV0, hV⟩ := st_same (tv := tv) (s := s) hc X (t - (s + 1))
    rw [show s + 1 + (t - (s + 1)) = t by omega] at hV
    exact ⟨V, hV0, hV⟩
  rw [← eC] at HCL
  have HSAME := Lib.hid hSame
  have HXL := Lib.hid hX
  have HCZ := Lib.hid hCz
  have hr0 : ∀ i, i < m → 0 ≤ rd i := fun i hi => by
    have := hcr i hi
    unfold crR at this
    rw [Bool.or_eq_false_iff, Bool.or_eq_false_iff, Bool.or_eq_false_iff, Bool.or_eq_false_iff, Bool.or_eq_false_iff] at this
    have h3 := of_decide_eq_false this.1.1.1.1.1
    omega
  have HR0 := Lib.hid hr0
  clear hx hE h10 hD hcl eC hCz hSame hX hcr hr0
  go_enter Try.func5, Try.ntmps5
  go_upto_region 1 with (fail)
  generalize w.alloc (.cells #[.int .i64 r, .int .i64 X] 25) = W at HB HK ⊢
  have d0 : W.cell? ⟨w.heap.size, 0, none⟩ = some (.int .i64 r) := HK.out.cell rfl
  have d1 : W.cell? ⟨w.heap.size, 1, none⟩ = some (.int .i64 X) := HK.out.cell rfl
  have HXW := Lib.hid (HX.out.below HB.out)
  go_upto_region 5 with (go_at_call 18; refine (HFL.out _ HXW.out).mono ?_; rintro e w1 ⟨v, rfl, hd, hb⟩; obtain ⟨AL, cL, AF, cF, rfl⟩ := RunO.shape hd; have HD := Lib.hid hd; have HB1 := Lib.hid hb; clear hd hb)
  have hrun := RunO.read HD.out (fun _ _ => hm) (fun t i ht _ => by
    have ht : t < r + 1 := ht
    have := stN_le (rd := rd) (tv := tv) (n := m) (x := X) (t := t) (i := i) h4 (by omega)
    show _ ≤ ((stN rd tv m X t i : Nat) : Int) ∧ ((stN rd tv m X t i : Nat) : Int) ≤ _
    omega) (fun t _ => by
    have h16 : (2 : Nat) ^ (m + m) ≤ 256 := Nat.pow_le_pow_right (n := 2) (j := 8) (by decide) (by omega)
    have := fcN_lt (rd := rd) (n := m) (x := X) (t := t) (Nat.lt_of_lt_of_le HXL.out (Nat.pow_le_pow_right (by decide) (by omega))) m (Nat.le_refl _)
    show fcN rd m X t m < _
    omega)
  obtain ⟨AL', cL', AF', cF', RR, cc, ev, hM, -⟩ := hrun
  injection ev with ev
  injection ev with ev
  injection ev with ev1 ev2
  injection ev1 with ev11 _ ev13
  subst ev11 ev13
  clear ev2
  obtain ⟨V, hV⟩ : ∃ V, V = w1.alloc (.cells #[.slice AL (r + 1) cL, .slice AF (r + 1) cF] 30) := ⟨_, rfl⟩
  have hbl := below_alloc w1 (.cells #[.slice AL (r + 1) cL, .slice AF (r + 1) cF] 30)
  have hbk := Blk.new w1 #[.slice AL (r + 1) cL, .slice AF (r + 1) cF] 30
  rw [show (floD m r X rd tv).n = r + 1 from rfl] at hM ⊢
  rw [show (floD m r X rd tv).k = r + 1 from rfl]
  rw [← hV] at hbl hbk ⊢
  have HM := Lib.hid (show MatI V AL (r + 1) RR (fun _ => m) cc (fun t i => ((stN rd tv m X t i : Nat) : Int)) from hM.below hbl)
  have HB := Lib.hid ((HB.out.trans (HB1.out.mono HB.out.size)).trans (hbl.mono (HB.out.trans (HB1.out.mono HB.out.size)).size))
  have HXV := Lib.hid ((HXW.out.below HB1.out).below hbl)
  have HKV := Lib.hid hbk
  generalize w1.heap.size = br at HKV ⊢
  have q0 : V.cell? ⟨br, 0, none⟩ = some (.slice AL (r + 1) cL) := HKV.out.cell rfl
  clear hV hbl hbk hM HD HB1 d0 d1 HFL HXW HX HK
  go_upto_region 10 with (go_at_call 21; refine (HCL.out _ HXV.out).mono ?_; rintro e w2 ⟨rfl, hb⟩; have HB := Lib.hid (HB.out.trans (hb.mono HB.out.size)); have HM := Lib.hid (HM.out.below hb); have HXV := Lib.hid (HXV.out.below hb); have HKV := Lib.hid (HKV.out.below hb); clear hb)
  clear q0 HCL
  obtain ⟨V2, eV2⟩ : ∃ V2, V2 = w2 := ⟨_, rfl⟩
  subst eV2
  go_wp2_with fail
  go_loopw [11, 47] (fun cv iv wr => ∃ i : Nat, i ≤ m ∧ iv = .int .i64 i ∧ cv = .int .i64 (cntB i (fun i => decide (0 < rd i)) : Nat) ∧ Below V2.heap.size V2 wr) (fun _ iv _ => m - (intOf iv).toNat)
  case atStart => exact ⟨0, Nat.zero_le _, rfl, rfl, Below.refl _ _⟩
  case round =>
    obtain ⟨i, hi, rfl, rfl, hbl⟩ := hrel
    have hci := cntB_le i (fun i => decide (0 < rd i))
    by_cases hlt : i < m
    · obtain ⟨b, off, rfl, c1, c2, c3, -⟩ := HXV.out.below hbl i hlt
      have HBL := Lib.hid hbl
      have hba := below_alloc wr (.cells #[.int .i64 (rd i), .int .i64 (tv i)] 37)
      have HBA := Lib.hid (HBL.out.trans (hba.mono HBL.out.size))
      have hcs : cntB (i + 1) (fun i => decide (0 < rd i)) = if decide (0 < rd i) = true then cntB i (fun i => decide (0 < rd i)) + 1 else cntB i (fun i => decide (0 < rd i)) := rfl
      obtain ⟨q, eq⟩ : ∃ q, q = cntB i (fun i => decide (0 < rd i)) := ⟨_, rfl⟩
      obtain ⟨q', eq'⟩ : ∃ q, q = cntB (i + 1) (fun i => decide (0 < rd i)) := ⟨_, rfl⟩
      rw [← eq, ← eq'] at hcs
      rw [← eq] at hci ⊢
      have EQ := Lib.hid eq'
      obtain ⟨y, ey⟩ : ∃ y, y = rd i := ⟨_, rfl⟩
      obtain ⟨z, ez⟩ : ∃ z, z = tv i := ⟨_, rfl⟩
      rw [← ey, ← ez] at HBA
      rw [← ey] at c1 hcs
      rw [← ez] at c2
      clear hbl hba eq eq' ey ez c3
      by_cases hy : 0 < y
      · have ty : decide (0 < y) = true := decide_eq_true hy
        have hq : q' = q + 1 := by rw [hcs, if_pos ty]
        clear hcs hy
        go_wp2_with fail
        go_roundw
        case rel => exact ⟨i + 1, by omega, by go_num, by rw [← EQ.out, hq]; rfl, HBA.out⟩
        case measure => simp [intOf]; omega
      · have ty : decide (0 < y) = false := decide_eq_false hy
        have hq : q' = q := by rw [hcs, if_neg (by rw [ty]; decide)]
        clear hcs hy
        go_wp2_with fail
        go_roundw
        case rel => exact ⟨i + 1, by omega, by go_num, by rw [← EQ.out, hq], HBA.out⟩
        case measure => simp [intOf]; omega
    · have him : m = i := by omega
      subst him
      have hcz := HCZ.out
      obtain ⟨q, eq⟩ : ∃ q, q = cntB m (fun i => decide (0 < rd i)) := ⟨_, rfl⟩
      rw [← eq] at hcz ⊢
      have HB2 := Lib.hid (HB.out.trans (hbl.mono HB.out.size))
      have HM2 := Lib.hid (HM.out.below hbl)
      have HX2 := Lib.hid (HXV.out.below hbl)
      have HK2 := Lib.hid (HKV.out.below hbl)
      clear hbl eq hci HM HXV HKV HB
      obtain ⟨V3, eV3⟩ : ∃ V3, V3 = wr := ⟨_, rfl⟩
      subst eV3
      go_upto_region 16 with (fail)
      go_cut [68] (fun s68 wx => s68 = .bool false ∧ wx = V3)
      case first =>
        by_cases hq : q < r
        · have hC1 := hcz hq
          have t2 : decide ((q : Int) < (r : Int)) = true := decide_eq_true (by omega)
          have t2' : decide (q < r) = true := decide_eq_true hq
          have t3 : decide ((C : Int) < 1) = false := decide_eq_false (by omega)
          have t3' : decide (C < 1) = false := decide_eq_false (by omega)
          have t4 : decide ((r : Int) < (C : Int)) = false := decide_eq_false (by omega)
          have t4' : decide (r < C) = false := decide_eq_false (by omega)
          clear hcz
          go_wp2_with fail
          go_meet
          exact ⟨rfl, rfl⟩
        · have t2 : decide ((q : Int) < (r : Int)) = false := decide_eq_false (by omega)
          have t2' : decide (q < r) = false := decide_eq_false hq
          clear hcz
          go_wp2_with fail
          go_meet
          exact ⟨rfl, rfl⟩
      case rest =>
        obtain ⟨rfl, rfl⟩ := hcut
        clear hcz HCZ
        go_wp2_with fail
        go_loopw [14] (fun tvv wr => ∃ t : Nat, C ≤ t ∧ t ≤ r + 1 ∧ tvv = .int .i64 t ∧ Below wc.heap.size wc wr) (fun tvv _ => 9 - (intOf tvv).toNat)
        case atStart => exact ⟨C, Nat.le_refl _, by omega, rfl, Below.refl _ _⟩
        case round =>
          obtain ⟨t, hCt, ht, rfl, hbl⟩ := hrel
          by_cases hC0 : C = 0
          · have t5 : decide ((0 : Int) < (C : Int)) = false := decide_eq_false (by omega)
            have t5' : decide (0 < C) = false := decide_eq_false (by omega)
            have HB := Lib.hid (HB2.out.trans (hbl.mono HB2.out.size))
            clear hbl hC0
            go_wp2_with (go_at_call 17; refine (awake_any _).mono ?_; rintro e w2 ⟨rfl, hst⟩; have HB := Lib.hid (HB.out.trans (hst.mono HB.out.size)); clear hst)
            go_ret
            exact ⟨rfl, HB.out⟩
          have t5 : decide ((0 : Int) < (C : Int)) = true := decide_eq_true (by omega)
          have t5' : decide (0 < C) = true := decide_eq_true (by omega)
          by_cases htr : t ≤ r
          case neg =>
            have t6 : decide ((t : Int) ≤ (r : Int)) = false := decide_eq_false (by omega)
            have t6' : decide (t ≤ r) = false := decide_eq_false htr
            have HB := Lib.hid (HB2.out.trans (hbl.mono HB2.out.size))
            clear hbl
            go_wp2_with (go_at_call 17; refine (awake_any _).mono ?_; rintro e w2 ⟨rfl, hst⟩; have HB := Lib.hid (HB.out.trans (hst.mono HB.out.size)); clear hst)
            go_ret
            exact ⟨rfl, HB.out⟩
          have t6 : decide ((t : Int) ≤ (r : Int)) = true := decide_eq_true (by omega)
          have t6' : decide (t ≤ r) = true := decide_eq_true htr
          obtain ⟨Z, hZ0, hZ⟩ := HSAME.out t (by omega) hCt
          have HZ := Lib.hid hZ
          have HM3 := HM2.out.below hbl
          obtain ⟨bm, om, rfl, cm, -, hrow⟩ := HM3 t (by omega)
          have q0 : wr.cell? ⟨br, 0, none⟩ = some (.slice (some ⟨bm, om, none⟩) (r + 1) cL) := (HK2.out.below hbl).cell rfl
          have HRow := Lib.hid hrow
          have HX3 := Lib.hid (HX2.out.below hbl)
          have HBL := Lib.hid hbl
          obtain ⟨V4, eV4⟩ : ∃ V4, V4 = wr := ⟨_, rfl⟩
          subst eV4
          have htr1 : (t : Int) < (r : Int) + 1 := by omega
          clear hbl hZ hrow HM3
          go_wp2_with fail
          go_loopw [15, 85] (fun sv iv wr => ∃ i s : Nat, i ≤ m ∧ iv = .int .i64 i ∧ sv = .int .i64 s ∧ (s = 0 ∨ s = Z) ∧ wr = V4) (fun _ iv _ => m - (intOf iv).toNat)
          case atStart => exact ⟨0, 0, Nat.zero_le _, rfl, rfl, .inl rfl, rfl⟩
          case round =>
            clear q0
            obtain ⟨i, s, hi, rfl, rfl, hs, ewr⟩ := hrel
            subst ewr
            by_cases hlt : i < m
            · obtain ⟨bx, ox, eRR, cx, -⟩ := HRow.out i hlt
              obtain ⟨b, off, rfl, c1, c2, c3, -⟩ := HX3.out i hlt
              have hr0 := HR0.out i hlt
              have hz := HZ.out i hlt
              have HG := Lib.hid (show goB rd i t = (rd i != 0 && decide (rd i ≤ (t : Int))) from rfl)
              have cx' : wr.cell? ⟨bx, ox + i, none⟩ = some (.int .i64 (stN rd tv m X t i : Nat)) := cx
              obtain ⟨x, ex⟩ : ∃ x, x = stN rd tv m X t i := ⟨_, rfl⟩
              obtain ⟨y, ey⟩ : ∃ y, y = rd i := ⟨_, rfl⟩
              rw [← ex] at cx' hz
              rw [← ey] at c1 hr0 HG
              have hlti : (i : Int) < (m : Int) := by omega
              have tm : decide ((i : Int) < (m : Int)) = true := decide_eq_true hlti
              have tm' : decide (i < m) = true := decide_eq_true hlt
              clear cx c2 c3 ex ey
              by_cases hg : 0 < y ∧ y ≤ (t : Int)
              · have g1 : decide (0 < y) = true := decide_eq_true hg.1
                have g2 : decide (y ≤ (t : Int)) = true := decide_eq_true hg.2
                have hx0 : x = 0 := by
                  rw [hz, if_pos]
                  rw [HG.out, g2, Bool.and_true, bne_iff_ne]; omega
                subst hx0
                clear hz hg HG
                go_wp2_with fail
                go_roundw
                case rel => exact ⟨i + 1, s, by omega, by go_num, rfl, hs, trivial⟩
                case measure => simp [intOf]; omega
              · have hxZ : x = Z := by
                  rw [hz, if_neg]
                  intro h
                  rw [HG.out, Bool.and_eq_true, bne_iff_ne, decide_eq_true_eq] at h
                  omega
                subst hxZ
                have z1 : ((x : Int) == 0) = false := by rw [beq_eq_false_iff_ne]; omega
                by_cases hy0 : 0 < y
                · have g1 : decide (0 < y) = true := decide_eq_true hy0
                  have g2 : decide (y ≤ (t : Int)) = false := decide_eq_false (fun h => hg ⟨hy0, h⟩)
                  clear hz hg HG hy0
                  rcases hs with rfl | rfl
                  · skip
                    go_wp2_with fail
                    go_roundw
                    case rel => exact ⟨i + 1, x, by omega, by go_num, rfl, .inr rfl, trivial⟩
                    case measure => simp [intOf]; omega
                  · have z2 : ((s : Int) != 0) = true := by rw [bne_iff_ne]; omega
                    have z3 : ((s : Int) != (s : Int)) = false := by simp
                    go_wp2_with fail
                    go_roundw
                    case rel => exact ⟨i + 1, s, by omega, by go_num, rfl, .inr rfl, trivial⟩
                    case measure => simp [intOf]; omega
                · have g1 : decide (0 < y) = false := decide_eq_false hy0
                  clear hz hg HG hy0
                  rcases hs with rfl | rfl
                  · skip
                    go_wp2_with fail
                    go_roundw
                    case rel => exact ⟨i + 1, x, by omega, by go_num, rfl, .inr rfl, trivial⟩
                    case measure => simp [intOf]; omega
                  · have z2 : ((s : Int) != 0) = true := by rw [bne_iff_ne]; omega
                    have z3 : ((s : Int) != (s : Int)) = false := by simp
                    go_wp2_with fail
                    go_roundw
                    case rel => exact ⟨i + 1, s, by omega, by go_num, rfl, .inr rfl, trivial⟩
                    case measure => simp [intOf]; omega
            · obtain rfl : i = m := by omega
              go_wp2_with fail
              go_roundw
              case rel => exact ⟨t + 1, by omega, by omega, by go_num, HBL.out⟩
              case measure => simp [intOf]; omega
end Go.Proofs.Ytgnkeecjaffnaaa
