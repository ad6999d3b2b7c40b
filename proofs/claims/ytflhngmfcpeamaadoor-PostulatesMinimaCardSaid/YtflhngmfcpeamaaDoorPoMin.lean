/-
  Walks: the law PostulatesMinima, over whatever memory in which the two tables are laid.
-/
import Derived.Test.YtflhngmfcpeamaaDoorProg
import Derived.Test.YtflhngmfcpeamaaDoorBase
import Derived.Test.YtflhngmfcpeamaaDoorRow
import Derived.Test.YtflhngmfcpeamaaDoorPoP
import Derived.Test.YtflhngmfcpeamaaDoorPoA
import Derived.Test.YtflhngmfcpeamaaDoorPoB
import Derived.Test.YtflhngmfcpeamaaDoorPoD
import Derived.Test.YtflhngmfcpeamaaDoorPoE
import Derived.Test.YtflhngmfcpeamaaDoorPoU
import Derived.Test.YtflhngmfcpeamaaDoorPoX
import Derived.Test.YtflhngmfcpeamaaDoorPoK
import Derived.Test.YtflhngmfcpeamaaDoorPoF
import Derived.Test.YtflhngmfcpeamaaDoorPoN
namespace Go.Proofs.YtflhngmfcpeamaaDoor
open Go.RowKit

theorem bit_int (m i : Nat) (hm : m < 16) (hi : i < 4) : (bits .and .i64 ((m : Int) / 2 ^ i) 1 == 0) = !m.testBit i := by
  have key : ∀ m : Nat, m < 16 → ∀ i : Nat, i < 4 → (bits .and .i64 ((m : Int) / 2 ^ i) 1 == 0) = !m.testBit i := by decide +kernel
  exact key m hm i hi
theorem before_any (a v u bl c : Nat) (A : Option Addr) (R : Nat → Option Addr) (cc : Nat → Nat) (F : Nat → Nat → Nat) (w : World) (hM : Mat w A 4 R (fun _ => 4) cc (famG 4 F)) (hc : w.cell? ⟨bl, 0, none⟩ = some (.slice A 4 c)) (ha : a < 4) (hv : v < 4) (hu : u < 4) :
    Calls Tryd.prog 21 #[.int .i64 a, .int .i64 v, .int .i64 u, .pointer (some ⟨bl, 0, none⟩)] w fun e w' => e = .returned (.bool ((famG 4 F a v).testBit u)) ∧ w = w' := by
  obtain ⟨b, off, rfl, hr⟩ := rows_at hM (by omega)
  obtain ⟨rb, ro, hc1, hr1⟩ := hr a ha
  obtain ⟨hc2, hl⟩ := hr1 v hv
  obtain ⟨g, eg⟩ : ∃ g, g = famG 4 F a v := ⟨_, rfl⟩
  rw [← eg] at hc2 hl ⊢
  have hbit := bits_has' g u hl (by omega)
  clear hM hr hr1 eg
  go_enter Tryd.func21, Tryd.ntmps21
  go_wp2
  go_ret
  exact ⟨rfl, rfl⟩

theorem before_all (bl c : Nat) (A : Option Addr) (R : Nat → Option Addr) (cc : Nat → Nat) (F : Nat → Nat → Nat) (w : World) (hM : Mat w A 4 R (fun _ => 4) cc (famG 4 F)) (hc : w.cell? ⟨bl, 0, none⟩ = some (.slice A 4 c)) :
    Hid (∀ a v u : Nat, a < 4 → v < 4 → u < 4 → Calls Tryd.prog 21 #[.int .i64 a, .int .i64 v, .int .i64 u, .pointer (some ⟨bl, 0, none⟩)] w fun e w' => e = .returned (.bool ((famG 4 F a v).testBit u)) ∧ w = w') := by
  refine Lib.hid ?_
  intro a v u ha hv hu
  exact before_any a v u bl c A R cc F w hM hc ha hv hu

set_option maxHeartbeats 8000000 in
set_option maxRecDepth 100000 in
theorem minima_core (len c : Nat) (A : Option Addr) (R : Nat → Option Addr) (m cc : Nat → Nat) (F : Nat → Nat → Nat) (w : World) (hL : LaidR w) (hU : LaidU w) (hT : Mat w A len R m cc F) (hlen : len ≤ 9223372036854775807) :
    Calls Tryd.prog 6 #[.slice A len c] w fun e w' => e = .returned (.bool true) ∧ Below w.heap.size w w' := by
  have HL := Lib.hid hL
  have HU := Lib.hid hU
  have HT := Lib.hid hT
  by_cases h16 : len = 16
  · subst h16
    by_cases he : famErr 2 16 m F = 0
    · obtain ⟨k, -, -, -, hms, -, -, hlt16, hall⟩ := famErr_ok he
      have OK := Lib.hid (upOk_of hlt16 hall)
      have hfi : Calls Tryd.prog 18 #[.int .i64 2, .slice A 16 c] w (MatRead 4 (famG 4 F) w) := Family_in 2 4 16 A c R m cc F w hU hT (by decide) (by decide) (by decide) he
      have HFI := Lib.hid hfi
      have hT2 : Mat w A 16 R (fun _ => 16) cc F := fun i hi => by
        obtain ⟨b, off, e, h1, h2, h3⟩ := hT i hi
        rw [hms i hi] at h1 h2 h3
        exact ⟨b, off, e, h1, h2, h3⟩
      have HM := Lib.hid hT2
      clear hL hU hT he hms hlt16 hall hfi hT2 HT
      go_enter Tryd.func6, Tryd.ntmps6
      go_wp2_with fail
      refine HFI.out.mono ?_
      rintro e w1 ⟨A1, c1, R1, cc1, rfl, hm1, hst⟩
      have hB := hst.trans ((below_alloc w1 (.cells #[.slice A1 4 c1] 34)).mono hst.size)
      have hm2 := hm1.below (below_alloc w1 (.cells #[.slice A1 4 c1] 34))
      have hcl : (w1.alloc (.cells #[.slice A1 4 c1] 34)).cell? ⟨w1.heap.size, 0, none⟩ = some (.slice A1 4 c1) := by simp
      clear hm1 hst
      go_upto_region 4 with (fail)
      generalize w1.alloc (.cells #[.slice A1 4 c1] 34) = W at hB hm2 hcl ⊢
      generalize w1.heap.size = bl at hcl ⊢
      have HB := Lib.hid hB
      obtain ⟨bA, oA, rfl, hrA⟩ := rows_at (HM.out.below hB) (by omega)
      have HRA := Lib.hid hrA
      clear hrA
      have HBF := before_all bl c1 A1 R1 cc1 F W hm2 hcl
      obtain ⟨b1, off1, rfl, hr⟩ := rows_at hm2 (by omega)
      obtain ⟨r0, o0, g0, -⟩ := hr 0 (by omega)
      obtain ⟨r1, o1, g1, -⟩ := hr 1 (by omega)
      obtain ⟨r2, o2, g2, -⟩ := hr 2 (by omega)
      obtain ⟨r3, o3, g3, -⟩ := hr 3 (by omega)
      rw [Nat.add_zero] at g0
      clear hB hm2 hr
      go_wp2_with fail
      clear g0 g1 g2 g3 hcl
      go_loop [61] (fun iv => ∃ a : Nat, a ≤ 4 ∧ iv = .int .i64 a) (fun iv => 4 - (intOf iv).toNat)
      case atStart => exact ⟨0, by omega, rfl⟩
      case round =>
        obtain ⟨a, ha, rfl⟩ := hrel
        by_cases hlta : a < 4
        · go_wp2_with fail
          go_loop [64] (fun iv => ∃ v : Nat, v ≤ 4 ∧ iv = .int .i64 v) (fun iv => 4 - (intOf iv).toNat)
          case atStart => exact ⟨0, by omega, rfl⟩
          case round =>
            obtain ⟨v, hv, rfl⟩ := hrel
            by_cases hltv : v < 4
            · have C1 := Lib.hid (HBF.out a v v hlta hltv hltv)
              rw [bef_self OK.out hlta hltv] at C1
              have C2 := Lib.hid (HBF.out a a v hlta hlta hltv)
              rw [bef_own OK.out hlta hltv] at C2
              by_cases hva : v = a
              · have t1 : ((v : Int) != (a : Int)) = false := by rw [hva]; simp
                clear hva
                go_wp2_with fail
                refine C1.out.mono ?_
                rintro e w' ⟨rfl, rfl⟩
                go_wp2_with fail
                refine C2.out.mono ?_
                rintro e w' ⟨rfl, rfl⟩
                go_wp2_with fail
                go_loop [93] (fun iv => ∃ u : Nat, u ≤ 4 ∧ iv = .int .i64 u) (fun iv => 4 - (intOf iv).toNat)
                case atStart => exact ⟨0, by omega, rfl⟩
                case round =>
                  obtain ⟨u, hu, rfl⟩ := hrel
                  by_cases hltu : u < 4
                  · go_wp2_with fail
                    go_loop [96] (fun iv => ∃ x : Nat, x ≤ 4 ∧ iv = .int .i64 x) (fun iv => 4 - (intOf iv).toNat)
                    case atStart => exact ⟨0, by omega, rfl⟩
                    case round =>
                      obtain ⟨x, hx, rfl⟩ := hrel
                      by_cases hltx : x < 4
                      ·
                        obtain ⟨p, ep⟩ : ∃ p, p = (famG 4 F a v).testBit u := ⟨_, rfl⟩
                        have C3 := Lib.hid (HBF.out a v u hlta hltv hltu)
                        rw [← ep] at C3
                        obtain ⟨q, eq⟩ : ∃ p, p = (famG 4 F a u).testBit x := ⟨_, rfl⟩
                        have C4 := Lib.hid (HBF.out a u x hlta hltu hltx)
                        rw [← eq] at C4
                        have C5 := Lib.hid (HBF.out a v x hlta hltv hltx)
                        have htr : p = true → q = true → (famG 4 F a v).testBit x = true := fun h1 h2 => bef_trans OK.out hlta hltv hltu hltx (by rw [← ep]; exact h1) (by rw [← eq]; exact h2)
                        clear ep eq
                        cases p
                        · clear htr
                          go_wp2_with fail
                          refine C3.out.mono ?_
                          rintro e w' ⟨rfl, rfl⟩
                          go_wp2_with fail
                          go_round
                          case rel => exact ⟨x + 1, by omega, by go_num⟩
                          case measure => simp [intOf]; omega
                        · cases q
                          · clear htr
                            go_wp2_with fail
                            refine C3.out.mono ?_
                            rintro e w' ⟨rfl, rfl⟩
                            go_wp2_with fail
                            refine C4.out.mono ?_
                            rintro e w' ⟨rfl, rfl⟩
                            go_wp2_with fail
                            go_round
                            case rel => exact ⟨x + 1, by omega, by go_num⟩
                            case measure => simp [intOf]; omega
                          · rw [htr rfl rfl] at C5
                            clear htr
                            go_wp2_with fail
                            refine C3.out.mono ?_
                            rintro e w' ⟨rfl, rfl⟩
                            go_wp2_with fail
                            refine C4.out.mono ?_
                            rintro e w' ⟨rfl, rfl⟩
                            go_wp2_with fail
                            refine C5.out.mono ?_
                            rintro e w' ⟨rfl, rfl⟩
                            go_wp2_with fail
                            go_round
                            case rel => exact ⟨x + 1, by omega, by go_num⟩
                            case measure => simp [intOf]; omega
                      · obtain rfl : x = 4 := by omega
                        go_wp2_with fail
                        go_round
                        case rel => exact ⟨u + 1, by omega, by go_num⟩
                        case measure => simp [intOf]; omega
                  · obtain rfl : u = 4 := by omega
                    go_wp2_with fail
                    go_round
                    case rel => exact ⟨v + 1, by omega, by go_num⟩
                    case measure => simp [intOf]; omega
              · have t1 : ((v : Int) != (a : Int)) = true := by rw [bne_iff_ne]; omega
                have C6 := Lib.hid (HBF.out a v a hlta hltv hlta)
                rw [bef_not OK.out hlta hltv hva] at C6
                clear hva
                go_wp2_with fail
                refine C1.out.mono ?_
                rintro e w' ⟨rfl, rfl⟩
                go_wp2_with fail
                refine C2.out.mono ?_
                rintro e w' ⟨rfl, rfl⟩
                go_wp2_with fail
                refine C6.out.mono ?_
                rintro e w' ⟨rfl, rfl⟩
                go_wp2_with fail
                go_loop [93] (fun iv => ∃ u : Nat, u ≤ 4 ∧ iv = .int .i64 u) (fun iv => 4 - (intOf iv).toNat)
                case atStart => exact ⟨0, by omega, rfl⟩
                case round =>
                  obtain ⟨u, hu, rfl⟩ := hrel
                  by_cases hltu : u < 4
                  · go_wp2_with fail
                    go_loop [96] (fun iv => ∃ x : Nat, x ≤ 4 ∧ iv = .int .i64 x) (fun iv => 4 - (intOf iv).toNat)
                    case atStart => exact ⟨0, by omega, rfl⟩
                    case round =>
                      obtain ⟨x, hx, rfl⟩ := hrel
                      by_cases hltx : x < 4
                      ·
                        obtain ⟨p, ep⟩ : ∃ p, p = (famG 4 F a v).testBit u := ⟨_, rfl⟩
                        have C3 := Lib.hid (HBF.out a v u hlta hltv hltu)
                        rw [← ep] at C3
                        obtain ⟨q, eq⟩ : ∃ p, p = (famG 4 F a u).testBit x := ⟨_, rfl⟩
                        have C4 := Lib.hid (HBF.out a u x hlta hltu hltx)
                        rw [← eq] at C4
                        have C5 := Lib.hid (HBF.out a v x hlta hltv hltx)
                        have htr : p = true → q = true → (famG 4 F a v).testBit x = true := fun h1 h2 => bef_trans OK.out hlta hltv hltu hltx (by rw [← ep]; exact h1) (by rw [← eq]; exact h2)
                        clear ep eq
                        cases p
                        · clear htr
                          go_wp2_with fail
                          refine C3.out.mono ?_
                          rintro e w' ⟨rfl, rfl⟩
                          go_wp2_with fail
                          go_round
                          case rel => exact ⟨x + 1, by omega, by go_num⟩
                          case measure => simp [intOf]; omega
                        · cases q
                          · clear htr
                            go_wp2_with fail
                            refine C3.out.mono ?_
                            rintro e w' ⟨rfl, rfl⟩
                            go_wp2_with fail
                            refine C4.out.mono ?_
                            rintro e w' ⟨rfl, rfl⟩
                            go_wp2_with fail
                            go_round
                            case rel => exact ⟨x + 1, by omega, by go_num⟩
                            case measure => simp [intOf]; omega
                          · rw [htr rfl rfl] at C5
                            clear htr
                            go_wp2_with fail
                            refine C3.out.mono ?_
                            rintro e w' ⟨rfl, rfl⟩
                            go_wp2_with fail
                            refine C4.out.mono ?_
                            rintro e w' ⟨rfl, rfl⟩
                            go_wp2_with fail
                            refine C5.out.mono ?_
                            rintro e w' ⟨rfl, rfl⟩
                            go_wp2_with fail
                            go_round
                            case rel => exact ⟨x + 1, by omega, by go_num⟩
                            case measure => simp [intOf]; omega
                      · obtain rfl : x = 4 := by omega
                        go_wp2_with fail
                        go_round
                        case rel => exact ⟨u + 1, by omega, by go_num⟩
                        case measure => simp [intOf]; omega
                  · obtain rfl : u = 4 := by omega
                    go_wp2_with fail
                    go_round
                    case rel => exact ⟨v + 1, by omega, by go_num⟩
                    case measure => simp [intOf]; omega
            · obtain rfl : v = 4 := by omega
              go_wp2_with fail
              go_round
              case rel => exact ⟨a + 1, by omega, by go_num⟩
              case measure => simp [intOf]; omega
        · obtain rfl : a = 4 := by omega
          go_wp2_with fail
          go_loop [123] (fun iv => ∃ k : Nat, k ≤ 16 ∧ iv = .int .i64 k) (fun iv => 16 - (intOf iv).toNat)
          case atStart => exact ⟨0, by omega, rfl⟩
          case round =>
            obtain ⟨k, hk, rfl⟩ := hrel
            by_cases hltk : k < 16
            · go_wp2_with fail
              go_loop [126] (fun iv => ∃ x : Nat, x ≤ 16 ∧ iv = .int .i64 x) (fun iv => 16 - (intOf iv).toNat)
              case atStart => exact ⟨0, by omega, rfl⟩
              case round =>
                obtain ⟨x, hx, rfl⟩ := hrel
                by_cases hltx : x < 16
                · go_wp2_with fail
                  go_loop [12, 129] (fun o i => ∃ a : Nat, a ≤ 4 ∧ i = .int .i64 a ∧ o = .int .u64 (wantW F k x a : Nat)) (fun _ i => 4 - (intOf i).toNat)
                  case atStart => exact ⟨0, by omega, rfl, rfl⟩
                  case round =>
                    obtain ⟨a, ha, rfl, rfl⟩ := hrel
                    by_cases hlta : a < 4
                    · go_wp2_with fail
                      go_loop [12, 132] (fun o i => ∃ v : Nat, v ≤ 4 ∧ i = .int .i64 v ∧ o = .int .u64 (wantV (condB F k x a) (wantW F k x a) v : Nat)) (fun _ i => 4 - (intOf i).toNat)
                      case atStart => exact ⟨0, by omega, rfl, rfl⟩
                      case round =>
                        obtain ⟨v, hv, rfl, rfl⟩ := hrel
                        by_cases hltv : v < 4
                        · have hol := wantV_lt (condB F k x a) (wantW_lt (F := F) k x a) hv
                          have hS : wantV (condB F k x a) (wantW F k x a) (v + 1) = if condB F k x a v then wantV (condB F k x a) (wantW F k x a) v ||| 2 ^ v else wantV (condB F k x a) (wantW F k x a) v := rfl
                          have hC : condB F k x a v = (k.testBit a && x.testBit v && firstB F a x v) := rfl
                          have hbk := bit_int k a hltk hlta
                          have hbx := bit_int x v hltx hltv
                          obtain ⟨o, eo⟩ : ∃ o, o = wantV (condB F k x a) (wantW F k x a) v := ⟨_, rfl⟩
                          rw [← eo] at hS hol ⊢
                          obtain ⟨kb, ek⟩ : ∃ kb, kb = k.testBit a := ⟨_, rfl⟩
                          obtain ⟨xb, ex⟩ : ∃ xb, xb = x.testBit v := ⟨_, rfl⟩
                          rw [← ek, ← ex] at hC
                          rw [← ek] at hbk
                          rw [← ex] at hbx
                          rw [hC] at hS
                          have HS := Lib.hid hS
                          clear hS hC ek ex eo
                          cases kb
                          · have hW : wantV (condB F k x a) (wantW F k x a) (v + 1) = o := by have := HS.out; simpa using this
                            have HW := Lib.hid hW
                            clear hW
                            go_wp2_with fail
                            go_round
                            case rel => exact ⟨v + 1, by omega, by go_num, by rw [HW.out]⟩
                            case measure => simp [intOf]; omega
                          · cases xb
                            · have hW : wantV (condB F k x a) (wantW F k x a) (v + 1) = o := by have := HS.out; simpa using this
                              have HW := Lib.hid hW
                              clear hW
                              go_wp2_with fail
                              go_round
                              case rel => exact ⟨v + 1, by omega, by go_num, by rw [HW.out]⟩
                              case measure => simp [intOf]; omega
                            · rw [Bool.true_and, Bool.true_and] at HS
                              go_wp2_with fail
                              go_loop [15, 147] (fun f i => ∃ u : Nat, u ≤ 4 ∧ i = .int .i64 u ∧ f = .bool (allB u (firstIn F a x v))) (fun _ i => 4 - (intOf i).toNat)
                              case atStart => exact ⟨0, by omega, rfl, rfl⟩
                              case round =>
                                obtain ⟨u, hu, rfl, rfl⟩ := hrel
                                by_cases hltu : u < 4
                                · have hS2 : allB (u + 1) (firstIn F a x v) = (allB u (firstIn F a x v) && firstIn F a x v u) := allB_succ _ _
                                  have hF : firstIn F a x v u = (!x.testBit u || !(famG 4 F a u).testBit v || (famG 4 F a v).testBit u) := rfl
                                  have hbu := bit_int x u hltx hltu
                                  rw [hF] at hS2
                                  clear hF
                                  obtain ⟨g, eg⟩ : ∃ g, g = allB u (firstIn F a x v) := ⟨_, rfl⟩
                                  obtain ⟨ub, eu⟩ : ∃ ub, ub = x.testBit u := ⟨_, rfl⟩
                                  obtain ⟨p, ep⟩ : ∃ p, p = (famG 4 F a u).testBit v := ⟨_, rfl⟩
                                  have C1 := Lib.hid (HBF.out a u v hlta hltu hltv)
                                  rw [← ep] at C1
                                  obtain ⟨q, eq⟩ : ∃ p, p = (famG 4 F a v).testBit u := ⟨_, rfl⟩
                                  have C2 := Lib.hid (HBF.out a v u hlta hltv hltu)
                                  rw [← eq] at C2
                                  rw [← eg, ← eu, ← ep, ← eq] at hS2
                                  rw [← eu] at hbu
                                  rw [← eg]
                                  have HF := Lib.hid hS2
                                  clear hS2 eg eu ep eq
                                  cases g
                                  · go_wp2_with fail
                                    go_round
                                    case rel => exact ⟨u + 1, by omega, by go_num, by rw [HF.out]; rfl⟩
                                    case measure => simp [intOf]; omega
                                  · cases ub
                                    · go_wp2_with fail
                                      go_round
                                      case rel => exact ⟨u + 1, by omega, by go_num, by rw [HF.out]; rfl⟩
                                      case measure => simp [intOf]; omega
                                    · cases p
                                      ·
                                        go_wp2_with fail
                                        refine C1.out.mono ?_
                                        rintro e w' ⟨rfl, rfl⟩
                                        go_wp2_with fail
                                        go_round
                                        case rel => exact ⟨u + 1, by omega, by go_num, by rw [HF.out]; rfl⟩
                                        case measure => simp [intOf]; omega
                                      ·
                                        go_wp2_with fail
                                        refine C1.out.mono ?_
                                        rintro e w' ⟨rfl, rfl⟩
                                        go_wp2_with fail
                                        refine C2.out.mono ?_
                                        rintro e w' ⟨rfl, rfl⟩
                                        go_wp2_with fail
                                        go_round
                                        case rel => exact ⟨u + 1, by omega, by go_num, by rw [HF.out]; rfl⟩
                                        case measure => simp [intOf]; omega
                                · obtain rfl : u = 4 := by omega
                                  rw [show firstB F a x v = allB 4 (firstIn F a x v) from rfl] at HS
                                  obtain ⟨g, eg⟩ : ∃ g, g = allB 4 (firstIn F a x v) := ⟨_, rfl⟩
                                  rw [← eg] at HS ⊢
                                  clear eg
                                  cases g
                                  · have hW : wantV (condB F k x a) (wantW F k x a) (v + 1) = o := by have := HS.out; simpa using this
                                    have HW := Lib.hid hW
                                    clear hW
                                    go_wp2_with fail
                                    go_round
                                    case rel => exact ⟨v + 1, by omega, by go_num, by rw [HW.out]⟩
                                    case measure => simp [intOf]; omega
                                  · have hW : wantV (condB F k x a) (wantW F k x a) (v + 1) = o ||| 2 ^ v := by have := HS.out; simpa using this
                                    obtain ⟨P, hP⟩ : ∃ P : Nat, P = 2 ^ v := ⟨_, rfl⟩
                                    have hPl : P < 18446744073709551616 := by rw [hP]; exact pow_lt64 (by omega)
                                    have hsh := shl_one hP (by omega)
                                    have hor : bits .or .u64 (o : Int) (P : Int) = ((o ||| P : Nat) : Int) := u64_or_nat _ _ (by omega) hPl
                                    rw [← hP] at hW
                                    have HW := Lib.hid hW
                                    clear hW hP
                                    go_wp2_with fail
                                    go_round
                                    case rel => exact ⟨v + 1, by omega, by go_num, by rw [HW.out]⟩
                                    case measure => simp [intOf]; omega
                        · obtain rfl : v = 4 := by omega
                          go_wp2_with fail
                          go_round
                          case rel => exact ⟨a + 1, by omega, by go_num, rfl⟩
                          case measure => simp [intOf]; omega
                    · obtain rfl : a = 4 := by omega
                      obtain ⟨rb, ro, hc1, hr1⟩ := HRA.out k hltk
                      obtain ⟨hc2, -⟩ := hr1 x hltx
                      rw [minima OK.out hltk hltx] at hc2
                      obtain ⟨o, eo⟩ : ∃ o, o = wantW F k x 4 := ⟨_, rfl⟩
                      rw [← eo] at hc2 ⊢
                      clear hr1 eo
                      go_wp2_with fail
                      go_round
                      case rel => exact ⟨x + 1, by omega, by go_num⟩
                      case measure => simp [intOf]; omega
                · obtain rfl : x = 16 := by omega
                  go_wp2_with fail
                  go_round
                  case rel => exact ⟨k + 1, by omega, by go_num⟩
                  case measure => simp [intOf]; omega
            · obtain rfl : k = 16 := by omega
              go_wp2_with (go_at_call 10; refine (awake_any _ (HL.out.below HB.out) (HU.out.below HB.out)).mono ?_; rintro e w2 ⟨rfl, hst⟩; have HB := Lib.hid (HB.out.trans (hst.mono HB.out.size)); clear hst)
              go_ret
              exact ⟨rfl, HB.out⟩
    · obtain ⟨E, eE⟩ : ∃ E, E = famErr 2 16 m F := ⟨_, rfl⟩
      have hfe := Family_err 2 A 16 c R m cc F w hU hT hlen he
      rw [← eE] at hfe he
      have HR := Lib.hid hfe
      have hne : ((E : Int) != 0) = true := by rw [bne_iff_ne]; omega
      clear hL hU hT HT he eE hfe
      go_enter Tryd.func6, Tryd.ntmps6
      go_wp2_with fail
      refine HR.out.mono ?_
      rintro e w1 ⟨rfl, hst⟩
      have HB := Lib.hid (hst.trans ((below_alloc w1 (.cells #[.slice none 0 0] 34)).mono hst.size))
      clear hst
      go_wp2_with (go_at_call 10; refine (awake_any _ (HL.out.below HB.out) (HU.out.below HB.out)).mono ?_; rintro e w2 ⟨rfl, hst⟩; have HB := Lib.hid (HB.out.trans (hst.mono HB.out.size)); clear hst)
      go_ret
      exact ⟨rfl, HB.out⟩
  · have hne : ((len : Int) != 16) = true := by rw [bne_iff_ne]; omega
    clear hL hU hT HT h16
    go_enter Tryd.func6, Tryd.ntmps6
    go_wp2_with (go_at_call 10; refine (awake_any _ HL.out HU.out).mono ?_; rintro e w2 ⟨rfl, hst⟩; have HB := Lib.hid hst; clear hst)
    go_ret
    exact ⟨rfl, HB.out⟩
end Go.Proofs.YtflhngmfcpeamaaDoor
