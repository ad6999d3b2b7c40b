/-
  Walks of layer 54: flood.
-/
import Derived.Test.YtgnkeecjaffnaaaProg
import Derived.Test.YtgnkeecjaffnaaaBase
import Derived.Test.YtgnkeecjaffnaaaRow
import Derived.Test.YtgnkeecjaffnaaaRowU
import Derived.Test.YtgnkeecjaffnaaaRowsOf
import Derived.Test.YtgnkeecjaffnaaaPc
import Derived.Test.YtgnkeecjaffnaaaPd
import Derived.Test.YtgnkeecjaffnaaaPrF
import Derived.Test.YtgnkeecjaffnaaaPrI
import Derived.Test.YtgnkeecjaffnaaaPfP
import Derived.Test.YtgnkeecjaffnaaaPfA
import Derived.Test.YtgnkeecjaffnaaaPfQ
import Derived.Deep.RegionHeld3
import Derived.Deep.AppendLies
import Derived.Deep.DeepCutAuto
namespace Go.Proofs.Ytgnkeecjaffnaaa
open Go.RowKit

theorem mv_lit {rd tv : Nat → Int} {t i j : Nat} {gi gk rt bt : Bool} (h1 : goB rd i t = gi) (h2 : goB rd j t = gk) (h3 : (rd i == (t : Int)) = rt) (h4 : (tv i).toNat.testBit j = bt) : mvB rd tv t i j = (i != j && (!gi || (rt && bt)) && !gk) := by
  unfold mvB reB; rw [h1, h2, h3, h4]
theorem own_pos {w : World} {base e n : Nat} {v : Value} {xs : List Value} (h : w.ownsRow base e 1 v n xs) (h0 : 0 < n) : ∃ g cap, v = .slice (some ⟨g, 0, none⟩) n cap := by
  rcases h.2 with ⟨_, hn⟩ | ⟨g, cap, _, rfl, _⟩
  · omega
  · exact ⟨g, cap, rfl⟩
/-- What the loop over the times holds. -/
def FloK (w wr : World) (bC b8 br N X c : Nat) (A : Option Addr) (rd tv : Nat → Int) (t : Nat) (kv : Value) : Prop :=
  ∃ bk ck vL vF rows, kv = .slice (some ⟨bk, 0, none⟩) N ck ∧ w.heap.size ≤ bk ∧ KnI wr bk N (kn rd tv N (t - 1)) ∧ FloI w wr bC b8 br (.slice A N c) vL vF rows N t t (fun t i => (stN rd tv N X t i : Int)) (fun t => fcN rd N X t N)
def floD (n r x : Nat) (rd tv : Nat → Int) : RunD := ⟨r + 1, fun _ => n, fun t i => (stN rd tv n x t i : Int), r + 1, fun t => fcN rd n x t n⟩
def FloPost (w : World) (D : RunD) (e : Ending) (w' : World) : Prop := ∃ v, e = .returned v ∧ D.owned w' w.heap.size v ∧ Below w.heap.size w w'
set_option maxHeartbeats 4000000 in
set_option maxRecDepth 100000 in
theorem flood_any (N r X : Nat) (A : Option Addr) (c : Nat) (rd tv : Nat → Int) (w : World) (hx : CrS w A N rd tv) (h2 : 2 ≤ N) (h4 : N ≤ 4) (hr : r ≤ 3) (hX : X < 2 ^ N) (htv : ∀ i, i < N → 0 ≤ tv i) :
    Calls Try.prog 44 #[.int .i64 N, .int .i64 r, .int .i64 X, .slice A N c] w (FloPost w (floD N r X rd tv)) := by
  have HX := Lib.hid hx
  have HTV := Lib.hid htv
  have HXL := Lib.hid hX
  clear hx htv hX
  go_enter Try.func44, Try.ntmps44
  go_upto_region 1 with (fail)
  obtain ⟨W, hW⟩ : ∃ W, W = (w.alloc (.cells #[.slice A N c] 26)).alloc (.cells #[.slice none 0 0, .slice none 0 0] 30) := ⟨_, rfl⟩
  rw [← hW]
  obtain ⟨hC, h8, hB⟩ := two_boxes4 w _ _ _ _ W hW
  have HC := Lib.hid hC
  have H8 := Lib.hid h8
  have HB := Lib.hid hB
  clear hC h8 hB hW
  go_wp2_with fail
  go_loop [9, 26] (fun pv iv => ∃ i : Nat, i ≤ N ∧ iv = .int .i64 i ∧ pv = .int .i64 ((3 ^ i : Nat) : Int)) (fun _ iv => N - (intOf iv).toNat)
  case atStart => exact ⟨0, Nat.zero_le _, rfl, rfl⟩
  case round =>
    obtain ⟨i, hi, rfl, rfl⟩ := hrel
    have hP := three_le (Nat.le_trans hi h4)
    by_cases hlt : i < N
    · have hP3 : 3 ^ (i + 1) = 3 ^ i * 3 := Nat.pow_succ 3 i
      obtain ⟨Q, hQ⟩ : ∃ Q, Q = 3 ^ (i + 1) := ⟨_, rfl⟩
      obtain ⟨P, hPe⟩ : ∃ P, P = 3 ^ i := ⟨_, rfl⟩
      rw [← hQ, ← hPe] at hP3
      rw [← hPe] at hP ⊢
      clear hPe
      go_wp2_with fail
      go_round
      case rel => exact ⟨i + 1, by omega, by go_num, by rw [← hQ]; congr 1; omega⟩
      case measure => simp [intOf]; omega
    · have hiN : i = N := by omega
      rw [hiN] at hP ⊢
      clear hiN hlt hi
      obtain ⟨P, hPe⟩ : ∃ P, P = 3 ^ N := ⟨_, rfl⟩
      rw [← hPe] at hP ⊢
      have HPe := Lib.hid hPe
      clear hPe
      have hmk := fun w1 => run_make_row' (P := Try.prog) (w := w1) 38 3 (.int .i64 0) 8 Try.underlying38 Try.infoInt rfl .i64 .i64 N (by omega) (by omega)
      go_upto_region 7 with (fail)
      have hrow := KnI.made W N
      have hbl := below_alloc W (.cells (madeCells #[.int .i64 0] N) 3)
      have hk0 := HB.out.size
      clear hmk
      obtain ⟨bk, ebk⟩ : ∃ bk, bk = W.heap.size := ⟨_, rfl⟩
      rw [← ebk] at hrow ⊢
      have HGE := Lib.hid (show W.heap.size ≤ bk from by omega)
      generalize W.alloc (.cells (madeCells #[.int .i64 0] N) 3) = W1 at hrow hbl ⊢
      have HW1 := Lib.hid hbl
      have HR := Lib.hid hrow
      clear hrow hbl ebk
      go_wp2_with fail
      go_loopw [35] (fun iv wr => ∃ i : Nat, i ≤ N ∧ iv = .int .i64 i ∧ KnI wr bk N (fun k => if k < i then 2 ^ k else 0) ∧ Below W.heap.size W wr) (fun iv _ => N - (intOf iv).toNat)
      case atStart => exact ⟨0, Nat.zero_le _, rfl, HR.out.congr fun k _ => by simp, HW1.out⟩
      case round =>
        clear HR HW1
        obtain ⟨i, hi, rfl, hkn, hbl⟩ := hrel
        by_cases hlt : i < N
        · have hw := wrap_pow (k := i) rfl (by omega)
          have c0 := hkn.cell hlt
          have f0 := hkn.frozen (k := i)
          have HK := Lib.hid hkn
          have HB1 := Lib.hid hbl
          have hQ : ((2 ^ i : Nat) : Int) = (2 : Int) ^ i := by rw [Int.natCast_pow]; rfl
          have HK2 : Hid (KnI (wr.setCell ⟨bk, i, none⟩ (.int .i64 ((2 : Int) ^ i))) bk N (fun k => if k < i + 1 then 2 ^ k else 0)) := Lib.hid (by
            rw [← hQ]
            refine (hkn.set (2 ^ i)).congr fun k _ => ?_
            show (if k = i then 2 ^ i else if k < i then 2 ^ k else 0) = if k < i + 1 then 2 ^ k else 0
            by_cases h : k = i
            · rw [if_pos h, if_pos (show k < i + 1 by omega), h]
            · rw [if_neg h]
              by_cases h3 : k < i
              · rw [if_pos h3, if_pos (show k < i + 1 by omega)]
              · rw [if_neg h3, if_neg (show ¬ k < i + 1 by omega)])
          clear hkn hbl hQ
          go_wp2_with fail
          go_roundw
          case rel => exact ⟨i + 1, by omega, by go_num, HK2.out, HB1.out.setCell (p := ⟨bk, i, none⟩) HGE.out _⟩
          case measure => simp [intOf]; omega
        · obtain rfl : i = N := by omega
          have HK : Hid (KnI wr bk i (kn rd tv i 0)) := Lib.hid (hkn.congr fun k hk => by rw [if_pos hk]; rfl)
          have HB1 := Lib.hid hbl
          clear hkn hbl
          go_upto_region 14 with (fail)
          have HB2 := Lib.hid (HB.out.trans (HB1.out.mono HB.out.size))
          have hs2 := HB2.out.size
          have hbr := Blk.new wr #[.slice none 0 0, .slice none 0 0] 30
          have hba := below_alloc wr (.cells #[.slice none 0 0, .slice none 0 0] 30)
          have h8s := (H8.out.below HB1.out).lt
          have hFI : FloK w (wr.alloc (.cells #[.slice none 0 0, .slice none 0 0] 30)) w.heap.size (w.heap.size + 1) wr.heap.size i X c A rd tv 0 (.slice (some ⟨bk, 0, none⟩) i i) :=
            ⟨bk, i, _, _, [], rfl, Nat.le_trans HB.out.size HGE.out, HK.out.below hba, ⟨HB2.out.alloc hs2 _, (HC.out.below HB1.out).below hba, (H8.out.below HB1.out).below hba, hbr, by omega, ⟨by omega, hs2⟩, World.ownsRow_nil _ _ _ _, fun i hi => absurd hi (Nat.not_lt_zero _), World.ownsRow_nil _ _ _ _⟩⟩
          obtain ⟨br, ebr⟩ : ∃ br, br = wr.heap.size := ⟨_, rfl⟩
          rw [← ebr] at hFI ⊢
          generalize wr.alloc (.cells #[.slice none 0 0, .slice none 0 0] 30) = V at hFI ⊢
          generalize w.heap.size + 1 = b8 at hFI ⊢
          have HFI := Lib.hid hFI
          clear hFI hbr hba hs2 h8s HK HB1 HB2 ebr HC H8 HB HGE hk0
          go_wp2_with fail
          go_loopw [10, 47] (fun kv iv wr => ∃ t : Nat, t ≤ r + 1 ∧ iv = .int .i64 t ∧ FloK w wr w.heap.size b8 br i X c A rd tv t kv) (fun _ iv _ => r + 1 - (intOf iv).toNat)
          case atStart => exact ⟨0, Nat.zero_le _, rfl, HFI.out⟩
          case round =>
            clear HFI
            obtain ⟨t, ht, rfl, bk, ck, vL, vF, rows, rfl, hbk, hkn, hfi⟩ := hrel
            obtain ⟨V0, eW⟩ : ∃ V0, V0 = wr := ⟨_, rfl⟩
            subst eW
            have HFI := Lib.hid hfi
            have HKN := Lib.hid hkn
            have HXR := Lib.hid (HX.out.below hfi.below)
            clear hfi hkn
            by_cases hlt : t < r + 1
            · have hlt' : (t : Int) < (r : Int) + 1 := by omega
              go_upto_if 51 with fail
              go_cut [10, 15, 16, 17, 18, 47] (fun kv _ _ _ _ iv wx => iv = .int .i64 t ∧ ∃ q cap, kv = .slice (some ⟨q, 0, none⟩) i cap ∧ w.heap.size ≤ q ∧ KnI wx q i (kn rd tv i t) ∧ Below V0.heap.size V0 wx)
              case first =>
                by_cases ht0 : t = 0
                · subst ht0
                  have hd : decide ((0 : Int) < ((0 : Nat) : Int)) = false := rfl
                  go_wp2_with fail
                  go_meet
                  exact ⟨rfl, _, _, rfl, hbk, HKN.out, Below.refl _ _⟩
                · obtain ⟨s, rfl⟩ : ∃ s, t = s + 1 := ⟨t - 1, by omega⟩
                  have hd : decide ((0 : Int) < ((s + 1 : Nat) : Int)) = true := decide_eq_true (by omega)
                  have hd' : decide ((0 : Int) < (s : Int) + 1) = true := decide_eq_true (by omega)
                  go_upto_region 19 with (go_at_call 51; refine (cloneK _ _ HKN.out (by omega) (by omega)).mono ?_; rintro e w1 ⟨q, cap, rfl, hq, hqs, hb1⟩; have HQ := Lib.hid hq; have HBQ := Lib.hid hb1; clear hq hb1)
                  have hszq := HBQ.out.size
                  have HKL := Lib.hid (kn_lt rd tv i s)
                  obtain ⟨f, ef⟩ : ∃ f, f = kn rd tv i s := ⟨_, rfl⟩
                  have HEND : Hid (∀ u, orU rd tv (s + 1) f u i = kn rd tv i (s + 1) u) := Lib.hid fun u => by rw [ef]; rfl
                  simp only [Nat.add_sub_cancel] at HKN HQ
                  rw [← ef] at HKN HQ HKL
                  have HC1 := Lib.hid HFI.out.hC
                  have hgq := Nat.le_trans HFI.out.below.size hqs
                  clear ef HFI hbk
                  go_wp2_with fail
                  go_loopw [55] (fun iv wx => ∃ a : Nat, a ≤ i ∧ iv = .int .i64 a ∧ KnI wx q i (fun k => orU rd tv (s + 1) f k a) ∧ Below V0.heap.size V0 wx) (fun iv _ => i - (intOf iv).toNat)
                  case atStart => exact ⟨0, Nat.zero_le _, rfl, HQ.out, HBQ.out⟩
                  case round =>
                    clear HQ HBQ
                    obtain ⟨a, ha, rfl, hka, hbx⟩ := hrel
                    by_cases hla : a < i
                    · have HKA : Hid (KnI wr q i (orR rd tv (s + 1) f a 0)) := Lib.hid (hka.congr fun k _ => (orR_zero k).symm)
                      have HBA := Lib.hid hbx
                      clear hka hbx
                      go_wp2_with fail
                      go_loopw [59] (fun jv wx => ∃ j : Nat, j ≤ i ∧ jv = .int .i64 j ∧ KnI wx q i (orR rd tv (s + 1) f a j) ∧ Below V0.heap.size V0 wx) (fun jv _ => i - (intOf jv).toNat)
                      case atStart => exact ⟨0, Nat.zero_le _, rfl, HKA.out, HBA.out⟩
                      case round =>
                        clear HKA HBA
                        obtain ⟨j, hj, rfl, hkj, hbx⟩ := hrel
                        by_cases hlj : j < i
                        · have HK := Lib.hid hkj
                          have HBX := Lib.hid hbx
                          obtain ⟨bc, off, rfl, c1, c2, -, c4⟩ := HXR.out.below hbx a hla
                          have hC0 := (HC1.out.below hbx).cell (k := 0) rfl
                          have HGI := Lib.hid (gone_any _ i c a (s + 1) w.heap.size rd tv wr (HXR.out.below hbx) (by omega) hla hC0)
                          have HGK := Lib.hid (gone_any _ i c j (s + 1) w.heap.size rd tv wr (HXR.out.below hbx) (by omega) hlj hC0)
                          have k0 := (HKN.out.below hbx).cell hla
                          have k1 := hkj.cell hlj
                          have f1 := hkj.frozen (k := j)
                          obtain ⟨Y, eY⟩ : ∃ Y : Nat, tv a = Y := ⟨(tv a).toNat, by have := HTV.out a hla; omega⟩
                          have hY := i64_has Y j (by omega)
                          have h16 : (2 : Nat) ^ i ≤ 16 := Nat.pow_le_pow_right (n := 2) (j := 4) (by decide) h4
                          have hfa := HKL.out a hla
                          have hoj := orU_lt (rd := rd) (tv := tv) (t := s + 1) HKL.out hlj a ha
                          have e1 : orR rd tv (s + 1) f a j j = orU rd tv (s + 1) f j a := if_neg (Nat.lt_irrefl _)
                          have HSK := Lib.hid (show mvB rd tv (s + 1) a j = false → KnI wr q i (orR rd tv (s + 1) f a (j + 1)) from fun h => hkj.congr fun k _ => by
                            rw [orR_set]
                            by_cases hk : k = j
                            · rw [if_pos hk, hk, e1, orU_no h]
                            · rw [if_neg hk])
                          have HST := Lib.hid (show mvB rd tv (s + 1) a j = true → KnI (wr.setCell ⟨q, j, none⟩ (.int .i64 ((orU rd tv (s + 1) f j a ||| f a : Nat) : Int))) q i (orR rd tv (s + 1) f a (j + 1)) from fun h => (hkj.set _).congr fun k _ => by
                            rw [orR_set]
                            unfold upd
                            by_cases hk : k = j
                            · rw [if_pos hk, if_pos hk, orU_yes h]
                            · rw [if_neg hk, if_neg hk])
                          obtain ⟨gi, egi⟩ : ∃ b, goB rd a (s + 1) = b := ⟨_, rfl⟩
                          obtain ⟨gk, egk⟩ : ∃ b, goB rd j (s + 1) = b := ⟨_, rfl⟩
                          obtain ⟨x, ex⟩ : ∃ x, rd a = x := ⟨_, rfl⟩
                          obtain ⟨rt, hrt⟩ : ∃ b, (x == ((s + 1 : Nat) : Int)) = b := ⟨_, rfl⟩
                          obtain ⟨bt, ebt⟩ : ∃ b, Y.testBit j = b := ⟨_, rfl⟩
                          have HM := Lib.hid (mv_lit (tv := tv) (rt := rt) (bt := bt) egi egk (by rw [ex]; exact hrt) (by rw [eY, Int.toNat_natCast]; exact ebt))
                          rw [egi] at HGI
                          rw [egk] at HGK
                          rw [ebt] at hY
                          rw [ex] at c1
                          rw [eY] at c2
                          rw [e1] at k1
                          obtain ⟨O, eO⟩ : ∃ O, O = orU rd tv (s + 1) f j a := ⟨_, rfl⟩
                          obtain ⟨fa, efa⟩ : ∃ z, z = f a := ⟨_, rfl⟩
                          rw [← eO, ← efa] at HST
                          rw [← eO] at k1 hoj
                          rw [← efa] at k0 hfa
                          have hor := i64_or_nat O fa (by omega) (by omega)
                          obtain ⟨Z, eZ⟩ : ∃ Z, Z = O ||| fa := ⟨_, rfl⟩
                          rw [← eZ] at hor HST
                          have hrt' : (x == (s : Int) + 1) = rt := hrt
                          clear egi egk ex ebt e1 eO efa eY hkj hbx eZ hgq c4 HKL
                          obtain ⟨RE, eRE⟩ : ∃ b, b = (!gi || (rt && bt)) := ⟨_, rfl⟩
                          go_upto_region 25 with (fail)
                          go_cut [18] (fun s18 wx => s18 = .bool RE ∧ wx = wr)
                          case first =>
                            clear HSK HST HM HGK k0 k1 f1 hor
                            cases gi
                            · go_wp2_with (go_at_call 71; refine (HGI.out).mono ?_; rintro e w' ⟨rfl, rfl⟩)
                              go_meet
                              exact ⟨by rw [eRE]; rfl, rfl⟩
                            · cases rt
                              · go_wp2_with (go_at_call 71; refine (HGI.out).mono ?_; rintro e w' ⟨rfl, rfl⟩)
                                go_meet
                                exact ⟨by rw [eRE]; rfl, rfl⟩
                              · cases bt
                                · go_wp2_with (go_at_call 71; refine (HGI.out).mono ?_; rintro e w' ⟨rfl, rfl⟩)
                                  go_meet
                                  exact ⟨by rw [eRE]; rfl, rfl⟩
                                · go_wp2_with (go_at_call 71; refine (HGI.out).mono ?_; rintro e w' ⟨rfl, rfl⟩)
                                  go_meet
                                  exact ⟨by rw [eRE]; rfl, rfl⟩
                          case rest =>
                            obtain ⟨rfl, rfl⟩ := hcut
                            rw [← eRE] at HM
                            clear eRE HGI c1 c2 hC0 hrt hrt' hY
                            obtain ⟨MV, eMV⟩ : ∃ b, b = (a != j && RE && !gk) := ⟨_, rfl⟩
                            rw [← eMV] at HM
                            go_upto_region 26 with (fail)
                            go_cut [99] (fun s99 wx => s99 = .bool MV ∧ wx = wc)
                            case first =>
                              clear HSK HST HM k0 k1 f1 hor
                              by_cases hij : a = j
                              · subst hij
                                have tij : ((a : Int) != (a : Int)) = false := by simp
                                go_wp2_with fail
                                go_meet
                                exact ⟨by rw [eMV]; simp, rfl⟩
                              · have tij : ((a : Int) != (j : Int)) = true := by rw [bne_iff_ne]; omega
                                cases RE
                                · go_wp2_with fail
                                  go_meet
                                  exact ⟨by rw [eMV]; simp, rfl⟩
                                · go_wp2_with (go_at_call 71; refine (HGK.out).mono ?_; rintro e w' ⟨rfl, rfl⟩)
                                  go_meet
                                  exact ⟨by rw [eMV]; simp [hij], rfl⟩
                            case rest =>
                              obtain ⟨rfl, rfl⟩ := hcut
                              clear HGK eMV
                              cases MV
                              · have HF := Lib.hid (HSK.out HM.out)
                                clear HM HST HSK k0 k1 f1 hor
                                go_wp2_with fail
                                go_roundw
                                case rel => exact ⟨j + 1, by omega, by go_num, HF.out, HBX.out⟩
                                case measure => simp [intOf]; omega
                              · have HF := Lib.hid (HST.out HM.out)
                                have hai : (a : Int) < (i : Int) := by omega
                                have hji : (j : Int) < (i : Int) := by omega
                                clear HM HST HSK
                                go_upto_region 27 with (fail)
                                go_region
                                all_goals (
                                  go_wp2_with fail
                                  go_roundw
                                  case rel => exact ⟨j + 1, by omega, by go_num, HF.out, below_drew (HBX.out.setCell (p := ⟨q, j, none⟩) hqs _)⟩
                                  case measure => simp [intOf]; omega)
                        · obtain rfl : j = i := by omega
                          have HKJ : Hid (KnI wr q j (fun k => orU rd tv (s + 1) f k (a + 1))) := Lib.hid (hkj.congr fun k hk => orR_end hk)
                          have HBX := Lib.hid hbx
                          clear hkj hbx
                          go_wp2_with fail
                          go_roundw
                          case rel => exact ⟨a + 1, by omega, by go_num, HKJ.out, HBX.out⟩
                          case measure => simp [intOf]; omega
                    · obtain rfl : a = i := by omega
                      have HKA : Hid (KnI wr q a (kn rd tv a (s + 1))) := Lib.hid (hka.congr fun k _ => HEND.out k)
                      have HBA := Lib.hid hbx
                      clear hka hbx
                      go_wp2_with fail
                      go_meet
                      exact ⟨rfl, q, cap, rfl, hgq, HKA.out, HBA.out⟩
              case rest =>
                obtain ⟨rfl, q, cap, rfl, hgq, hkq, hbq⟩ := hcut
                have hfi := HFI.out.keep hbq
                have HXR := Lib.hid (HXR.out.below hbq)
                have HKQ := Lib.hid hkq
                obtain ⟨V1, eW⟩ : ∃ V1, V1 = wc := ⟨_, rfl⟩
                subst eW
                have hC0 := hfi.hC.cell (k := 0) rfl
                have HFI := Lib.hid hfi
                have h16 : (2 : Nat) ^ i ≤ 16 := Nat.pow_le_pow_right (n := 2) (j := 4) (by decide) h4
                have hX16 : X < 16 := Nat.lt_of_lt_of_le HXL.out h16
                clear hkq hbq hfi HKN hbk
                obtain ⟨S, hS⟩ : ∃ S, S = fun a => stN rd tv i X t a := ⟨_, rfl⟩
                obtain ⟨G, hG⟩ : ∃ G, G = fcN rd i X t := ⟨_, rfl⟩
                have HSd := Lib.hid (fun a => (show S a = if goB rd a t then 0 else 1 + t * 3 ^ i + dgS X (kn rd tv i t a) i by rw [hS]; rfl))
                have HGd := Lib.hid (fun a => (show G (a + 1) = if goB rd a t then G a else G a ||| 2 ^ (i + a) by rw [hG]; rfl))
                have HG0 := Lib.hid (show G 0 = X by rw [hG]; rfl)
                have HGl := Lib.hid (fun a (ha : a ≤ i) => (show G a < 2 ^ (i + i) by rw [hG]; exact fcN_lt (Nat.lt_of_lt_of_le HXL.out (Nat.pow_le_pow_right (by decide) (by omega))) a ha))
                have HKL := Lib.hid (kn_lt rd tv i t)
                have HSG := Lib.hid (And.intro hS hG)
                clear hS hG
                go_wp2_with fail
                go_loopw [19, 20, 116] (fun lv fv av wx => ∃ a : Nat, a ≤ i ∧ av = .int .i64 a ∧ fv = .int .u64 (G a : Nat) ∧ wx.ownsRow V1.heap.size 3 1 lv a (i64L (fun j => (S j : Int)) a) ∧ Below V1.heap.size V1 wx) (fun _ _ av _ => i - (intOf av).toNat)
                case atStart => exact ⟨0, Nat.zero_le _, rfl, by rw [HG0.out], World.ownsRow_nil _ _ _ _, Below.refl _ _⟩
                case round =>
                  obtain ⟨a, ha, rfl, rfl, hown, hbx⟩ := hrel
                  have HBX := Lib.hid hbx
                  have HOW := Lib.hid hown
                  by_cases hla : a < i
                  · have hC0 := cell_below hbx hC0
                    have HGO := Lib.hid (gone_any _ i c a t w.heap.size rd tv wr (HXR.out.below hbx) (by omega) hla hC0)
                    have hsa := HSd.out a
                    have hga := HGd.out a
                    have hgl := HGl.out a ha
                    have hsz := hbx.size
                    clear hbx hown
                    cases hgo : goB rd a t
                    · rw [hgo] at HGO hsa hga
                      have hsh := shl_one (u := i + a) rfl (by omega)
                      have h256 : (2 : Nat) ^ (i + i) ≤ 256 := Nat.pow_le_pow_right (n := 2) (j := 8) (by decide) (by omega)
                      have hp2 : (2 : Nat) ^ (i + a) < 2 ^ (i + i) := Nat.pow_lt_pow_right (by decide) (by omega)
                      have hor := u64_or_nat (G a) (2 ^ (i + a)) (by omega) (by omega)
                      have HOR := Lib.hid (show bits .or .u64 (G a : Int) ((2 : Int) ^ (i + a)) = ((G (a + 1) : Nat) : Int) by rw [show G (a + 1) = G a ||| 2 ^ (i + a) from hga, ← hor, Int.natCast_pow]; rfl)
                      have hS1 := Lib.hid (show S a = 1 + t * 3 ^ i + dgS X (kn rd tv i t a) i from hsa)
                      have hkb := HKL.out a hla
                      have k0 := (HKQ.out.below HBX.out).cell hla
                      obtain ⟨kb, ekb⟩ : ∃ z, z = kn rd tv i t a := ⟨_, rfl⟩
                      rw [← ekb] at k0 hkb hS1
                      rw [← HPe.out] at hS1
                      obtain ⟨g, eg⟩ : ∃ z, z = G a := ⟨_, rfl⟩
                      rw [← eg] at HOR hgl ⊢
                      clear hsa hga hgo ekb eg hor
                      go_upto_region 38 with (go_at_call 71; refine (HGO.out).mono ?_; rintro e w' ⟨rfl, rfl⟩)
                      go_upto_region 39 with (fail)
                      obtain ⟨M, eM⟩ : ∃ M, M = t * P := ⟨_, rfl⟩
                      have hM : M ≤ 243 := by rw [eM]; exact Nat.mul_le_mul (show t ≤ 3 by omega) hP
                      have htp : (t : Int) * (P : Int) = (M : Int) := by rw [eM, Int.natCast_mul]
                      rw [← eM] at hS1
                      clear eM hsh hp2
                      go_wp2_with fail
                      go_loop [22, 23, 137] (fun sv dv kv => ∃ k : Nat, k ≤ i ∧ kv = .int .i64 k ∧ dv = .int .i64 ((3 ^ k : Nat) : Int) ∧ sv = .int .i64 ((1 + M + dgS X kb k : Nat) : Int)) (fun _ _ kv => i - (intOf kv).toNat)
                      case atStart => exact ⟨0, Nat.zero_le _, rfl, rfl, by simp [dgS]⟩
                      case round =>
                        obtain ⟨k, hk, rfl, rfl, rfl⟩ := hrel
                        have hd1 := dgS_lt X kb k
                        have hD := three_le (Nat.le_trans hk h4)
                        by_cases hlk : k < i
                        · have hD3 : 3 ^ (k + 1) = 3 ^ k * 3 := Nat.pow_succ 3 k
                          have hds : dgS X kb (k + 1) = dgS X kb k + (if kb.testBit k then 3 ^ k * (1 + (if X.testBit k then 1 else 0)) else 0) := rfl
                          have hb1 := i64_has kb k (by omega)
                          have hb2 := i64_bit X k (by omega)
                          obtain ⟨D, eD⟩ : ∃ D, D = 3 ^ k := ⟨_, rfl⟩
                          obtain ⟨D2, eD2⟩ : ∃ D, D = 3 ^ (k + 1) := ⟨_, rfl⟩
                          obtain ⟨s1, es1⟩ : ∃ D, D = dgS X kb k := ⟨_, rfl⟩
                          obtain ⟨s2, es2⟩ : ∃ D, D = dgS X kb (k + 1) := ⟨_, rfl⟩
                          rw [← eD, ← eD2] at hD3
                          rw [← es1, ← es2, ← eD] at hds
                          rw [← es1, ← eD] at hd1
                          rw [← eD] at hD
                          rw [← eD, ← es1]
                          have ES := Lib.hid es2
                          have ED := Lib.hid eD2
                          clear eD eD2 es1 es2
                          cases hkk : kb.testBit k
                          · rw [hkk] at hb1 hds
                            have hs : s2 = s1 := hds
                            clear hds hb2 hkk
                            go_wp2_with fail
                            go_round
                            case rel => exact ⟨k + 1, by omega, by go_num, by rw [← ED.out]; congr 1; omega, by rw [← ES.out]; congr 1; omega⟩
                            case measure => simp [intOf]; omega
                          · rw [hkk] at hb1 hds
                            cases hxx : X.testBit k
                            · rw [hxx] at hb2 hds
                              have hb2' : bits .and .i64 ((X : Int) / 2 ^ k) 1 = 0 := hb2
                              have hs : s2 = s1 + D := by have : s2 = s1 + D * (1 + 0) := hds; omega
                              clear hds hb2 hkk hxx
                              go_wp2_with fail
                              go_round
                              case rel => exact ⟨k + 1, by omega, by go_num, by rw [← ED.out]; congr 1; omega, by rw [← ES.out]; congr 1; omega⟩
                              case measure => simp [intOf]; omega
                            · rw [hxx] at hb2 hds
                              have hb2' : bits .and .i64 ((X : Int) / 2 ^ k) 1 = 1 := hb2
                              have hs : s2 = s1 + D * 2 := hds
                              clear hds hb2 hkk hxx
                              go_wp2_with fail
                              go_round
                              case rel => exact ⟨k + 1, by omega, by go_num, by rw [← ED.out]; congr 1; omega, by rw [← ES.out]; congr 1; omega⟩
                              case measure => simp [intOf]; omega
                        · obtain rfl : k = i := by omega
                          have HV := Lib.hid (show ((1 + M + dgS X kb k : Nat) : Int) = (S a : Int) by rw [hS1.out])
                          obtain ⟨Y, eY⟩ : ∃ Y, Y = 1 + M + dgS X kb k := ⟨_, rfl⟩
                          rw [← eY] at HV ⊢
                          clear eY hd1 hD
                          go_wp2_with (at_builtin; obtain ⟨i0, hi, hz0, hz1, hz2⟩ := info_parts Try.infoInt; refine wpList_append_own_at _ rfl _ _ 38 rfl V1.heap.size 3 i0 (.int .i64 0) 1 8 Try.underlying38 hi hz0 hz1 hz2 rfl (by decide) _ _ _ rfl (HOW.out.alloc _) ⟨wr.heap.size, 0, none⟩ 1 1 [.int .i64 Y] rfl rfl (cell_one_new _ _ _) (one_oneCell rfl) (by unfold maxLen; omega) (by omega) (by simp; omega) ?_; intro v' w3 hown' hgrow _ _; have HOW3 := Lib.hid hown'; have HB3 := Lib.hid (below_append HBX.out rfl HOW.out hgrow); clear hown' hgrow hi hz0 hz1 hz2)
                          go_roundw
                          case rel => exact ⟨a + 1, by omega, by go_num, by rw [HOR.out], by rw [i64L_succ, ← HV.out]; exact HOW3.out, HB3.out⟩
                          case measure => simp [intOf]; omega
                    · rw [hgo] at HGO hsa hga
                      have HS0 := Lib.hid (show S a = 0 from hsa)
                      have HGa := Lib.hid (show G (a + 1) = G a from hga)
                      clear hsa hga hgo
                      go_wp2_with (first
                        | (go_at_call 71; refine (HGO.out).mono ?_; rintro e w' ⟨rfl, rfl⟩)
                        | (at_builtin; obtain ⟨i0, hi, hz0, hz1, hz2⟩ := info_parts Try.infoInt; refine wpList_append_own_at _ rfl _ _ 38 rfl V1.heap.size 3 i0 (.int .i64 0) 1 8 Try.underlying38 hi hz0 hz1 hz2 rfl (by decide) _ _ _ rfl (HOW.out.alloc _) ⟨wr.heap.size, 0, none⟩ 1 1 [.int .i64 0] rfl rfl (cell_one_new _ _ _) (one_oneCell rfl) (by unfold maxLen; omega) (by omega) (by simp; omega) ?_; intro v' w3 hown' hgrow _ _; have HOW3 := Lib.hid hown'; have HB3 := Lib.hid (below_append HBX.out rfl HOW.out hgrow); clear hown' hgrow hi hz0 hz1 hz2))
                      go_roundw
                      case rel => exact ⟨a + 1, by omega, by go_num, by rw [HGa.out], by rw [i64L_succ, HS0.out]; exact HOW3.out, HB3.out⟩
                      case measure => simp [intOf]; omega
                  · obtain rfl : a = i := by omega
                    have hfi := HFI.out.keep hbx
                    have HKE := Lib.hid (HKQ.out.below hbx)
                    have hrow := own_mono hown HFI.out.below.size
                    have HRow := Lib.hid hrow
                    obtain ⟨gl, cl, rfl⟩ := own_pos hown (by omega)
                    have HFI := Lib.hid hfi
                    have q0 := hfi.hr.cell (k := 0) rfl
                    have hsz := hfi.below.size
                    have HOL := Lib.hid hfi.oL
                    clear hown hbx hfi hrow
                    obtain ⟨AL, cL, rfl, -⟩ := own_form HOL.out
                    go_upto_region 50 with (at_builtin; obtain ⟨i0, hi, hz0, hz1, hz2⟩ := info_parts Try.infoInts; refine wpList_append_lies _ rfl _ _ 27 rfl w.heap.size 38 i0 (.slice none 0 0) 1 24 Try.underlying27 hi hz0 hz1 hz2 rfl (by decide) _ _ _ rfl (HOL.out.alloc _) ⟨wr.heap.size, 0, none⟩ 1 1 [.slice (some ⟨gl, 0, none⟩) a cl] rfl rfl (cell_one_new _ _ _) (one_oneCell rfl) (by omega) (by unfold maxLen; omega) (by omega) (by simp; omega) (wr.heap.size + 1) (by simp) ?_; intro gg capL w5 hown5 hgrow5 _ _; have q1 := ((HFI.out.hr.alloc _).kept hgrow5 (HFI.out.hr.ne_row HFI.out.oL (by decide))).cell (k := 0) rfl; have f1 := ((HFI.out.hr.alloc _).kept hgrow5 (HFI.out.hr.ne_row HFI.out.oL (by decide))).frozen (k := 0); have HOW5 := Lib.hid hown5; have HG5 := Lib.hid hgrow5; clear hi hz0 hz1 hz2 hown5 hgrow5)
                    have hrow : wr.ownsRow w.heap.size 3 1 (.slice (some ⟨gl, 0, none⟩) a cl) a (i64L (fun j => (stN rd tv a X t j : Int)) a) := by
                      have := HRow.out
                      rw [HSG.out.1] at this
                      exact this
                    obtain ⟨h6, k6⟩ := HFI.out.local hrow HOW5.out HG5.out
                    have HKE := Lib.hid (HKE.out.keeps k6)
                    generalize w5.setCell ⟨br, 0, none⟩ (.slice (some ⟨gg, 0, none⟩) (t + 1) capL) = V6 at h6 k6 HKE ⊢
                    have hg6 := h6.below.size
                    have q3 := h6.hr.cell (k := 1) rfl
                    have HOF := Lib.hid h6.oF
                    obtain ⟨AF, cF, rfl, -⟩ := own_form HOF.out
                    have HR6 := Lib.hid h6
                    clear h6 k6 hrow HFI HRow HOW5 HG5 q0 q1 f1 HOL hsz HKQ
                    go_wp2_with (at_builtin; obtain ⟨i0, hi, hz0, hz1, hz2⟩ := info_parts Try.infoU64; refine wpList_append_lies _ rfl _ _ 28 rfl w.heap.size 64 i0 (.int .u64 0) 1 8 Try.underlying28 hi hz0 hz1 hz2 rfl (by decide) _ _ _ rfl (HOF.out.alloc _) ⟨V6.heap.size, 0, none⟩ 1 1 [.int .u64 (G a : Nat)] rfl rfl (cell_one_new _ _ _) (one_oneCell rfl) (by omega) (by unfold maxLen; omega) (by omega) (by simp; omega) (V6.heap.size + 1) (by simp) ?_; intro gf capF w7 hown7 hgrow7 _ _; have q4 := ((HR6.out.hr.alloc _).kept hgrow7 (HR6.out.hr.ne_row HR6.out.oF (by decide))).cell (k := 1) rfl; have f4 := ((HR6.out.hr.alloc _).kept hgrow7 (HR6.out.hr.ne_row HR6.out.oF (by decide))).frozen (k := 1); have HOW7 := Lib.hid hown7; have HG7 := Lib.hid hgrow7; clear hi hz0 hz1 hz2 hown7 hgrow7)
                    go_roundw
                    case rel =>
                      have h7 := HOW7.out
                      rw [HSG.out.2] at h7
                      obtain ⟨h8, k8⟩ := HR6.out.facts h7 HG7.out
                      exact ⟨t + 1, by omega, by go_num, q, cap, _, _, _, rfl, hgq, HKE.out.keeps k8, h8⟩
                    case measure => simp [intOf]; omega
            · obtain rfl : t = r + 1 := by omega
              obtain ⟨gl, cl, rfl⟩ := own_succ HFI.out.oL
              obtain ⟨gf, cf, rfl⟩ := own_succ HFI.out.oF
              have hlt' : ¬ (((r + 1 : Nat) : Int) < (r : Int) + 1) := by omega
              have r0 := HFI.out.hr.cell (k := 0) rfl
              have r1 := HFI.out.hr.cell (k := 1) rfl
              have s0 := HFI.out.h8.cell (k := 0) rfl
              have s1 := HFI.out.h8.cell (k := 1) rfl
              have f0 := HFI.out.h8.frozen (k := 0)
              have hw1 := HFI.out.h8.set 0 (.slice (some ⟨gl, 0, none⟩) (r + 1) cl)
              have g0 := hw1.cell (k := 1) rfl
              have g1 := hw1.frozen (k := 1)
              have hw2 := hw1.set 1 (.slice (some ⟨gf, 0, none⟩) (r + 1) cf)
              have q0 := hw2.cell (k := 0) rfl
              have q1 := hw2.cell (k := 1) rfl
              clear hw1 hw2 HX HXR HKN
              go_wp2_with fail
              obtain ⟨h1, h3⟩ := HFI.out.done (.slice (some ⟨gl, 0, none⟩) (r + 1) cl) (.slice (some ⟨gf, 0, none⟩) (r + 1) cf)
              exact bodyPost_ret (v := .agg #[.slice (some ⟨gl, 0, none⟩) (r + 1) cl, .slice (some ⟨gf, 0, none⟩) (r + 1) cf]) (by simp [results, Try.results44, go_sem, q0, q1]) rfl ⟨_, rfl, h1, h3⟩
end Go.Proofs.Ytgnkeecjaffnaaa
