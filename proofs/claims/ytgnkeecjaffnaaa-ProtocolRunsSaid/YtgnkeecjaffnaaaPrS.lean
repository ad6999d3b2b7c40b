/-
  Walks of layer 54: Run of both. (Written by gen_prs.py.)
-/
import Derived.Test.YtgnkeecjaffnaaaProg
import Derived.Test.YtgnkeecjaffnaaaBase
import Derived.Test.YtgnkeecjaffnaaaRow
import Derived.Test.YtgnkeecjaffnaaaRowsOf
import Derived.Test.YtgnkeecjaffnaaaPc
import Derived.Test.YtgnkeecjaffnaaaPd
import Derived.Test.YtgnkeecjaffnaaaPrP
import Derived.Test.YtgnkeecjaffnaaaPrB
import Derived.Test.YtgnkeecjaffnaaaPrC
import Derived.Test.YtgnkeecjaffnaaaPrE
import Derived.Test.YtgnkeecjaffnaaaPrF
import Derived.Test.YtgnkeecjaffnaaaPrI
import Derived.Test.YtgnkeecjaffnaaaPrN
import Derived.Test.YtgnkeecjaffnaaaPrQ
import Derived.Test.YtgnkeecjaffnaaaPrR
import Derived.Test.YtgnkeecjaffnaaaPfC
namespace Go.Proofs.Ytgnkeecjaffnaaa
open Go.RowKit

def ruE (R : Int) (n : Nat) (fa fh fm : Nat → Int) (bit : Int) (m : Nat) (lost : Nat → Int) : Nat :=
  if exErr R n fa fh fm = 0 then (if 0 ≤ bit ∧ bit ≤ 1 then (if (m : Int) = R then (if allB m (fun k => decide (0 ≤ lost k ∧ lost k ≤ 3)) then 0 else 2) else 3) else 2) else exErr R n fa fh fm
def ruD (R : Int) (n : Nat) (fa fh fm : Nat → Int) (bit : Int) (m : Nat) (lost : Nat → Int) : RunD :=
  if ruE R n fa fh fm bit m lost = 0 then ⟨m + 1, fun _ => 2, runL (sndV n fa fh fm) bit lost, m + 1, fun _ => bit.toNat⟩ else RunD.none
set_option maxHeartbeats 4000000 in
set_option maxRecDepth 100000 in
theorem Run_any (R bit : Int) (A : Option Addr) (n c : Nat) (fa fh fm : Nat → Int) (B : Option Addr) (m d : Nat) (lost : Nat → Int) (w : World) (hx : RuleS w A n fa fh fm) (hn : n ≤ 9223372036854775807) (hl : I64s w B m lost) (hm : m ≤ 9223372036854775807) :
    Calls Try.prog 30 #[.agg #[.int .i64 R, .slice A n c], .int .i64 bit, .slice B m d] w (RuPost w (ruD R n fa fh fm bit m lost) (ruE R n fa fh fm bit m lost)) := by
  have HX := Lib.hid hx
  have HLS := Lib.hid hl
  have HCH := Lib.hid (fun W (hW : RuleS W A n fa fh fm) => Check_any R A n c fa fh fm W hW hn)
  obtain ⟨W, hW⟩ : ∃ W, W = (w.alloc (.cells #[.int .i64 R, .slice A n c] 41)).alloc (.cells #[.slice none 0 0, .slice none 0 0] 30) := ⟨_, rfl⟩
  obtain ⟨hC0, h8, hB⟩ := two_boxes4 w _ _ _ _ W hW
  have HKE := Lib.hid hC0
  have HK := Lib.hid h8
  have HB := Lib.hid hB
  have HW := Lib.hid hW
  have z0 : W.cell? ⟨w.heap.size, 0, none⟩ = some (.int .i64 R) := hC0.cell rfl
  have z1 : W.cell? ⟨w.heap.size, 1, none⟩ = some (.slice A n c) := hC0.cell rfl
  clear hC0 h8 hB hW
  by_cases hE0 : exErr R n fa fh fm = 0
  case neg =>
    have hE : ruE R n fa fh fm bit m lost = exErr R n fa fh fm := if_neg hE0
    have HE := Lib.hid hE
    have HD := Lib.hid (show ruD R n fa fh fm bit m lost = RunD.none from if_neg (by rw [hE]; exact hE0))
    obtain ⟨E, eE⟩ : ∃ E, E = exErr R n fa fh fm := ⟨_, rfl⟩
    rw [← eE] at HCH HE hE0
    have t1 : ((E : Int) != 0) = true := by rw [bne_iff_ne]; omega
    clear hE eE hx hl hE0
    go_enter Try.func30, Try.ntmps30
    go_upto_region 1 with (fail)
    rw [← HW.out]
    clear HW
    go_upto_region 3 with (go_at_call 32; refine (HCH.out _ (HX.out.below HB.out)).mono ?_; rintro e w1 ⟨rfl, hb1⟩; have HB1 := Lib.hid (HB.out.trans (hb1.mono HB.out.size)); have HK := Lib.hid (HK.out.below hb1); have HKE := Lib.hid (HKE.out.below hb1); clear hb1)
    obtain ⟨⟨c0, f0, c1, f1⟩, hk2⟩ := HK.out.put2 (.slice none 0 0) (.slice none 0 0)
    have q0 := hk2.cell (k := 0) rfl
    have q1 := hk2.cell (k := 1) rfl
    clear hk2
    go_wp2_with fail
    exact bodyPost_ret (v := .tuple #[.agg #[.slice none 0 0, .slice none 0 0], .int .i64 E]) (by simp [results, Try.results30, go_sem, q0, q1]) rfl (show RuPost w (ruD R n fa fh fm bit m lost) (ruE R n fa fh fm bit m lost) _ _ from by rw [HD.out, HE.out]; exact ⟨_, rfl, RunD.none_owned _ _, below_put2 HB1.out (by omega) _ _⟩)
  obtain ⟨hR0, hR4⟩ := exErr_R hE0
  have hEr : ruE R n fa fh fm bit m lost = if 0 ≤ bit ∧ bit ≤ 1 then (if (m : Int) = R then (if allB m (fun k => decide (0 ≤ lost k ∧ lost k ≤ 3)) then 0 else 2) else 3) else 2 := if_pos hE0
  have hsr := snd_range hE0
  rw [hE0] at HCH
  by_cases hb0 : bit < 0
  · have t2 : decide (bit < 0) = true := decide_eq_true hb0
    have hE : ruE R n fa fh fm bit m lost = 2 := by rw [hEr, if_neg (by omega)]
    have HE := Lib.hid hE
    have HD := Lib.hid (show ruD R n fa fh fm bit m lost = RunD.none from if_neg (by rw [hE]; decide))
    clear hE hEr hx hl hE0 hb0 hsr
    go_enter Try.func30, Try.ntmps30
    go_upto_region 1 with (fail)
    rw [← HW.out]
    clear HW
    go_upto_region 4 with (go_at_call 32; refine (HCH.out _ (HX.out.below HB.out)).mono ?_; rintro e w1 ⟨rfl, hb1⟩; have HB1 := Lib.hid (HB.out.trans (hb1.mono HB.out.size)); have HK := Lib.hid (HK.out.below hb1); have HKE := Lib.hid (HKE.out.below hb1); clear hb1)
    obtain ⟨⟨c0, f0, c1, f1⟩, hk2⟩ := HK.out.put2 (.slice none 0 0) (.slice none 0 0)
    have q0 := hk2.cell (k := 0) rfl
    have q1 := hk2.cell (k := 1) rfl
    clear hk2
    go_wp2_with fail
    exact bodyPost_ret (v := .tuple #[.agg #[.slice none 0 0, .slice none 0 0], .int .i64 2]) (by simp [results, Try.results30, go_sem, q0, q1]) rfl (show RuPost w (ruD R n fa fh fm bit m lost) (ruE R n fa fh fm bit m lost) _ _ from by rw [HD.out, HE.out]; exact ⟨_, rfl, RunD.none_owned _ _, below_put2 HB1.out (by omega) _ _⟩)
  have t2 : decide (bit < 0) = false := decide_eq_false hb0
  by_cases hb1 : 1 < bit
  · have t3 : decide (1 < bit) = true := decide_eq_true hb1
    have hE : ruE R n fa fh fm bit m lost = 2 := by rw [hEr, if_neg (by omega)]
    have HE := Lib.hid hE
    have HD := Lib.hid (show ruD R n fa fh fm bit m lost = RunD.none from if_neg (by rw [hE]; decide))
    clear hE hEr hx hl hE0 hb0 hb1 hsr
    go_enter Try.func30, Try.ntmps30
    go_upto_region 1 with (fail)
    rw [← HW.out]
    clear HW
    go_upto_region 4 with (go_at_call 32; refine (HCH.out _ (HX.out.below HB.out)).mono ?_; rintro e w1 ⟨rfl, hb1⟩; have HB1 := Lib.hid (HB.out.trans (hb1.mono HB.out.size)); have HK := Lib.hid (HK.out.below hb1); have HKE := Lib.hid (HKE.out.below hb1); clear hb1)
    obtain ⟨⟨c0, f0, c1, f1⟩, hk2⟩ := HK.out.put2 (.slice none 0 0) (.slice none 0 0)
    have q0 := hk2.cell (k := 0) rfl
    have q1 := hk2.cell (k := 1) rfl
    clear hk2
    go_wp2_with fail
    exact bodyPost_ret (v := .tuple #[.agg #[.slice none 0 0, .slice none 0 0], .int .i64 2]) (by simp [results, Try.results30, go_sem, q0, q1]) rfl (show RuPost w (ruD R n fa fh fm bit m lost) (ruE R n fa fh fm bit m lost) _ _ from by rw [HD.out, HE.out]; exact ⟨_, rfl, RunD.none_owned _ _, below_put2 HB1.out (by omega) _ _⟩)
  have t3 : decide (1 < bit) = false := decide_eq_false hb1
  rw [if_pos (by omega)] at hEr
  by_cases hmR : (m : Int) = R
  case neg =>
    have t4 : ((m : Int) != R) = true := by rw [bne_iff_ne]; exact hmR
    have hE : ruE R n fa fh fm bit m lost = 3 := by rw [hEr, if_neg hmR]
    have HE := Lib.hid hE
    have HD := Lib.hid (show ruD R n fa fh fm bit m lost = RunD.none from if_neg (by rw [hE]; decide))
    clear hE hEr hx hl hE0 hb0 hb1 hsr hmR
    go_enter Try.func30, Try.ntmps30
    go_upto_region 1 with (fail)
    rw [← HW.out]
    clear HW
    go_upto_region 4 with (go_at_call 32; refine (HCH.out _ (HX.out.below HB.out)).mono ?_; rintro e w1 ⟨rfl, hb1⟩; have HB1 := Lib.hid (HB.out.trans (hb1.mono HB.out.size)); have HK := Lib.hid (HK.out.below hb1); have HKE := Lib.hid (HKE.out.below hb1); clear hb1)
    have z0 : w1.cell? ⟨w.heap.size, 0, none⟩ = some (.int .i64 R) := HKE.out.cell rfl
    obtain ⟨⟨c0, f0, c1, f1⟩, hk2⟩ := HK.out.put2 (.slice none 0 0) (.slice none 0 0)
    have q0 := hk2.cell (k := 0) rfl
    have q1 := hk2.cell (k := 1) rfl
    clear hk2
    go_wp2_with fail
    exact bodyPost_ret (v := .tuple #[.agg #[.slice none 0 0, .slice none 0 0], .int .i64 3]) (by simp [results, Try.results30, go_sem, q0, q1]) rfl (show RuPost w (ruD R n fa fh fm bit m lost) (ruE R n fa fh fm bit m lost) _ _ from by rw [HD.out, HE.out]; exact ⟨_, rfl, RunD.none_owned _ _, below_put2 HB1.out (by omega) _ _⟩)
  subst hmR
  have t4 : ((m : Int) != (m : Int)) = false := by simp
  rw [if_pos rfl] at hEr
  have hbb : 0 ≤ bit ∧ bit ≤ 1 := by omega
  have hm4 : m ≤ 4 := by omega
  have HEr := Lib.hid hEr
  have HSR := Lib.hid hsr
  clear hEr hx hl hE0 hb0 hb1 hsr
  go_enter Try.func30, Try.ntmps30
  go_upto_region 1 with (fail)
  rw [← HW.out]
  clear HW
  go_upto_region 4 with (go_at_call 32; refine (HCH.out _ (HX.out.below HB.out)).mono ?_; rintro e w1 ⟨rfl, hb1⟩; have HB1 := Lib.hid (HB.out.trans (hb1.mono HB.out.size)); have HK := Lib.hid (HK.out.below hb1); have HKE := Lib.hid (HKE.out.below hb1); clear hb1)
  have z0 : w1.cell? ⟨w.heap.size, 0, none⟩ = some (.int .i64 m) := HKE.out.cell rfl
  have HX1 := Lib.hid (HX.out.below HB1.out)
  have HL1 := Lib.hid (HLS.out.below HB1.out)
  go_wp2_with fail
  clear z0 z1
  go_loop [34] (fun iv => ∃ i : Nat, i ≤ m ∧ iv = .int .i64 i ∧ Hid (∀ k, k < i → 0 ≤ lost k ∧ lost k ≤ 3)) (fun iv => m - (intOf iv).toNat)
  case atStart => exact ⟨0, Nat.zero_le _, rfl, Lib.hid fun k hk => absurd hk (Nat.not_lt_zero _)⟩
  case round =>
    obtain ⟨i, hi, rfl, HP⟩ := hrel
    by_cases hlt : i < m
    · obtain ⟨b, off, rfl, cx, -⟩ := HL1.out i hlt
      obtain ⟨x, ex⟩ : ∃ x, x = lost i := ⟨_, rfl⟩
      rw [← ex] at cx
      have hbad : ¬ (0 ≤ x ∧ x ≤ 3) → ruE m n fa fh fm bit m lost = 2 := fun h => by
        rw [HEr.out, if_neg]
        intro h2
        have := allB_iff.1 h2 i hlt
        rw [decide_eq_true_eq, ← ex] at this
        exact h this
      by_cases hx0 : x < 0
      · have u1 : decide (x < 0) = true := decide_eq_true hx0
        have hE := hbad (by omega)
        have HE := Lib.hid hE
        have HD := Lib.hid (show ruD m n fa fh fm bit m lost = RunD.none from if_neg (by rw [hE]; decide))
        clear hE hbad ex hx0
        obtain ⟨⟨c0, f0, c1, f1⟩, hk2⟩ := HK.out.put2 (.slice none 0 0) (.slice none 0 0)
        have q0 := hk2.cell (k := 0) rfl
        have q1 := hk2.cell (k := 1) rfl
        clear hk2
        go_wp2_with fail
        exact bodyPost_ret (v := .tuple #[.agg #[.slice none 0 0, .slice none 0 0], .int .i64 2]) (by simp [results, Try.results30, go_sem, q0, q1]) rfl (show RuPost w (ruD m n fa fh fm bit m lost) (ruE m n fa fh fm bit m lost) _ _ from by rw [HD.out, HE.out]; exact ⟨_, rfl, RunD.none_owned _ _, below_put2 HB1.out (by omega) _ _⟩)
      have u1 : decide (x < 0) = false := decide_eq_false hx0
      by_cases hx3 : 3 < x
      · have u2 : decide (3 < x) = true := decide_eq_true hx3
        have hE := hbad (by omega)
        have HE := Lib.hid hE
        have HD := Lib.hid (show ruD m n fa fh fm bit m lost = RunD.none from if_neg (by rw [hE]; decide))
        clear hE hbad ex hx0 hx3
        obtain ⟨⟨c0, f0, c1, f1⟩, hk2⟩ := HK.out.put2 (.slice none 0 0) (.slice none 0 0)
        have q0 := hk2.cell (k := 0) rfl
        have q1 := hk2.cell (k := 1) rfl
        clear hk2
        go_wp2_with fail
        exact bodyPost_ret (v := .tuple #[.agg #[.slice none 0 0, .slice none 0 0], .int .i64 2]) (by simp [results, Try.results30, go_sem, q0, q1]) rfl (show RuPost w (ruD m n fa fh fm bit m lost) (ruE m n fa fh fm bit m lost) _ _ from by rw [HD.out, HE.out]; exact ⟨_, rfl, RunD.none_owned _ _, below_put2 HB1.out (by omega) _ _⟩)
      have u2 : decide (3 < x) = false := decide_eq_false hx3
      have HP2 : Hid (∀ k, k < i + 1 → 0 ≤ lost k ∧ lost k ≤ 3) := Lib.hid fun k hk => by
        rcases Nat.lt_succ_iff_lt_or_eq.1 hk with h | rfl
        · exact HP.out k h
        · rw [← ex]; omega
      clear hbad ex hx0 hx3
      go_wp2_with fail
      go_round
      case rel => exact ⟨i + 1, by omega, by go_num, HP2⟩
      case measure => simp [intOf]; omega
    · have him : m = i := by omega
      subst him
      have hE : ruE m n fa fh fm bit m lost = 0 := by
        rw [HEr.out, if_pos]
        exact allB_iff.2 fun k hk => decide_eq_true (HP.out k hk)
      have HE := Lib.hid hE
      have HD := Lib.hid (show ruD m n fa fh fm bit m lost = ⟨m + 1, fun _ => 2, runL (sndV n fa fh fm) bit lost, m + 1, fun _ => bit.toNat⟩ from if_pos hE)
      clear hE
      have z0 : w1.cell? ⟨w.heap.size, 0, none⟩ = some (.int .i64 m) := HKE.out.cell rfl
      have z1 : w1.cell? ⟨w.heap.size, 1, none⟩ = some (.slice A n c) := HKE.out.cell rfl
      go_upto_region 15 with (go_at_call 50; refine (run_any m bit A n c fa fh fm B m d lost _ HX1.out hn HL1.out (by omega) HP.out hbb).mono ?_; rintro e w2 ⟨v, AS, cS, rfl, hrun, -, hb2⟩; obtain ⟨AL, cL, AF, cF, rfl⟩ := hrun.shape; have HRU := Lib.hid hrun; have HB2 := Lib.hid hb2; clear hrun hb2)
      have hba := below_alloc w2 (.cells #[.slice AL (m + 1) cL, .slice AF (m + 1) cF] 30)
      have hbk := Blk.new w2 #[.slice AL (m + 1) cL, .slice AF (m + 1) cF] 30
      have HB3 := Lib.hid ((HB1.out.trans (HB2.out.mono HB1.out.size)).trans (hba.mono (HB1.out.trans (HB2.out.mono HB1.out.size)).size))
      have HK3 := Lib.hid ((HK.out.below HB2.out).below hba)
      have HRU3 := Lib.hid (RunO.mono (RunO.below HRU.out hba) HB1.out.size)
      generalize w2.alloc (.cells #[.slice AL (m + 1) cL, .slice AF (m + 1) cF] 30) = X at hba hbk HB3 HK3 HRU3 ⊢
      generalize w2.heap.size = bx at hbk ⊢
      have d0 : X.cell? ⟨bx, 0, none⟩ = some (.slice AL (m + 1) cL) := hbk.cell rfl
      have d1 : X.cell? ⟨bx, 1, none⟩ = some (.slice AF (m + 1) cF) := hbk.cell rfl
      obtain ⟨⟨c0, f0, c1, f1⟩, hk2⟩ := HK3.out.put2 (.slice AL (m + 1) cL) (.slice AF (m + 1) cF)
      have q0 := hk2.cell (k := 0) rfl
      have q1 := hk2.cell (k := 1) rfl
      have HRU4 := Lib.hid (RunO.put2 HRU3.out HK3.out (.slice AL (m + 1) cL) (.slice AF (m + 1) cF))
      clear hk2 hba hbk z0 z1
      go_wp2_with fail
      exact bodyPost_ret (v := .tuple #[.agg #[.slice AL (m + 1) cL, .slice AF (m + 1) cF], .int .i64 0]) (by simp [results, Try.results30, go_sem, q0, q1]) rfl (show RuPost w (ruD m n fa fh fm bit m lost) (ruE m n fa fh fm bit m lost) _ _ from by rw [HD.out, HE.out]; exact ⟨_, rfl, HRU4.out, below_put2 HB3.out (by omega) _ _⟩)
set_option maxHeartbeats 4000000 in
set_option maxRecDepth 100000 in
theorem rRun_any (R bit : Int) (A : Option Addr) (n c : Nat) (fa fh fm : Nat → Int) (B : Option Addr) (m d : Nat) (lost : Nat → Int) (w : World) (hx : RuleS w A n fa fh fm) (hn : n ≤ 9223372036854775807) (hl : I64s w B m lost) (hm : m ≤ 9223372036854775807) :
    Calls Try.prog 31 #[.agg #[.int .i64 R, .slice A n c], .int .i64 bit, .slice B m d] w (RuPost w (ruD R n fa fh fm bit m lost) (ruE R n fa fh fm bit m lost)) := by
  have HX := Lib.hid hx
  have HLS := Lib.hid hl
  have HCH := Lib.hid (fun W (hW : RuleS W A n fa fh fm) => rCheck_any R A n c fa fh fm W hW hn)
  obtain ⟨W, hW⟩ : ∃ W, W = (w.alloc (.cells #[.int .i64 R, .slice A n c] 41)).alloc (.cells #[.slice none 0 0, .slice none 0 0] 30) := ⟨_, rfl⟩
  obtain ⟨hC0, h8, hB⟩ := two_boxes4 w _ _ _ _ W hW
  have HKE := Lib.hid hC0
  have HK := Lib.hid h8
  have HB := Lib.hid hB
  have HW := Lib.hid hW
  have z0 : W.cell? ⟨w.heap.size, 0, none⟩ = some (.int .i64 R) := hC0.cell rfl
  have z1 : W.cell? ⟨w.heap.size, 1, none⟩ = some (.slice A n c) := hC0.cell rfl
  clear hC0 h8 hB hW
  by_cases hE0 : exErr R n fa fh fm = 0
  case neg =>
    have hE : ruE R n fa fh fm bit m lost = exErr R n fa fh fm := if_neg hE0
    have HE := Lib.hid hE
    have HD := Lib.hid (show ruD R n fa fh fm bit m lost = RunD.none from if_neg (by rw [hE]; exact hE0))
    obtain ⟨E, eE⟩ : ∃ E, E = exErr R n fa fh fm := ⟨_, rfl⟩
    rw [← eE] at HCH HE hE0
    have t1 : ((E : Int) != 0) = true := by rw [bne_iff_ne]; omega
    clear hE eE hx hl hE0
    go_enter Try.func31, Try.ntmps31
    go_upto_region 1 with (fail)
    rw [← HW.out]
    clear HW
    go_upto_region 3 with (go_at_call 33; refine (HCH.out _ (HX.out.below HB.out)).mono ?_; rintro e w1 ⟨rfl, hb1⟩; have HB1 := Lib.hid (HB.out.trans (hb1.mono HB.out.size)); have HK := Lib.hid (HK.out.below hb1); have HKE := Lib.hid (HKE.out.below hb1); clear hb1)
    obtain ⟨⟨c0, f0, c1, f1⟩, hk2⟩ := HK.out.put2 (.slice none 0 0) (.slice none 0 0)
    have q0 := hk2.cell (k := 0) rfl
    have q1 := hk2.cell (k := 1) rfl
    clear hk2
    go_wp2_with fail
    exact bodyPost_ret (v := .tuple #[.agg #[.slice none 0 0, .slice none 0 0], .int .i64 E]) (by simp [results, Try.results31, go_sem, q0, q1]) rfl (show RuPost w (ruD R n fa fh fm bit m lost) (ruE R n fa fh fm bit m lost) _ _ from by rw [HD.out, HE.out]; exact ⟨_, rfl, RunD.none_owned _ _, below_put2 HB1.out (by omega) _ _⟩)
  obtain ⟨hR0, hR4⟩ := exErr_R hE0
  have hEr : ruE R n fa fh fm bit m lost = if 0 ≤ bit ∧ bit ≤ 1 then (if (m : Int) = R then (if allB m (fun k => decide (0 ≤ lost k ∧ lost k ≤ 3)) then 0 else 2) else 3) else 2 := if_pos hE0
  have hsr := snd_range hE0
  rw [hE0] at HCH
  by_cases hb0 : bit < 0
  · have t2 : decide (bit < 0) = true := decide_eq_true hb0
    have hE : ruE R n fa fh fm bit m lost = 2 := by rw [hEr, if_neg (by omega)]
    have HE := Lib.hid hE
    have HD := Lib.hid (show ruD R n fa fh fm bit m lost = RunD.none from if_neg (by rw [hE]; decide))
    clear hE hEr hx hl hE0 hb0 hsr
    go_enter Try.func31, Try.ntmps31
    go_upto_region 1 with (fail)
    rw [← HW.out]
    clear HW
    go_upto_region 4 with (go_at_call 33; refine (HCH.out _ (HX.out.below HB.out)).mono ?_; rintro e w1 ⟨rfl, hb1⟩; have HB1 := Lib.hid (HB.out.trans (hb1.mono HB.out.size)); have HK := Lib.hid (HK.out.below hb1); have HKE := Lib.hid (HKE.out.below hb1); clear hb1)
    obtain ⟨⟨c0, f0, c1, f1⟩, hk2⟩ := HK.out.put2 (.slice none 0 0) (.slice none 0 0)
    have q0 := hk2.cell (k := 0) rfl
    have q1 := hk2.cell (k := 1) rfl
    clear hk2
    go_wp2_with fail
    exact bodyPost_ret (v := .tuple #[.agg #[.slice none 0 0, .slice none 0 0], .int .i64 2]) (by simp [results, Try.results31, go_sem, q0, q1]) rfl (show RuPost w (ruD R n fa fh fm bit m lost) (ruE R n fa fh fm bit m lost) _ _ from by rw [HD.out, HE.out]; exact ⟨_, rfl, RunD.none_owned _ _, below_put2 HB1.out (by omega) _ _⟩)
  have t2 : decide (bit < 0) = false := decide_eq_false hb0
  by_cases hb1 : 1 < bit
  · have t3 : decide (1 < bit) = true := decide_eq_true hb1
    have hE : ruE R n fa fh fm bit m lost = 2 := by rw [hEr, if_neg (by omega)]
    have HE := Lib.hid hE
    have HD := Lib.hid (show ruD R n fa fh fm bit m lost = RunD.none from if_neg (by rw [hE]; decide))
    clear hE hEr hx hl hE0 hb0 hb1 hsr
    go_enter Try.func31, Try.ntmps31
    go_upto_region 1 with (fail)
    rw [← HW.out]
    clear HW
    go_upto_region 4 with (go_at_call 33; refine (HCH.out _ (HX.out.below HB.out)).mono ?_; rintro e w1 ⟨rfl, hb1⟩; have HB1 := Lib.hid (HB.out.trans (hb1.mono HB.out.size)); have HK := Lib.hid (HK.out.below hb1); have HKE := Lib.hid (HKE.out.below hb1); clear hb1)
    obtain ⟨⟨c0, f0, c1, f1⟩, hk2⟩ := HK.out.put2 (.slice none 0 0) (.slice none 0 0)
    have q0 := hk2.cell (k := 0) rfl
    have q1 := hk2.cell (k := 1) rfl
    clear hk2
    go_wp2_with fail
    exact bodyPost_ret (v := .tuple #[.agg #[.slice none 0 0, .slice none 0 0], .int .i64 2]) (by simp [results, Try.results31, go_sem, q0, q1]) rfl (show RuPost w (ruD R n fa fh fm bit m lost) (ruE R n fa fh fm bit m lost) _ _ from by rw [HD.out, HE.out]; exact ⟨_, rfl, RunD.none_owned _ _, below_put2 HB1.out (by omega) _ _⟩)
  have t3 : decide (1 < bit) = false := decide_eq_false hb1
  rw [if_pos (by omega)] at hEr
  by_cases hmR : (m : Int) = R
  case neg =>
    have t4 : ((m : Int) != R) = true := by rw [bne_iff_ne]; exact hmR
    have hE : ruE R n fa fh fm bit m lost = 3 := by rw [hEr, if_neg hmR]
    have HE := Lib.hid hE
    have HD := Lib.hid (show ruD R n fa fh fm bit m lost = RunD.none from if_neg (by rw [hE]; decide))
    clear hE hEr hx hl hE0 hb0 hb1 hsr hmR
    go_enter Try.func31, Try.ntmps31
    go_upto_region 1 with (fail)
    rw [← HW.out]
    clear HW
    go_upto_region 4 with (go_at_call 33; refine (HCH.out _ (HX.out.below HB.out)).mono ?_; rintro e w1 ⟨rfl, hb1⟩; have HB1 := Lib.hid (HB.out.trans (hb1.mono HB.out.size)); have HK := Lib.hid (HK.out.below hb1); have HKE := Lib.hid (HKE.out.below hb1); clear hb1)
    have z0 : w1.cell? ⟨w.heap.size, 0, none⟩ = some (.int .i64 R) := HKE.out.cell rfl
    obtain ⟨⟨c0, f0, c1, f1⟩, hk2⟩ := HK.out.put2 (.slice none 0 0) (.slice none 0 0)
    have q0 := hk2.cell (k := 0) rfl
    have q1 := hk2.cell (k := 1) rfl
    clear hk2
    go_wp2_with fail
    exact bodyPost_ret (v := .tuple #[.agg #[.slice none 0 0, .slice none 0 0], .int .i64 3]) (by simp [results, Try.results31, go_sem, q0, q1]) rfl (show RuPost w (ruD R n fa fh fm bit m lost) (ruE R n fa fh fm bit m lost) _ _ from by rw [HD.out, HE.out]; exact ⟨_, rfl, RunD.none_owned _ _, below_put2 HB1.out (by omega) _ _⟩)
  subst hmR
  have t4 : ((m : Int) != (m : Int)) = false := by simp
  rw [if_pos rfl] at hEr
  have hbb : 0 ≤ bit ∧ bit ≤ 1 := by omega
  have hm4 : m ≤ 4 := by omega
  have HEr := Lib.hid hEr
  have HSR := Lib.hid hsr
  clear hEr hx hl hE0 hb0 hb1 hsr
  go_enter Try.func31, Try.ntmps31
  go_upto_region 1 with (fail)
  rw [← HW.out]
  clear HW
  go_upto_region 4 with (go_at_call 33; refine (HCH.out _ (HX.out.below HB.out)).mono ?_; rintro e w1 ⟨rfl, hb1⟩; have HB1 := Lib.hid (HB.out.trans (hb1.mono HB.out.size)); have HK := Lib.hid (HK.out.below hb1); have HKE := Lib.hid (HKE.out.below hb1); clear hb1)
  have z0 : w1.cell? ⟨w.heap.size, 0, none⟩ = some (.int .i64 m) := HKE.out.cell rfl
  have HX1 := Lib.hid (HX.out.below HB1.out)
  have HL1 := Lib.hid (HLS.out.below HB1.out)
  go_wp2_with fail
  clear z0 z1
  go_loop [9] (fun iv => ∃ i : Nat, i ≤ m ∧ iv = .int .i64 i ∧ Hid (∀ k, k < i → 0 ≤ lost k ∧ lost k ≤ 3)) (fun iv => m - (intOf iv).toNat)
  case atStart => exact ⟨0, Nat.zero_le _, rfl, Lib.hid fun k hk => absurd hk (Nat.not_lt_zero _)⟩
  case round =>
    obtain ⟨i, hi, rfl, HP⟩ := hrel
    by_cases hlt : i < m
    · obtain ⟨b, off, rfl, cx, -⟩ := HL1.out i hlt
      obtain ⟨x, ex⟩ : ∃ x, x = lost i := ⟨_, rfl⟩
      rw [← ex] at cx
      have hbad : ¬ (0 ≤ x ∧ x ≤ 3) → ruE m n fa fh fm bit m lost = 2 := fun h => by
        rw [HEr.out, if_neg]
        intro h2
        have := allB_iff.1 h2 i hlt
        rw [decide_eq_true_eq, ← ex] at this
        exact h this
      by_cases hx0 : x < 0
      · have u1 : decide (x < 0) = true := decide_eq_true hx0
        have hE := hbad (by omega)
        have HE := Lib.hid hE
        have HD := Lib.hid (show ruD m n fa fh fm bit m lost = RunD.none from if_neg (by rw [hE]; decide))
        clear hE hbad ex hx0
        obtain ⟨⟨c0, f0, c1, f1⟩, hk2⟩ := HK.out.put2 (.slice none 0 0) (.slice none 0 0)
        have q0 := hk2.cell (k := 0) rfl
        have q1 := hk2.cell (k := 1) rfl
        clear hk2
        go_wp2_with fail
        exact bodyPost_ret (v := .tuple #[.agg #[.slice none 0 0, .slice none 0 0], .int .i64 2]) (by simp [results, Try.results31, go_sem, q0, q1]) rfl (show RuPost w (ruD m n fa fh fm bit m lost) (ruE m n fa fh fm bit m lost) _ _ from by rw [HD.out, HE.out]; exact ⟨_, rfl, RunD.none_owned _ _, below_put2 HB1.out (by omega) _ _⟩)
      have u1 : decide (x < 0) = false := decide_eq_false hx0
      by_cases hx3 : 3 < x
      · have u2 : decide (3 < x) = true := decide_eq_true hx3
        have hE := hbad (by omega)
        have HE := Lib.hid hE
        have HD := Lib.hid (show ruD m n fa fh fm bit m lost = RunD.none from if_neg (by rw [hE]; decide))
        clear hE hbad ex hx0 hx3
        obtain ⟨⟨c0, f0, c1, f1⟩, hk2⟩ := HK.out.put2 (.slice none 0 0) (.slice none 0 0)
        have q0 := hk2.cell (k := 0) rfl
        have q1 := hk2.cell (k := 1) rfl
        clear hk2
        go_wp2_with fail
        exact bodyPost_ret (v := .tuple #[.agg #[.slice none 0 0, .slice none 0 0], .int .i64 2]) (by simp [results, Try.results31, go_sem, q0, q1]) rfl (show RuPost w (ruD m n fa fh fm bit m lost) (ruE m n fa fh fm bit m lost) _ _ from by rw [HD.out, HE.out]; exact ⟨_, rfl, RunD.none_owned _ _, below_put2 HB1.out (by omega) _ _⟩)
      have u2 : decide (3 < x) = false := decide_eq_false hx3
      have HP2 : Hid (∀ k, k < i + 1 → 0 ≤ lost k ∧ lost k ≤ 3) := Lib.hid fun k hk => by
        rcases Nat.lt_succ_iff_lt_or_eq.1 hk with h | rfl
        · exact HP.out k h
        · rw [← ex]; omega
      clear hbad ex hx0 hx3
      go_wp2_with fail
      go_round
      case rel => exact ⟨i + 1, by omega, by go_num, HP2⟩
      case measure => simp [intOf]; omega
    · have him : m = i := by omega
      subst him
      have hE : ruE m n fa fh fm bit m lost = 0 := by
        rw [HEr.out, if_pos]
        exact allB_iff.2 fun k hk => decide_eq_true (HP.out k hk)
      have HE := Lib.hid hE
      have HD := Lib.hid (show ruD m n fa fh fm bit m lost = ⟨m + 1, fun _ => 2, runL (sndV n fa fh fm) bit lost, m + 1, fun _ => bit.toNat⟩ from if_pos hE)
      clear hE
      have z0 : w1.cell? ⟨w.heap.size, 0, none⟩ = some (.int .i64 m) := HKE.out.cell rfl
      have z1 : w1.cell? ⟨w.heap.size, 1, none⟩ = some (.slice A n c) := HKE.out.cell rfl
      go_wp2_with (go_at_call 54; refine (rrun_any bit A n c fa fh fm B m d lost _ HX1.out hn HL1.out hm4 HP.out hbb HSR.out).mono ?_; rintro e w2 ⟨v, rfl, hrun, hb2⟩; obtain ⟨AL, cL, AF, cF, rfl⟩ := hrun.shape; obtain ⟨⟨c0, f0, c1, f1⟩, hk2⟩ := (HK.out.below hb2).put2 (.slice AL (m + 1) cL) (.slice AF (m + 1) cF); have q0 := hk2.cell (k := 0) rfl; have q1 := hk2.cell (k := 1) rfl; have HRU4 := Lib.hid (RunO.put2 (RunO.mono hrun HB1.out.size) (HK.out.below hb2) (.slice AL (m + 1) cL) (.slice AF (m + 1) cF)); have HB3 := Lib.hid (HB1.out.trans (hb2.mono HB1.out.size)); clear hk2 hrun hb2)
      exact bodyPost_ret (v := .tuple #[.agg #[.slice AL (m + 1) cL, .slice AF (m + 1) cF], .int .i64 0]) (by simp [results, Try.results31, go_sem, q0, q1]) rfl (show RuPost w (ruD m n fa fh fm bit m lost) (ruE m n fa fh fm bit m lost) _ _ from by rw [HD.out, HE.out]; exact ⟨_, rfl, HRU4.out, below_put2 HB3.out (by omega) _ _⟩)
end Go.Proofs.Ytgnkeecjaffnaaa
