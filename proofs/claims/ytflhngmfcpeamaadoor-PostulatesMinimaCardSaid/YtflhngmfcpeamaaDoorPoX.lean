/-
  Walks: package postulates: Update.
-/
import Derived.Test.YtflhngmfcpeamaaDoorProg
import Derived.Test.YtflhngmfcpeamaaDoorBase
import Derived.Test.YtflhngmfcpeamaaDoorRow
import Derived.Test.YtflhngmfcpeamaaDoorPoP
import Derived.Test.YtflhngmfcpeamaaDoorPoA
import Derived.Test.YtflhngmfcpeamaaDoorPoB
import Derived.Test.YtflhngmfcpeamaaDoorPoD
import Derived.Test.YtflhngmfcpeamaaDoorPoE
import Derived.Test.YtflhngmfcpeamaaDoorPoU
import Derived.Test.YtflhngmfcpeamaaDoorPoV
import Derived.Test.YtflhngmfcpeamaaDoorPoW
namespace Go.Proofs.YtflhngmfcpeamaaDoor
open Go.RowKit

theorem update1_any (k S m cc bn : Nat) (A : Option Addr) (w : World) (hk : k ≤ 3) (hS : S = 2 ^ 2 ^ k) (_hm : m ≤ 9223372036854775807) (hc : w.cell? ⟨bn, 0, none⟩ = some (.int .i64 k)) :
    Calls Tryd.prog 35 #[.slice A m cc, .pointer (some ⟨bn, 0, none⟩)] w fun e w' => e = .returned (.bool (m != S)) ∧ w = w' := by
  have HS := Lib.hid hS
  clear hS
  go_enter Tryd.func35, Tryd.ntmps35
  go_wp2_with (go_at_call 27; refine (sets_any k S _ hk HS.out).mono ?_; rintro e w' ⟨rfl, rfl⟩)
  go_ret
  exact ⟨by rw [← ne_nat]; rfl, rfl⟩
def idxM (S n : Nat) (m : Nat → Nat) : Int := if firstNo n (fun v => m v == S) < n then (firstNo n (fun v => m v == S) : Nat) else -1
theorem idxM_hit {S n v : Nat} {m : Nat → Nat} (hv : v < n) (h : ∀ i, i < v → m i = S) (hb : m v ≠ S) : idxM S n m = (v : Int) := by
  have e := firstNo_hit (p := fun v => m v == S) hv (fun i hi => beq_iff_eq.2 (h i hi)) (beq_eq_false_iff_ne.2 hb)
  unfold idxM; rw [e, if_pos hv]
theorem idxM_none {S n : Nat} {m : Nat → Nat} (h : ∀ i, i < n → m i = S) : idxM S n m = -1 := by
  have e := firstNo_all (p := fun v => m v == S) (n := n) (fun i hi => beq_iff_eq.2 (h i hi))
  unfold idxM; rw [e, if_neg (Nat.lt_irrefl _)]
theorem index2_any (A : Option Addr) (n c k S bn : Nat) (R : Nat → Option Addr) (m cc : Nat → Nat) (F : Nat → Nat → Nat) (w : World) (hT : Mat w A n R m cc F) (hn : n ≤ 9223372036854775807) (hk : k ≤ 3) (hS : S = 2 ^ 2 ^ k) (hc : w.cell? ⟨bn, 0, none⟩ = some (.int .i64 k)) :
    Calls Tryd.prog 44 #[.slice A n c, .func (.func 35) #[] #[.pointer (some ⟨bn, 0, none⟩)]] w fun e w' => e = .returned (.int .i64 (idxM S n m)) ∧ w = w' := by
  have HT := Lib.hid hT
  have HS := Lib.hid hS
  clear hT hS
  go_enter Tryd.func44, Tryd.ntmps44
  go_wp2
  go_loop [8] (fun i => ∃ v : Nat, v ≤ n ∧ i = .int .i64 v ∧ Hid (∀ i, i < v → m i = S)) (fun i => n - (intOf i).toNat)
  case atStart => exact ⟨0, Nat.zero_le _, rfl, Lib.hid fun i h => absurd h (Nat.not_lt_zero _)⟩
  case round =>
    obtain ⟨v, hv, rfl, HF⟩ := hrel
    by_cases hlt : v < n
    · obtain ⟨b, off, rfl, hcv, hr, -⟩ := HT.out v hlt
      by_cases hb : m v = S
      · have hd : (m v != S) = false := by rw [hb]; simp
        have HF2 : Hid (∀ i, i < v + 1 → m i = S) := Lib.hid fun i h => by
          rcases Nat.lt_succ_iff_lt_or_eq.1 h with h3 | rfl
          · exact HF.out i h3
          · exact hb
        clear hb
        go_wp2_with (go_at_call 35; refine (update1_any k S (m v) (cc v) bn _ _ hk HS.out hr hc).mono ?_; rintro e w' ⟨rfl, rfl⟩)
        go_round
        case rel => exact ⟨v + 1, by omega, by go_num, HF2⟩
        case measure => simp [intOf]; omega
      · have HI := Lib.hid (idxM_hit hlt HF.out hb)
        have hd : (m v != S) = true := bne_iff_ne.2 hb
        clear hb
        go_wp2_with (go_at_call 35; refine (update1_any k S (m v) (cc v) bn _ _ hk HS.out hr hc).mono ?_; rintro e w' ⟨rfl, rfl⟩)
        go_ret
        exact ⟨by rw [HI.out]; rfl, rfl⟩
    · obtain rfl : v = n := by omega
      have HI := Lib.hid (idxM_none HF.out)
      go_wp2
      go_ret
      exact ⟨by rw [HI.out]; rfl, rfl⟩
/-- All rows have S entries. -/
def fullB (S n : Nat) (m : Nat → Nat) : Bool := allB n (fun v => m v == S)
theorem contains2_any (A : Option Addr) (n c k S bn : Nat) (R : Nat → Option Addr) (m cc : Nat → Nat) (F : Nat → Nat → Nat) (w : World) (hT : Mat w A n R m cc F) (hn : n ≤ 9223372036854775807) (hk : k ≤ 3) (hS : S = 2 ^ 2 ^ k) (hc : w.cell? ⟨bn, 0, none⟩ = some (.int .i64 k)) :
    Calls Tryd.prog 34 #[.slice A n c, .func (.func 35) #[] #[.pointer (some ⟨bn, 0, none⟩)]] w fun e w' => e = .returned (.bool (!fullB S n m)) ∧ w = w' := by
  have HT := Lib.hid hT
  have HS := Lib.hid hS
  have HE : Hid (decide (0 ≤ idxM S n m) = !fullB S n m) := Lib.hid (by
    cases ha : fullB S n m
    · obtain ⟨u, hu, hf⟩ := not_allB ha
      obtain ⟨i1, i2, i3⟩ := firstNo_spec n (fun v => m v == S)
      have : firstNo n (fun v => m v == S) < n := by
        rcases Nat.lt_or_ge (firstNo n (fun v => m v == S)) n with h1 | h1
        · exact h1
        · have := i2 u (by omega); rw [hf] at this; cases this
      unfold idxM; rw [if_pos this]; simp
    · rw [idxM_none fun i hi => beq_iff_eq.1 (allB_iff.1 ha i hi)]; rfl)
  clear hT hS
  go_enter Tryd.func34, Tryd.ntmps34
  go_wp2_with (go_at_call 44; refine (index2_any _ _ _ _ _ _ _ _ _ _ _ HT.out hn hk HS.out hc).mono ?_; rintro e w' ⟨rfl, rfl⟩)
  go_ret
  exact ⟨by rw [← HE.out]; rfl, rfl⟩

/-- Row v has all its entries below S. -/
def rowIn (S : Nat) (F : Nat → Nat → Nat) (v : Nat) : Bool := allB S (fun x => decide (F v x < S))
def upErr (n : Int) (len : Nat) (m : Nat → Nat) (F : Nat → Nat → Nat) : Nat :=
  if 0 ≤ n ∧ n ≤ 2 then (if len = setsZ n ∧ fullB (setsZ n) len m = true then (if allB (setsZ n) (rowIn (setsZ n) F) = true then 0 else 2) else 3) else 2
def upMask (S : Nat) (F : Nat → Nat → Nat) (i : Nat) : Nat := mkSet i (fun i => upAll S i F)
theorem row_err (S : Nat) (F : Nat → Nat → Nat) (v : Nat) : tabErr S S (F v) = if rowIn S F v = true then 0 else 2 := if_pos rfl
set_option maxHeartbeats 1000000 in
theorem Update_far (n : Int) (A : Option Addr) (len c : Nat) (w : World) (hn : ¬ (0 ≤ n ∧ n ≤ 2)) :
    Calls Tryd.prog 16 #[.int .i64 n, .slice A len c] w fun e w' => e = .returned (.tuple #[.int .i64 0, .int .i64 2]) ∧ Below w.heap.size w w' := by
  have HB := Lib.hid (below_alloc w (.cells #[.int .i64 n] 3))
  by_cases h0 : n < 0
  · have hd1 : decide (n < 0) = true := decide_eq_true h0
    clear hn h0
    go_enter Tryd.func16, Tryd.ntmps16
    go_wp2
    go_ret2
    exact ⟨rfl, HB.out⟩
  · have hd1 : decide (n < 0) = false := decide_eq_false h0
    have hd2 : decide (2 < n) = true := decide_eq_true (by omega)
    clear hn h0
    go_enter Tryd.func16, Tryd.ntmps16
    go_wp2
    go_ret2
    exact ⟨rfl, HB.out⟩
set_option maxHeartbeats 1000000 in
theorem Update_form (k S : Nat) (A : Option Addr) (n c : Nat) (R : Nat → Option Addr) (m cc : Nat → Nat) (F : Nat → Nat → Nat) (w : World) (hT : Mat w A n R m cc F) (hn : n ≤ 9223372036854775807) (hk : k ≤ 2) (hS : S = 2 ^ 2 ^ k) (hf : ¬ (n = S ∧ fullB S n m = true)) :
    Calls Tryd.prog 16 #[.int .i64 k, .slice A n c] w fun e w' => e = .returned (.tuple #[.int .i64 0, .int .i64 3]) ∧ Below w.heap.size w w' := by
  have hb := below_alloc w (.cells #[.int .i64 k] 3)
  have hd1 : decide ((k : Int) < 0) = false := by simp
  have hd2 : decide (2 < (k : Int)) = false := by simp; omega
  have hcc : (w.alloc (.cells #[.int .i64 k] 3)).cell? ⟨w.heap.size, 0, none⟩ = some (.int .i64 k) := by simp
  have HT := Lib.hid (hT.below hb)
  have HB := Lib.hid hb
  have HS := Lib.hid hS
  clear hb hT hS
  by_cases hnS : n = S
  · have h1 : ((n : Int) != (S : Int)) = false := by rw [hnS]; simp
    have hfull : fullB S n m = false := by
      cases h : fullB S n m
      · rfl
      · exact absurd ⟨hnS, h⟩ hf
    clear hnS hf
    go_enter Tryd.func16, Tryd.ntmps16
    go_wp2_with (go_at_call 27; refine (sets_any k S _ (by omega) HS.out).mono ?_; rintro e w' ⟨rfl, rfl⟩)
    generalize w.alloc _ = W at hcc HT HB ⊢
    go_wp2_with (go_at_call 34; refine (contains2_any _ _ _ _ _ _ _ _ _ _ _ HT.out hn (by omega) HS.out hcc).mono ?_; rintro e w' ⟨rfl, rfl⟩)
    go_ret2
    exact ⟨rfl, HB.out⟩
  · have h1 : ((n : Int) != (S : Int)) = true := by rw [bne_iff_ne]; omega
    clear hnS hf
    go_enter Tryd.func16, Tryd.ntmps16
    go_wp2_with (go_at_call 27; refine (sets_any k S _ (by omega) HS.out).mono ?_; rintro e w' ⟨rfl, rfl⟩)
    go_ret2
    exact ⟨rfl, HB.out⟩
set_option maxHeartbeats 2000000 in
theorem Update_rows (k S : Nat) (A : Option Addr) (c : Nat) (R : Nat → Option Addr) (m cc : Nat → Nat) (F : Nat → Nat → Nat) (w : World) (hL : LaidU w) (hT : Mat w A S R m cc F) (hk : k ≤ 2) (hS : S = 2 ^ 2 ^ k) (hfull : fullB S S m = true)
    (X E : Nat) (hX : X = if allB S (rowIn S F) = true then upMask S F 8 else 0) (hE : E = if allB S (rowIn S F) = true then 0 else 2) :
    Calls Tryd.prog 16 #[.int .i64 k, .slice A S c] w fun e w' => e = .returned (.tuple #[.int .i64 X, .int .i64 E]) ∧ Below w.heap.size w w' := by
  have HX := Lib.hid hX
  have HE0 := Lib.hid hE
  clear hX hE
  have hb := below_alloc w (.cells #[.int .i64 k] 3)
  have hS2 := sets_le (by omega) hS
  have hd1 : decide ((k : Int) < 0) = false := by simp
  have hd2 : decide (2 < (k : Int)) = false := by simp; omega
  have hcc : (w.alloc (.cells #[.int .i64 k] 3)).cell? ⟨w.heap.size, 0, none⟩ = some (.int .i64 k) := by simp
  have hms : ∀ v, v < S → m v = S := fun v hv => beq_iff_eq.1 (allB_iff.1 hfull v hv)
  have hT2 : Mat w A S R (fun _ => S) cc F := fun i hi => by
    obtain ⟨b, off, e, h1, h2, h3⟩ := hT i hi
    rw [hms i hi] at h1 h2 h3
    exact ⟨b, off, e, h1, h2, h3⟩
  have HT := Lib.hid (hT.below hb)
  have HM := Lib.hid (hT2.below hb)
  have HL := Lib.hid (hL.below hb)
  have HB := Lib.hid hb
  have HS := Lib.hid hS
  have HFU := Lib.hid hfull
  have HSN : Hid (∃ N, S = 2 ^ N) := Lib.hid ⟨_, hS⟩
  clear hb hT hT2 hL hS hms hfull
  have hfl : fullB S S m = true := HFU.out
  go_enter Tryd.func16, Tryd.ntmps16
  go_wp2_with (go_at_call 27; refine (sets_any k S _ (by omega) HS.out).mono ?_; rintro e w' ⟨rfl, rfl⟩)
  generalize hW : w.alloc _ = W at hcc HT HM HL HB ⊢
  have hsz : w.heap.size < W.heap.size := by rw [← hW]; simp
  clear hW
  go_wp2_with (go_at_call 34; refine (contains2_any _ _ _ _ _ _ _ _ _ _ _ HT.out (by omega) (by omega) HS.out hcc).mono ?_; rintro e w' ⟨rfl, rfl⟩)
  clear HT hfl
  have HC := Lib.hid hcc
  clear hcc
  go_loopw [29] (fun iv wr => ∃ v : Nat, v ≤ S ∧ iv = .int .i64 v ∧ Below W.heap.size W wr ∧ Hid (∀ u, u < v → rowIn S F u = true)) (fun iv _ => S - (intOf iv).toNat)
  case atStart => exact ⟨0, Nat.zero_le _, rfl, Below.refl _ _, Lib.hid fun u h => absurd h (Nat.not_lt_zero _)⟩
  case round =>
    obtain ⟨v, hv, rfl, hbl, HI⟩ := hrel
    by_cases hlt : v < S
    · obtain ⟨b, off, eA, hcv, hr, hrow⟩ := HM.out.below hbl v hlt
      subst eA
      have hcn := cell_below hbl HC.out
      have hte := table_any (R v) S (cc v) k S (F v) wr hrow (by omega) (by omega) HS.out
      rw [row_err] at hte
      have HB2 := Lib.hid hbl
      clear hbl hrow
      cases hri : rowIn S F v
      · rw [hri] at hte
        have HTE := Lib.hid hte
        have HE := Lib.hid (show allB S (rowIn S F) = false from not_all hlt hri)
        clear hte hri
        go_wp2_with (go_at_call 28; refine HTE.out.mono ?_; rintro e w1 ⟨rfl, hst⟩; have HB2 := Lib.hid (HB2.out.trans (hst.mono HB2.out.size)); clear hst)
        go_ret2
        exact ⟨by rw [HX.out, HE0.out, HE.out]; rfl, HB.out.trans (HB2.out.mono HB.out.size)⟩
      · rw [hri] at hte
        have HTE := Lib.hid hte
        have HI2 : Hid (∀ u, u < v + 1 → rowIn S F u = true) := Lib.hid fun u h => by
          rcases Nat.lt_succ_iff_lt_or_eq.1 h with h3 | rfl
          · exact HI.out u h3
          · exact hri
        clear hte hri
        go_wp2_with (go_at_call 28; refine HTE.out.mono ?_; rintro e w1 ⟨rfl, hst⟩; have HB2 := Lib.hid (HB2.out.trans (hst.mono HB2.out.size)); clear hst)
        go_roundw
        case rel => exact ⟨v + 1, by omega, by go_num, HB2.out, HI2⟩
        case measure => simp [intOf]; omega
    · obtain rfl : v = S := by omega
      have HALL := Lib.hid (show allB v (rowIn v F) = true from allB_iff.2 HI.out)
      have hL2 := HL.out.below hbl
      obtain ⟨b8, off8, cap8, g1, -⟩ := HL.out
      have G1 := Lib.hid g1
      have g1' := cell_below hbl g1
      have HB2 := Lib.hid hbl
      clear hbl g1 hL2
      go_wp2_with fail
      clear g1'
      go_loopw [9, 42] (fun mv iv wr => ∃ i : Nat, i ≤ 8 ∧ iv = .int .i64 i ∧ mv = .int .i64 (upMask v F i : Nat) ∧ Below W.heap.size W wr) (fun _ iv _ => 8 - (intOf iv).toNat)
      case atStart => exact ⟨0, Nat.zero_le _, rfl, rfl, HB2.out⟩
      case round =>
        clear HB2
        obtain ⟨i, hi, rfl, rfl, hbl⟩ := hrel
        by_cases hlti : i < 8
        · obtain ⟨N, hN⟩ := HSN.out
          have hcn := cell_below hbl HC.out
          have hho := holds_any i k v N c A R cc F wr hlti (HL.out.below hbl) (HM.out.below hbl) hk HS.out hN
          have hml : upMask v F i < 256 := Nat.lt_of_lt_of_le (mkSet_lt i _) (Nat.pow_le_pow_right (n := 2) (i := i) (j := 8) (by decide) (by omega))
          obtain ⟨P, eP⟩ : ∃ P : Nat, P = 2 ^ i := ⟨_, rfl⟩
          have hPl : P < 256 := by rw [eP]; exact Nat.pow_lt_pow_right (n := 8) (by decide) hlti
          have hsh := i64_shl_one eP (by omega)
          have hor : bits .or .i64 (upMask v F i : Int) (P : Int) = ((upMask v F i ||| P : Nat) : Int) := i64_or_nat _ _ (by omega) (by omega)
          have hyes : upAll v i F = true → upMask v F (i + 1) = upMask v F i ||| P := fun h => by rw [eP]; exact mkSet_succ_yes (p := fun i => upAll v i F) h
          have hno : upAll v i F = false → upMask v F (i + 1) = upMask v F i := fun h => mkSet_succ_no (p := fun i => upAll v i F) h
          obtain ⟨r, er⟩ : ∃ r, r = upAll v i F := ⟨_, rfl⟩
          obtain ⟨m0, em0⟩ : ∃ m0, m0 = upMask v F i := ⟨_, rfl⟩
          obtain ⟨m1, em1⟩ : ∃ m1, m1 = upMask v F (i + 1) := ⟨_, rfl⟩
          rw [← er] at hho hyes hno
          rw [← em0] at hml hor hyes hno
          rw [← em1] at hyes hno
          rw [← em0]
          have HHO := Lib.hid hho
          have HM1 := Lib.hid em1
          have HB2 := Lib.hid hbl
          clear er em0 em1 eP hho hbl hN
          cases r
          · have HNO := Lib.hid (hno rfl)
            clear hyes hno
            go_wp2_with (go_at_call 36; refine HHO.out.mono ?_; rintro e w1 ⟨rfl, hst⟩; have HB2 := Lib.hid (HB2.out.trans (hst.mono HB2.out.size)); clear hst)
            go_roundw
            case rel => exact ⟨i + 1, by omega, by go_num, by rw [← HM1.out, HNO.out], HB2.out⟩
            case measure => simp [intOf]; omega
          · have HYE := Lib.hid (hyes rfl)
            clear hyes hno
            go_wp2_with (go_at_call 36; refine HHO.out.mono ?_; rintro e w1 ⟨rfl, hst⟩; have HB2 := Lib.hid (HB2.out.trans (hst.mono HB2.out.size)); clear hst)
            go_roundw
            case rel => exact ⟨i + 1, by omega, by go_num, by rw [← HM1.out, HYE.out], HB2.out⟩
            case measure => simp [intOf]; omega
        · obtain rfl : i = 8 := by omega
          have HB2 := Lib.hid hbl
          clear hbl
          go_wp2_with fail
          go_ret2
          exact ⟨by rw [HX.out, HE0.out, HALL.out]; rfl, HB.out.trans (HB2.out.mono HB.out.size)⟩
/-- What Update returns. -/
def upVal (n : Int) (len : Nat) (m : Nat → Nat) (F : Nat → Nat → Nat) : Nat := if upErr n len m F = 0 then upMask (setsZ n) F 8 else 0
theorem Update_any (n : Int) (A : Option Addr) (len c : Nat) (R : Nat → Option Addr) (m cc : Nat → Nat) (F : Nat → Nat → Nat) (w : World) (hL : LaidU w) (hT : Mat w A len R m cc F) (hn : len ≤ 9223372036854775807) :
    Calls Tryd.prog 16 #[.int .i64 n, .slice A len c] w fun e w' => e = .returned (.tuple #[.int .i64 (upVal n len m F : Nat), .int .i64 (upErr n len m F : Nat)]) ∧ Below w.heap.size w w' := by
  by_cases h1 : 0 ≤ n ∧ n ≤ 2
  · obtain ⟨k, rfl⟩ : ∃ k : Nat, n = k := ⟨n.toNat, by omega⟩
    have hk : k ≤ 2 := by omega
    by_cases h2 : len = setsZ k ∧ fullB (setsZ k) len m = true
    · obtain ⟨rfl, hf⟩ := h2
      have h := Update_rows k (setsZ k) A c R m cc F w hL hT hk rfl hf _ _ rfl rfl
      have e1 : upErr k (setsZ k) m F = if allB (setsZ k) (rowIn (setsZ k) F) = true then 0 else 2 := by unfold upErr; rw [if_pos h1, if_pos ⟨rfl, hf⟩]
      have e2 : upVal k (setsZ k) m F = if allB (setsZ k) (rowIn (setsZ k) F) = true then upMask (setsZ k) F 8 else 0 := by
        unfold upVal; rw [e1]; by_cases h3 : allB (setsZ k) (rowIn (setsZ k) F) = true
        · rw [if_pos h3, if_pos h3, if_pos rfl]
        · rw [if_neg h3, if_neg h3, if_neg (by decide)]
      rw [e1, e2]; exact h
    · have h := Update_form k (setsZ k) A len c R m cc F w hT hn hk rfl h2
      have e1 : upErr k len m F = 3 := by unfold upErr; rw [if_pos h1, if_neg h2]
      have e2 : upVal k len m F = 0 := by unfold upVal; rw [e1]; rfl
      rw [e1, e2]; exact h
  · have h := Update_far n A len c w h1
    have e1 : upErr n len m F = 2 := by unfold upErr; rw [if_neg h1]
    have e2 : upVal n len m F = 0 := by unfold upVal; rw [e1]; rfl
    rw [e1, e2]; exact h
end Go.Proofs.YtflhngmfcpeamaaDoor
