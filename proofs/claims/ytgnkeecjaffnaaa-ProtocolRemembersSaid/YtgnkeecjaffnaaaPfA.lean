/-
  Walks of layer 54: who has crashed; clean rounds, of program and reference.
-/
import Derived.Test.YtgnkeecjaffnaaaProg
import Derived.Test.YtgnkeecjaffnaaaBase
import Derived.Test.YtgnkeecjaffnaaaRow
import Derived.Test.YtgnkeecjaffnaaaPc
import Derived.Test.YtgnkeecjaffnaaaPrB
import Derived.Test.YtgnkeecjaffnaaaPoP
import Derived.Test.YtgnkeecjaffnaaaPfP
import Derived.Test.YtgnkeecjaffnaaaPfL
namespace Go.Proofs.Ytgnkeecjaffnaaa
open Go.RowKit

/-- A slice of structs of two ints, read. -/
def CrS (w : World) (A : Option Addr) (n : Nat) (rd tv : Nat → Int) : Prop :=
  ∀ k, k < n → ∃ b off, A = some ⟨b, off, none⟩ ∧ w.cell? ⟨b, off + k * 2, none⟩ = some (.int .i64 (rd k)) ∧ w.cell? ⟨b, off + k * 2 + 1, none⟩ = some (.int .i64 (tv k))
    ∧ (-9223372036854775808 ≤ rd k ∧ rd k ≤ 9223372036854775807) ∧ (-9223372036854775808 ≤ tv k ∧ tv k ≤ 9223372036854775807)
theorem CrS.below {w w' : World} {A : Option Addr} {n : Nat} {rd tv : Nat → Int} (h : CrS w A n rd tv) (hb : Below w.heap.size w w') : CrS w' A n rd tv := fun k hk =>
  let ⟨b, off, e, h1, h2, h4⟩ := h k hk; ⟨b, off, e, cell_below hb h1, cell_below hb h2, h4⟩
theorem gone_any (A : Option Addr) (n c i t bC : Nat) (rd tv : Nat → Int) (w : World) (hx : CrS w A n rd tv) (_hn : n ≤ 9223372036854775807) (hi : i < n) (hc : w.cell? ⟨bC, 0, none⟩ = some (.slice A n c)) :
    Calls Try.prog 71 #[.int .i64 i, .int .i64 t, .pointer (some ⟨bC, 0, none⟩)] w fun e w' => e = .returned (.bool (goB rd i t)) ∧ w = w' := by
  obtain ⟨b, off, rfl, c1, -, -, -⟩ := hx i hi
  have HG := Lib.hid (show goB rd i t = (rd i != 0 && decide (rd i ≤ (t : Int))) from rfl)
  obtain ⟨x, ex⟩ : ∃ x, x = rd i := ⟨_, rfl⟩
  rw [← ex] at c1 HG
  clear ex hx
  by_cases h0 : x = 0
  · have t1 : (x != 0) = false := by rw [h0]; rfl
    clear h0
    go_enter Try.func71, Try.ntmps71
    go_wp2_with fail
    go_ret
    exact ⟨by rw [HG.out, t1]; rfl, rfl⟩
  · have t1 : (x != 0) = true := by rw [bne_iff_ne]; exact h0
    clear h0
    go_enter Try.func71, Try.ntmps71
    go_wp2_with fail
    go_ret
    exact ⟨by rw [HG.out, t1]; rfl, rfl⟩
theorem cl1_any (x y : Int) (t bt : Nat) (w : World) (hc : w.cell? ⟨bt, 0, none⟩ = some (.int .i64 t)) :
    Calls Try.prog 48 #[.agg #[.int .i64 x, .int .i64 y], .pointer (some ⟨bt, 0, none⟩)] w fun e w' => e = .returned (.bool (x == (t : Int))) ∧ Below w.heap.size w w' := by
  go_enter Try.func48, Try.ntmps48
  go_upto_region 1 with (fail)
  obtain ⟨d0, d1⟩ := cells_box2 w (.int .i64 x) (.int .i64 y) 37
  have hB := below_alloc w (.cells #[.int .i64 x, .int .i64 y] 37)
  generalize w.alloc (.cells #[.int .i64 x, .int .i64 y] 37) = W at d0 d1 hB ⊢
  have hc := cell_below hB hc
  have HB := Lib.hid hB
  clear hB
  go_wp2_with fail
  go_ret
  exact ⟨rfl, HB.out⟩
def idxC (n t : Nat) (rd : Nat → Int) : Int := if firstNo n (fun v => rd v != (t : Int)) < n then (firstNo n (fun v => rd v != (t : Int)) : Nat) else -1
theorem idxC_hit {n t v : Nat} {rd : Nat → Int} (hv : v < n) (h : ∀ i, i < v → rd i ≠ (t : Int)) (hb : rd v = (t : Int)) : idxC n t rd = (v : Int) := by
  have e := firstNo_hit (p := fun v => rd v != (t : Int)) hv (fun i hi => bne_iff_ne.2 (h i hi)) (by rw [hb]; simp)
  unfold idxC; rw [e, if_pos hv]
theorem idxC_none {n t : Nat} {rd : Nat → Int} (h : ∀ i, i < n → rd i ≠ (t : Int)) : idxC n t rd = -1 := by
  have e := firstNo_all (p := fun v => rd v != (t : Int)) (n := n) (fun i hi => bne_iff_ne.2 (h i hi))
  unfold idxC; rw [e, if_neg (Nat.lt_irrefl _)]
theorem clIndex_any (A : Option Addr) (n c t bt : Nat) (rd tv : Nat → Int) (w : World) (hT : CrS w A n rd tv) (hn : n ≤ 9223372036854775807) (hc : w.cell? ⟨bt, 0, none⟩ = some (.int .i64 t)) :
    Calls Try.prog 76 #[.slice A n c, .func (.func 48) #[] #[.pointer (some ⟨bt, 0, none⟩)]] w fun e w' => e = .returned (.int .i64 (idxC n t rd)) ∧ Below w.heap.size w w' := by
  have HT := Lib.hid hT
  have HC := Lib.hid hc
  clear hT hc
  go_enter Try.func76, Try.ntmps76
  go_wp2
  go_loopw [8] (fun i wr => ∃ v : Nat, v ≤ n ∧ i = .int .i64 v ∧ Hid (∀ i, i < v → rd i ≠ (t : Int)) ∧ Below w.heap.size w wr) (fun i _ => n - (intOf i).toNat)
  case atStart => exact ⟨0, Nat.zero_le _, rfl, Lib.hid fun i h => absurd h (Nat.not_lt_zero _), Below.refl _ _⟩
  case round =>
    obtain ⟨v, hv, rfl, HF, hbl⟩ := hrel
    by_cases hlt : v < n
    · obtain ⟨b, off, rfl, c1, c2, -, -⟩ := HT.out.below hbl v hlt
      have HCL := Lib.hid (fun x y => cl1_any x y t bt wr (cell_below hbl HC.out))
      have HB := Lib.hid hbl
      obtain ⟨x, ex⟩ : ∃ x, x = rd v := ⟨_, rfl⟩
      obtain ⟨y, ey⟩ : ∃ y, y = tv v := ⟨_, rfl⟩
      rw [← ex] at c1
      rw [← ey] at c2
      by_cases hb : x = (t : Int)
      · have HI := Lib.hid (idxC_hit hlt HF.out (ex.symm.trans hb))
        have hd : (x == (t : Int)) = true := by rw [beq_iff_eq]; exact hb
        clear hb ex ey hbl
        go_wp2_with (go_at_call 48; refine (HCL.out _ _).mono ?_; rintro e w1 ⟨rfl, hb1⟩; have HB := Lib.hid (HB.out.trans (hb1.mono HB.out.size)); clear hb1)
        go_ret
        exact ⟨by rw [HI.out]; rfl, HB.out⟩
      · have hd : (x == (t : Int)) = false := by rw [beq_eq_false_iff_ne]; exact hb
        have HF2 : Hid (∀ i, i < v + 1 → rd i ≠ (t : Int)) := Lib.hid fun i h => by
          rcases Nat.lt_succ_iff_lt_or_eq.1 h with h3 | rfl
          · exact HF.out i h3
          · rw [← ex]; exact hb
        clear hb ex ey hbl
        go_wp2_with (go_at_call 48; refine (HCL.out _ _).mono ?_; rintro e w1 ⟨rfl, hb1⟩; have HB := Lib.hid (HB.out.trans (hb1.mono HB.out.size)); clear hb1)
        go_roundw
        case rel => exact ⟨v + 1, by omega, by go_num, HF2, HB.out⟩
        case measure => simp [intOf]; omega
    · obtain rfl : v = n := by omega
      have HI := Lib.hid (idxC_none HF.out)
      have HB := Lib.hid hbl
      clear hbl
      go_wp2
      go_ret
      exact ⟨by rw [HI.out]; rfl, HB.out⟩
theorem clContains_any (A : Option Addr) (n c t bt : Nat) (rd tv : Nat → Int) (w : World) (hT : CrS w A n rd tv) (hn : n ≤ 9223372036854775807) (hc : w.cell? ⟨bt, 0, none⟩ = some (.int .i64 t)) :
    Calls Try.prog 47 #[.slice A n c, .func (.func 48) #[] #[.pointer (some ⟨bt, 0, none⟩)]] w fun e w' => e = .returned (.bool (!allB n (fun v => rd v != (t : Int)))) ∧ Below w.heap.size w w' := by
  have HE : Hid (decide (0 ≤ idxC n t rd) = !allB n (fun v => rd v != (t : Int))) := Lib.hid (by
    cases ha : allB n (fun v => rd v != (t : Int))
    · obtain ⟨u, hu, hf⟩ := not_allB ha
      obtain ⟨i1, i2, i3⟩ := firstNo_spec n (fun v => rd v != (t : Int))
      have : firstNo n (fun v => rd v != (t : Int)) < n := by
        rcases Nat.lt_or_ge (firstNo n (fun v => rd v != (t : Int))) n with h1 | h1
        · exact h1
        · have := i2 u (by omega); rw [hf] at this; cases this
      unfold idxC; rw [if_pos this]; simp
    · rw [idxC_none fun i hi => bne_iff_ne.1 (allB_iff.1 ha i hi)]; rfl)
  have HI := Lib.hid (clIndex_any A n c t bt rd tv w hT hn hc)
  clear hT hc
  go_enter Try.func47, Try.ntmps47
  go_wp2_with (go_at_call 76; refine HI.out.mono ?_; rintro e w1 ⟨rfl, hb1⟩; have HB := Lib.hid hb1; clear hb1)
  go_ret
  exact ⟨by rw [← HE.out]; rfl, HB.out⟩
set_option maxHeartbeats 1000000 in
theorem Clean_any (R : Int) (A : Option Addr) (n c : Nat) (rd tv : Nat → Int) (w : World) (hT : CrS w A n rd tv) (hn : n ≤ 9223372036854775807) :
    Calls Try.prog 21 #[.int .i64 R, .slice A n c] w fun e w' => e = .returned (.int .i64 (clV R rd n : Nat)) ∧ Below w.heap.size w w' := by
  by_cases h1 : R < 1
  · have t1 : decide (R < 1) = true := decide_eq_true h1
    have HV := Lib.hid (show clV R rd n = 0 from if_neg (by omega))
    clear h1 hT
    go_enter Try.func21, Try.ntmps21
    go_wp2_with fail
    go_ret
    exact ⟨by rw [HV.out]; rfl, Below.refl _ _⟩
  have t1 : decide (R < 1) = false := decide_eq_false h1
  by_cases h3 : 3 < R
  · have t3 : decide (3 < R) = true := decide_eq_true h3
    have HV := Lib.hid (show clV R rd n = 0 from if_neg (by omega))
    clear h1 h3 hT
    go_enter Try.func21, Try.ntmps21
    go_wp2_with fail
    go_ret
    exact ⟨by rw [HV.out]; rfl, Below.refl _ _⟩
  have t3 : decide (3 < R) = false := decide_eq_false h3
  obtain ⟨r, rfl⟩ : ∃ r : Nat, R = r := ⟨R.toNat, by omega⟩
  have hr3 : r ≤ 3 := by omega
  have HV := Lib.hid (show clV r rd n = clN rd n r by unfold clV; rw [if_pos (by omega), Int.toNat_natCast])
  have HX := Lib.hid hT
  clear h1 h3 hT
  go_enter Try.func21, Try.ntmps21
  go_upto_region 4 with (fail)
  have hbl := below_alloc w (.cells #[.int .i64 1] 3)
  have hbk := Blk.new w #[.int .i64 1] 3
  generalize w.alloc (.cells #[.int .i64 1] 3) = W at hbl hbk ⊢
  have HB := Lib.hid hbl
  have HK := Lib.hid hbk
  clear hbl hbk
  go_loopw [5] (fun p wr => ∃ t bt : Nat, p = .pointer (some ⟨bt, 0, none⟩) ∧ t ≤ r ∧ w.heap.size ≤ bt ∧ Blk wr bt 3 #[.int .i64 ((t + 1 : Nat) : Int)] ∧ Hid (clN rd n t = 0) ∧ Below w.heap.size w wr) (fun p wr => 5 - (match p with | .pointer (some a) => (intOf ((wr.cell? a).getD (.int .i64 0))).toNat | _ => 0))
  case atStart => exact ⟨0, w.heap.size, rfl, Nat.zero_le _, Nat.le_refl _, HK.out, Lib.hid rfl, HB.out⟩
  case round =>
    obtain ⟨t, bt, rfl, htr, hge, hbk, HZ, hbl⟩ := hrel
    have d0 := hbk.cell (k := 0) rfl
    by_cases hlt : t < r
    · have e1 : decide (((t + 1 : Nat) : Int) ≤ (r : Int)) = true := decide_eq_true (by omega)
      have e1' : decide (t + 1 ≤ r) = true := decide_eq_true (by omega)
      have HCC := Lib.hid (clContains_any A n c (t + 1) bt rd tv wr (HX.out.below hbl) hn d0)
      have HBW := Lib.hid hbl
      have HBK := Lib.hid hbk
      cases hq : allB n (fun v => rd v != ((t + 1 : Nat) : Int))
      · rw [hq] at HCC
        have HZ2 := Lib.hid (clN_miss HZ.out hq)
        clear hq hbl
        go_upto_region 8 with (go_at_call 47; refine HCC.out.mono ?_; rintro e w1 ⟨rfl, hb1⟩; have d0 := cell_below hb1 d0; have HBW := Lib.hid (HBW.out.trans (hb1.mono HBW.out.size)); clear hb1)
        have hsz := HBW.out.size
        have HB2 := Lib.hid (HBW.out.alloc hsz (.cells #[.int .i64 ((t : Int) + 1 + 1)] 3))
        have HN := Lib.hid (Blk.new w1 #[.int .i64 ((t : Int) + 1 + 1)] 3)
        have hn0 := HN.out.cell (k := 0) rfl
        have hc0 := hbk.cell (k := 0) rfl
        go_wp2_with fail
        go_roundw
        case rel => exact ⟨t + 1, w1.heap.size, rfl, by omega, hsz, HN.out, HZ2, HB2.out⟩
        case measure =>
          show 5 - (intOf (((w1.alloc (Obj.cells #[Value.int IntKind.i64 ((t : Int) + 1 + 1)] 3)).cell? ⟨w1.heap.size, 0, none⟩).getD (Value.int IntKind.i64 0))).toNat < 5 - (intOf ((wr.cell? ⟨bt, 0, none⟩).getD (Value.int IntKind.i64 0))).toNat
          rw [hn0, hc0]
          simp [intOf]; omega
      · rw [hq] at HCC
        have HZ2 := Lib.hid (clN_hit HZ.out hq)
        have HV2 : Hid (clV r rd n = t + 1) := Lib.hid (by
          rw [HV.out]
          have := clN_keep (rd := rd) (n := n) (R := t + 1) (by rw [HZ2.out]; omega) (r - (t + 1))
          rw [show t + 1 + (r - (t + 1)) = r from by omega] at this
          rw [this, HZ2.out])
        clear hq hbl hbk
        go_wp2_with (go_at_call 47; refine HCC.out.mono ?_; rintro e w1 ⟨rfl, hb1⟩; have d0 := cell_below hb1 d0; have HBW := Lib.hid (HBW.out.trans (hb1.mono HBW.out.size)); clear hb1)
        go_ret
        exact ⟨by rw [HV2.out]; rfl, HBW.out⟩
    · obtain rfl : t = r := by omega
      have e1 : decide (((t + 1 : Nat) : Int) ≤ (t : Int)) = false := decide_eq_false (by omega)
      have e1' : decide (t + 1 ≤ t) = false := decide_eq_false (by omega)
      have HBW := Lib.hid hbl
      clear hbl hbk
      go_wp2_with fail
      go_ret
      exact ⟨by rw [HV.out, HZ.out]; rfl, HBW.out⟩
end Go.Proofs.Ytgnkeecjaffnaaa
