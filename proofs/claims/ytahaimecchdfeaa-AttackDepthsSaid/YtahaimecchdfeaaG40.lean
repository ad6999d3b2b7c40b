/-
  Texts of this claim, one after the other: what each proves is said at its head. No condition beyond those that its theorems name.
-/
import Derived.Test.YtahaimecchdfeaaProg
import Derived.Deep.DeepCutAuto
import Derived.Test.YtahaimecchdfeaaG01
import Derived.Test.YtahaimecchdfeaaG02
import Derived.Test.YtahaimecchdfeaaG06
import Derived.Test.YtahaimecchdfeaaG39

/-
  Walk: the reference's Few, of any system.
-/
namespace Go.Proofs.Ytahaimecchdfeaa
open Go.RowKit

theorem runsW_at {w : World} {g o n : Nat} {T : Nat → Nat} {m : Nat → Nat → Nat} {L : Nat → Nat → Nat → Int} {K : Nat → Nat} {F : Nat → Nat → Nat} (h : RunsW w (some ⟨g, o, none⟩) n T m L K F) {i : Nat} (hi : i < n) :
    ∃ Ax cx Bx dx, w.cell? ⟨g, o + i * 2, none⟩ = some (.slice Ax (T i) cx) ∧ w.cell? ⟨g, o + i * 2 + 1, none⟩ = some (.slice Bx (K i) dx) ∧ T i ≤ 9223372036854775807 ∧ K i ≤ 9223372036854775807 := by
  obtain ⟨b, off, u, v, e, c0, c1, h3, h4, hr⟩ := h i hi
  injection e with e
  injection e with e1 e2 _
  subst e1 e2
  obtain ⟨Ax, cx, Bx, dx, R, cc, euv, hM, hF⟩ := hr
  obtain ⟨rfl, rfl⟩ : u = .slice Ax (T i) cx ∧ v = .slice Bx (K i) dx := by simpa using euv
  exact ⟨Ax, cx, Bx, dx, c0, c1, h3, h4⟩
/-- What Few answers. -/
def fewB (a l : Int) (n : Nat) (T K : Nat → Nat) : Bool := decide (n ≤ 70) && decide (l ≤ 20) && decide (a ≤ 10) && allB n fun i => decide (T i ≤ 20) && decide (K i ≤ 20)
theorem few_iff {a l : Int} {n : Nat} {T K : Nat → Nat} : fewB a l n T K = true ↔ n ≤ 70 ∧ l ≤ 20 ∧ a ≤ 10 ∧ ∀ i, i < n → T i ≤ 20 ∧ K i ≤ 20 := by
  unfold fewB
  rw [Bool.and_eq_true, Bool.and_eq_true, Bool.and_eq_true, decide_eq_true_eq, decide_eq_true_eq, decide_eq_true_eq, allB_iff]
  constructor
  · rintro ⟨⟨⟨h1, h2⟩, h3⟩, h4⟩
    exact ⟨h1, h2, h3, fun i hi => by have := h4 i hi; rw [Bool.and_eq_true, decide_eq_true_eq, decide_eq_true_eq] at this; exact this⟩
  · rintro ⟨h1, h2, h3, h4⟩
    exact ⟨⟨⟨h1, h2⟩, h3⟩, fun i hi => by rw [Bool.and_eq_true, decide_eq_true_eq, decide_eq_true_eq]; exact h4 i hi⟩
set_option maxHeartbeats 4000000 in
theorem rFew_any (a f l : Int) (A : Option Addr) (n c : Nat) (T : Nat → Nat) (m : Nat → Nat → Nat) (L : Nat → Nat → Nat → Int) (K : Nat → Nat) (F : Nat → Nat → Nat) (w : World) (h : RunsW w A n T m L K F) (hn : n ≤ 9223372036854775807) :
    Calls Try.prog 12 #[.agg #[.int .i64 a, .int .i64 f, .int .i64 l, .slice A n c]] w fun e w' => e = .returned (.bool (fewB a l n T K)) ∧ Below w.heap.size w w' := by
  have HB := Lib.hid (below_alloc w (.cells #[.int .i64 a, .int .i64 f, .int .i64 l, .slice A n c] 24))
  have hbk := Blk.new w #[.int .i64 a, .int .i64 f, .int .i64 l, .slice A n c] 24
  have HR := Lib.hid (h.below HB.out)
  have HK := Lib.hid hbk
  have d0 := hbk.cell (k := 0) rfl
  have d2 := hbk.cell (k := 2) rfl
  have d3 := hbk.cell (k := 3) rfl
  obtain ⟨V, eV⟩ : ∃ V, V = fewB a l n T K := ⟨_, rfl⟩
  rw [← eV]
  have HNO : Hid (¬ (n ≤ 70 ∧ l ≤ 20 ∧ a ≤ 10 ∧ ∀ i, i < n → T i ≤ 20 ∧ K i ≤ 20) → V = false) := Lib.hid fun h => by rw [eV]; exact Bool.eq_false_iff.2 fun hc => h (few_iff.1 hc)
  have HYE : Hid ((n ≤ 70 ∧ l ≤ 20 ∧ a ≤ 10 ∧ ∀ i, i < n → T i ≤ 20 ∧ K i ≤ 20) → V = true) := Lib.hid fun h => by rw [eV]; exact few_iff.2 h
  clear hbk h eV
  go_enter Try.func12, Try.ntmps12
  go_upto_region 1 with (fail)
  obtain ⟨W, hW⟩ : ∃ W, W = w.alloc (.cells #[.int .i64 a, .int .i64 f, .int .i64 l, .slice A n c] 24) := ⟨_, rfl⟩
  rw [← hW] at HB HR HK d0 d2 d3 ⊢
  clear hW
  obtain ⟨bS, ebS⟩ : ∃ b, b = w.heap.size := ⟨_, rfl⟩
  rw [← ebS] at HK d0 d2 d3 ⊢
  clear ebS
  by_cases h1 : 70 < n
  · have t1 : decide ((70 : Int) < (n : Int)) = true := decide_eq_true (by omega)
    have HV := Lib.hid (HNO.out (fun h => by have := h.1; omega))
    clear h1
    go_wp2_with fail
    go_ret
    exact ⟨by rw [HV.out]; rfl, HB.out⟩
  have t1 : decide ((70 : Int) < (n : Int)) = false := decide_eq_false (by omega)
  by_cases h2 : 20 < l
  · have t2 : decide ((20 : Int) < l) = true := decide_eq_true h2
    have HV := Lib.hid (HNO.out (fun h => by have := h.2.1; omega))
    clear h1 h2
    go_wp2_with fail
    go_ret
    exact ⟨by rw [HV.out]; rfl, HB.out⟩
  have t2 : decide ((20 : Int) < l) = false := decide_eq_false h2
  by_cases h3 : 10 < a
  · have t3 : decide ((10 : Int) < a) = true := decide_eq_true h3
    have HV := Lib.hid (HNO.out (fun h => by have := h.2.2.1; omega))
    clear h1 h2 h3
    go_wp2_with fail
    go_ret
    exact ⟨by rw [HV.out]; rfl, HB.out⟩
  have t3 : decide ((10 : Int) < a) = false := decide_eq_false h3
  have hn70 : n ≤ 70 := by omega
  have HYE2 := Lib.hid (fun h => HYE.out ⟨hn70, by omega, by omega, h⟩)
  clear h1 h2 h3 HYE
  go_wp2_with fail
  clear d0 d2 d3 t1 t2 t3
  go_loopw [3] (fun iv wr => ∃ i : Nat, i ≤ n ∧ iv = .int .i64 i ∧ Hid (∀ k, k < i → T k ≤ 20 ∧ K k ≤ 20) ∧ Below W.heap.size W wr) (fun iv _ => n - (intOf iv).toNat)
  case atStart => exact ⟨0, Nat.zero_le _, rfl, Lib.hid fun u hu => absurd hu (Nat.not_lt_zero _), Below.refl _ _⟩
  case round =>
    obtain ⟨i, hi, rfl, HI, hb⟩ := hrel
    have HBX := Lib.hid hb
    have d3 := (HK.out.below hb).cell (k := 3) rfl
    by_cases hlt : i < n
    · have hii : (i : Int) < (n : Int) := by omega
      obtain ⟨g4, o4, rfl⟩ : ∃ g o, A = some ⟨g, o, none⟩ := by
        obtain ⟨g, o, _, _, e, -⟩ := HR.out i hlt
        exact ⟨g, o, e⟩
      obtain ⟨Ax, cx, Bx, dx, y0, y1, hT9, hK9⟩ := runsW_at (HR.out.below hb) hlt
      have HIN : Hid (T i ≤ 20 → K i ≤ 20 → ∀ k, k < i + 1 → T k ≤ 20 ∧ K k ≤ 20) := Lib.hid fun h1 h2 k hk => by
        rcases Nat.lt_succ_iff_lt_or_eq.1 hk with h | rfl
        · exact HI.out k h
        · exact ⟨h1, h2⟩
      obtain ⟨TX, eTX⟩ : ∃ q, q = T i := ⟨_, rfl⟩
      obtain ⟨KX, eKX⟩ : ∃ q, q = K i := ⟨_, rfl⟩
      rw [← eTX, ← eKX] at HIN
      rw [← eTX] at y0 hT9
      rw [← eKX] at y1 hK9
      have HTX : Hid (T i = TX) := Lib.hid eTX.symm
      have HKX : Hid (K i = KX) := Lib.hid eKX.symm
      clear hb eTX eKX HI
      by_cases hT : 20 < TX
      · have u1 : decide ((20 : Int) < (TX : Int)) = true := decide_eq_true (by omega)
        have HV := Lib.hid (HNO.out (fun h => by have := (h.2.2.2 i hlt).1; rw [HTX.out] at this; omega))
        clear HIN hT
        go_wp2_with fail
        go_ret
        exact ⟨by rw [HV.out]; rfl, below_trans HB.out HBX.out⟩
      have u1 : decide ((20 : Int) < (TX : Int)) = false := decide_eq_false (by omega)
      by_cases hK : 20 < KX
      · have u2 : decide ((20 : Int) < (KX : Int)) = true := decide_eq_true (by omega)
        have HV := Lib.hid (HNO.out (fun h => by have := (h.2.2.2 i hlt).2; rw [HKX.out] at this; omega))
        clear HIN hT hK
        go_wp2_with fail
        go_ret
        exact ⟨by rw [HV.out]; rfl, below_trans HB.out HBX.out⟩
      have u2 : decide ((20 : Int) < (KX : Int)) = false := decide_eq_false (by omega)
      have HI2 := Lib.hid (HIN.out (by omega) (by omega))
      clear HIN hT hK
      go_wp2_with fail
      go_roundw
      case rel => exact ⟨i + 1, by omega, by go_num, HI2, HBX.out⟩
      case measure => simp [intOf]; omega
    · obtain rfl : i = n := by omega
      have hii : ¬ (i : Int) < (i : Int) := by omega
      have HV := Lib.hid (HYE2.out HI.out)
      clear hb
      go_wp2_with fail
      go_ret
      exact ⟨by rw [HV.out]; rfl, below_trans HB.out HBX.out⟩
end Go.Proofs.Ytahaimecchdfeaa
