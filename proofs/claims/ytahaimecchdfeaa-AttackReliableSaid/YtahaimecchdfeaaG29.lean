/-
  Texts of this claim, one after the other: what each proves is said at its head. No condition beyond those that its theorems name.
-/
import Derived.Test.YtahaimecchdfeaaProg
import Derived.Test.YtahaimecchdfeaaG19
import Derived.Test.YtahaimecchdfeaaG28

/-
  Walk: the law AttackProtocols.
-/
namespace Go.Proofs.Ytahaimecchdfeaa
open Go.RowKit

/-- Rules whose numbers fit in an int. -/
def bndB (l : List (Int × Int × Int)) : Bool := (List.range l.length).all fun k => decide ((-9223372036854775808 ≤ l[k]!.1 ∧ l[k]!.1 ≤ 9223372036854775807) ∧ (-9223372036854775808 ≤ l[k]!.2.1 ∧ l[k]!.2.1 ≤ 9223372036854775807) ∧ (-9223372036854775808 ≤ l[k]!.2.2 ∧ l[k]!.2.2 ≤ 9223372036854775807))
theorem bndB_at {l : List (Int × Int × Int)} (h : bndB l = true) : ∀ k, k < l.length → (-9223372036854775808 ≤ l[k]!.1 ∧ l[k]!.1 ≤ 9223372036854775807) ∧ (-9223372036854775808 ≤ l[k]!.2.1 ∧ l[k]!.2.1 ≤ 9223372036854775807) ∧ (-9223372036854775808 ≤ l[k]!.2.2 ∧ l[k]!.2.2 ≤ 9223372036854775807) :=
  fun k hk => of_decide_eq_true (List.all_eq_true.1 h k (List.mem_range.2 hk))
theorem upto4 {n : Nat} (h : n ≤ 4) : n = 0 ∨ n = 1 ∨ n = 2 ∨ n = 3 ∨ n = 4 := by omega
theorem bnd_alt (R : Int) : bndB (if 0 ≤ R ∧ R ≤ 4 then altS R.toNat else []) = true := by
  by_cases h : 0 ≤ R ∧ R ≤ 4
  · rw [if_pos h]
    rcases upto4 (n := R.toNat) (by omega) with e | e | e | e | e <;> rw [e] <;> kernel_rfl
  · rw [if_neg h]
    rfl
theorem bnd_tel (R : Int) : bndB (if 0 ≤ R ∧ R ≤ 4 then telR R.toNat else []) = true := by
  by_cases h : 0 ≤ R ∧ R ≤ 4
  · rw [if_pos h]
    rcases upto4 (n := R.toNat) (by omega) with e | e | e | e | e <;> rw [e] <;> kernel_rfl
  · rw [if_neg h]
    rfl
theorem len_alt (R : Int) : (if 0 ≤ R ∧ R ≤ 4 then altS R.toNat else []).length ≤ 8 := by
  by_cases h : 0 ≤ R ∧ R ≤ 4
  · rw [if_pos h]
    rcases upto4 (n := R.toNat) (by omega) with e | e | e | e | e <;> rw [e] <;> decide
  · rw [if_neg h]
    decide
theorem len_tel (R : Int) : (if 0 ≤ R ∧ R ≤ 4 then telR R.toNat else []).length ≤ 8 := by
  by_cases h : 0 ≤ R ∧ R ≤ 4
  · rw [if_pos h]
    rcases upto4 (n := R.toNat) (by omega) with e | e | e | e | e <;> rw [e] <;> decide
  · rw [if_neg h]
    decide
/-- What ExPost gives, as a protocol that can be read. -/
theorem ExPost.read {w : World} {R E : Int} {l : List (Int × Int × Int)} {e : Ending} {w' : World} (hl : bndB l = true) (h : ExPost w R E l e w') :
    ∃ A c, e = .returned (.tuple #[.agg #[.int .i64 R, .slice A l.length c], .int .i64 E]) ∧ RuleS w' A l.length (fun k => l[k]!.1) (fun k => l[k]!.2.1) (fun k => l[k]!.2.2) ∧ Below w.heap.size w w' := by
  obtain ⟨v, rfl, ho, hb⟩ := h
  obtain ⟨A, c, rfl⟩ := ho.shape
  exact ⟨A, c, rfl, ho.rules (bndB_at hl), hb⟩
theorem samEx_refl (R : Int) (n : Nat) (fa fh fm : Nat → Int) : SamEx R n fa fh fm R n fa fh fm := ⟨rfl, rfl, fun _ _ => ⟨rfl, rfl, rfl⟩⟩

set_option maxHeartbeats 4000000 in
theorem protocols_core (R : Int) (w : World) : Calls Try.prog 9 #[.int .i64 R] w fun e w' => e = .returned (.bool true) ∧ Below w.heap.size w w' := by
  have hA := fun W => (Alternating_any R W).mono (fun _ _ h => h.read (bnd_alt R))
  have hB := fun W => (rAlternating_any R W).mono (fun _ _ h => h.read (bnd_alt R))
  have hC := fun W => (Telling_any R W).mono (fun _ _ h => h.read (bnd_tel R))
  have hD := fun W => (rTelling_any R W).mono (fun _ _ h => h.read (bnd_tel R))
  have hl1 := len_alt R
  have hl2 := len_tel R
  generalize (if 0 ≤ R ∧ R ≤ 4 then altS R.toNat else []) = l1 at hA hB hl1
  generalize (if 0 ≤ R ∧ R ≤ 4 then telR R.toNat else []) = l2 at hC hD hl2
  generalize (if 0 ≤ R ∧ R ≤ 4 then R else 0) = R1 at hA hB hC hD
  generalize (if 0 ≤ R ∧ R ≤ 4 then 0 else 2 : Int) = E at hA hB hC hD
  have HA := Lib.hid hA
  have HB := Lib.hid hB
  have HC := Lib.hid hC
  have HD := Lib.hid hD
  clear hA hB hC hD
  go_enter Try.func9, Try.ntmps9
  go_upto_region 2 with (go_at_call 28; refine (HA.out _).mono ?_; rintro e w1 ⟨A1, c1, rfl, hr, hb⟩; have HR1 := Lib.hid hr; have HB1 := Lib.hid hb; clear hr hb)
  have hbk := Blk.new w1 #[.int .i64 R1, .slice A1 l1.length c1] 43
  have hba := below_alloc w1 (.cells #[.int .i64 R1, .slice A1 l1.length c1] 43)
  obtain ⟨V1, eV⟩ : ∃ V, V = w1.alloc (.cells #[.int .i64 R1, .slice A1 l1.length c1] 43) := ⟨_, rfl⟩
  rw [← eV] at hbk hba ⊢
  obtain ⟨b1, eb1⟩ : ∃ b, b = w1.heap.size := ⟨_, rfl⟩
  rw [← eb1] at hbk ⊢
  have HST := Lib.hid (below_trans HB1.out hba)
  have HR1 := Lib.hid (HR1.out.below hba)
  have HK1 := Lib.hid hbk
  clear hbk hba eV eb1 HB1
  have HBA := HST
  clear HST
  go_upto_region 3 with (go_at_call 29; refine (HB.out _).mono ?_; rintro e w2 ⟨A2, c2, rfl, hr, hb⟩; have HR2 := Lib.hid hr; have HB2 := Lib.hid hb; clear hr hb)
  have hbk := Blk.new w2 #[.int .i64 R1, .slice A2 l1.length c2] 43
  have hba := below_alloc w2 (.cells #[.int .i64 R1, .slice A2 l1.length c2] 43)
  obtain ⟨V2, eV⟩ : ∃ V, V = w2.alloc (.cells #[.int .i64 R1, .slice A2 l1.length c2] 43) := ⟨_, rfl⟩
  rw [← eV] at hbk hba ⊢
  obtain ⟨b2, eb2⟩ : ∃ b, b = w2.heap.size := ⟨_, rfl⟩
  rw [← eb2] at hbk ⊢
  have HST := Lib.hid (below_trans HB2.out hba)
  have HR2 := Lib.hid (HR2.out.below hba)
  have HK2 := Lib.hid hbk
  clear hbk hba eV eb2 HB2
  have HBA := Lib.hid (below_trans HBA.out HST.out)
  have HR1 := Lib.hid (HR1.out.below HST.out)
  have HK1 := Lib.hid (HK1.out.below HST.out)
  clear HST
  go_upto_region 4 with (go_at_call 30; refine (HC.out _).mono ?_; rintro e w3 ⟨A3, c3, rfl, hr, hb⟩; have HR3 := Lib.hid hr; have HB3 := Lib.hid hb; clear hr hb)
  have hbk := Blk.new w3 #[.int .i64 R1, .slice A3 l2.length c3] 43
  have hba := below_alloc w3 (.cells #[.int .i64 R1, .slice A3 l2.length c3] 43)
  obtain ⟨V3, eV⟩ : ∃ V, V = w3.alloc (.cells #[.int .i64 R1, .slice A3 l2.length c3] 43) := ⟨_, rfl⟩
  rw [← eV] at hbk hba ⊢
  obtain ⟨b3, eb3⟩ : ∃ b, b = w3.heap.size := ⟨_, rfl⟩
  rw [← eb3] at hbk ⊢
  have HST := Lib.hid (below_trans HB3.out hba)
  have HR3 := Lib.hid (HR3.out.below hba)
  have HK3 := Lib.hid hbk
  clear hbk hba eV eb3 HB3
  have HBA := Lib.hid (below_trans HBA.out HST.out)
  have HR1 := Lib.hid (HR1.out.below HST.out)
  have HK1 := Lib.hid (HK1.out.below HST.out)
  have HR2 := Lib.hid (HR2.out.below HST.out)
  have HK2 := Lib.hid (HK2.out.below HST.out)
  clear HST
  go_upto_region 5 with (go_at_call 31; refine (HD.out _).mono ?_; rintro e w4 ⟨A4, c4, rfl, hr, hb⟩; have HR4 := Lib.hid hr; have HB4 := Lib.hid hb; clear hr hb)
  have hbk := Blk.new w4 #[.int .i64 R1, .slice A4 l2.length c4] 43
  have hba := below_alloc w4 (.cells #[.int .i64 R1, .slice A4 l2.length c4] 43)
  obtain ⟨V4, eV⟩ : ∃ V, V = w4.alloc (.cells #[.int .i64 R1, .slice A4 l2.length c4] 43) := ⟨_, rfl⟩
  rw [← eV] at hbk hba ⊢
  obtain ⟨b4, eb4⟩ : ∃ b, b = w4.heap.size := ⟨_, rfl⟩
  rw [← eb4] at hbk ⊢
  have HST := Lib.hid (below_trans HB4.out hba)
  have HR4 := Lib.hid (HR4.out.below hba)
  have HK4 := Lib.hid hbk
  clear hbk hba eV eb4 HB4
  have HBA := Lib.hid (below_trans HBA.out HST.out)
  have HR1 := Lib.hid (HR1.out.below HST.out)
  have HK1 := Lib.hid (HK1.out.below HST.out)
  have HR2 := Lib.hid (HR2.out.below HST.out)
  have HK2 := Lib.hid (HK2.out.below HST.out)
  have HR3 := Lib.hid (HR3.out.below HST.out)
  have HK3 := Lib.hid (HK3.out.below HST.out)
  clear HST HA HB HC HD
  have HSE := Lib.hid (show ∀ (x : World) (A A' : Option Addr) (n c c' : Nat), Below V4.heap.size V4 x → ((A, n, c, A', c') = (A1, l1.length, c1, A2, c2) ∨ (A, n, c, A', c') = (A3, l2.length, c3, A4, c4)) → Calls Try.prog 32 #[.agg #[.int .i64 R1, .slice A n c], .agg #[.int .i64 R1, .slice A' n c']] x fun e w' => e = .returned (.bool true) ∧ Below V4.heap.size V4 w' from fun x A A' n c c' hx h => by
    rcases h with h | h
    · injection h with e1 h
      injection h with e2 h
      injection h with e3 h
      injection h with e4 e5
      subst e1 e2 e3 e4 e5
      exact (SameExchange_any R1 R1 _ _ _ _ _ _ _ _ _ _ _ _ x (HR1.out.below hx) (HR2.out.below hx) (by omega) true ⟨fun _ => samEx_refl _ _ _ _ _, fun _ => rfl⟩).mono fun e w' h => ⟨h.1, below_trans hx h.2⟩
    · injection h with e1 h
      injection h with e2 h
      injection h with e3 h
      injection h with e4 e5
      subst e1 e2 e3 e4 e5
      exact (SameExchange_any R1 R1 _ _ _ _ _ _ _ _ _ _ _ _ x (HR3.out.below hx) (HR4.out.below hx) (by omega) true ⟨fun _ => samEx_refl _ _ _ _ _, fun _ => rfl⟩).mono fun e w' h => ⟨h.1, below_trans hx h.2⟩)
  have a0 := HK1.out.cell (k := 0) rfl
  have a1 := HK1.out.cell (k := 1) rfl
  have q0 := HK2.out.cell (k := 0) rfl
  have q1 := HK2.out.cell (k := 1) rfl
  have hb0 : Below V4.heap.size V4 V4 := Below.refl _ V4
  go_wp2_with (first
    | (go_at_call 32; refine (HSE.out _ _ _ _ _ _ (by assumption) (by first | exact Or.inl rfl | exact Or.inr rfl)).mono ?_; rintro e w5 ⟨rfl, hb1⟩; clear hb0; have hb0 := hb1; clear hb1; (try clear a0 a1 q0 q1); have a0 := (HK3.out.below hb0).cell (k := 0) rfl; have a1 := (HK3.out.below hb0).cell (k := 1) rfl; have q0 := (HK4.out.below hb0).cell (k := 0) rfl; have q1 := (HK4.out.below hb0).cell (k := 1) rfl)
    | (go_at_call 13; refine (awake_any _).mono ?_; rintro e w6 ⟨rfl, hb1⟩; have HBA := Lib.hid (below_trans HBA.out (below_trans hb0 hb1)); clear hb1)
    | fail)
  go_ret
  exact ⟨rfl, HBA.out⟩
end Go.Proofs.Ytahaimecchdfeaa
