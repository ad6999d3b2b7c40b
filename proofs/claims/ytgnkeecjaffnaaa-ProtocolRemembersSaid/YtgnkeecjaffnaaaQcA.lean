/-
  Walks of package runs: the closures of Check, ContainsFunc over rows of ints and over uint64s.
-/
import Derived.Test.YtgnkeecjaffnaaaProg
import Derived.Test.YtgnkeecjaffnaaaBase
import Derived.Test.YtgnkeecjaffnaaaRow
import Derived.Test.YtgnkeecjaffnaaaRowsOf
import Derived.Test.YtgnkeecjaffnaaaPc
import Derived.Test.YtgnkeecjaffnaaaPoP
import Derived.Laws.EntriesVeiled
namespace Go.Proofs.Ytgnkeecjaffnaaa
open Go.RowKit

theorem ck1_any (A : Option Addr) (m c : Nat) (a : Int) (bs : Nat) (w : World) (hc : w.cell? ⟨bs, 0, none⟩ = some (.int .i64 a)) :
    Calls Try.prog 64 #[.slice A m c, .pointer (some ⟨bs, 0, none⟩)] w fun e w' => e = .returned (.bool ((m : Int) != a)) ∧ w = w' := by
  go_enter Try.func64, Try.ntmps64
  go_wp2_with fail
  go_ret
  exact ⟨rfl, rfl⟩
theorem shr_zero (F f : Nat) (hf : f ≤ 64) : (((F : Int) / 2 ^ min f 64) != 0) = decide (2 ^ f ≤ F) := by
  rw [Nat.min_eq_left hf, natCast_shr]
  have h2 : 0 < 2 ^ f := Nat.two_pow_pos f
  rw [Bool.eq_iff_iff, bne_iff_ne, decide_eq_true_eq]
  by_cases h : 2 ^ f ≤ F
  · have := Nat.div_pos h h2
    constructor
    · exact fun _ => h
    · intro _ e; omega
  · have : F / 2 ^ f = 0 := Nat.div_eq_of_lt (by omega)
    rw [this]
    constructor
    · intro e; exact absurd rfl e
    · intro e; exact absurd e h
theorem ck2_any (F f : Nat) (bs : Nat) (w : World) (hf : f ≤ 8) (hc : w.cell? ⟨bs, 1, none⟩ = some (.int .i64 f)) :
    Calls Try.prog 66 #[.int .u64 F, .pointer (some ⟨bs, 0, none⟩)] w fun e w' => e = .returned (.bool (decide (2 ^ f ≤ F))) ∧ w = w' := by
  have h1 := shr_zero F f (by omega)
  rw [Nat.min_eq_left (by omega)] at h1
  have H1 := Lib.hid h1
  clear h1
  go_enter Try.func66, Try.ntmps66
  go_wp2_with fail
  go_ret
  exact ⟨by rw [← H1.out]; rfl, rfl⟩
/-! ### ContainsFunc: by the first element for which it holds -/
def idxP (n : Nat) (p : Nat → Bool) : Int := if firstNo n (fun v => !p v) < n then (firstNo n (fun v => !p v) : Nat) else -1
theorem idxP_hit {n v : Nat} {p : Nat → Bool} (hv : v < n) (h : ∀ i, i < v → p i = false) (hb : p v = true) : idxP n p = (v : Int) := by
  have e := firstNo_hit (p := fun v => !p v) hv (fun i hi => by simp [h i hi]) (by simp [hb])
  unfold idxP; rw [e, if_pos hv]
theorem idxP_none {n : Nat} {p : Nat → Bool} (h : ∀ i, i < n → p i = false) : idxP n p = -1 := by
  have e := firstNo_all (p := fun v => !p v) (n := n) (fun i hi => by simp [h i hi])
  unfold idxP; rw [e, if_neg (Nat.lt_irrefl _)]
theorem idxP_ge (n : Nat) (p : Nat → Bool) : decide (0 ≤ idxP n p) = !allB n (fun v => !p v) := by
  cases ha : allB n (fun v => !p v)
  · obtain ⟨u, hu, hf⟩ := not_allB ha
    obtain ⟨i1, i2, i3⟩ := firstNo_spec n (fun v => !p v)
    have : firstNo n (fun v => !p v) < n := by
      rcases Nat.lt_or_ge (firstNo n (fun v => !p v)) n with h1 | h1
      · exact h1
      · have := i2 u (by omega); rw [hf] at this; cases this
    unfold idxP; rw [if_pos this]; simp
  · rw [idxP_none fun i hi => by simpa using allB_iff.1 ha i hi]; rfl
theorem ckIdx1_any (A : Option Addr) (n c : Nat) (R : Nat → Option Addr) (m cc : Nat → Nat) (L : Nat → Nat → Int) (a : Int) (bs : Nat) (w : World) (hT : MatI w A n R m cc L) (hn : n ≤ 9223372036854775807) (hc : w.cell? ⟨bs, 0, none⟩ = some (.int .i64 a)) :
    Calls Try.prog 78 #[.slice A n c, .func (.func 64) #[] #[.pointer (some ⟨bs, 0, none⟩)]] w fun e w' => e = .returned (.int .i64 (idxP n (fun t => (m t : Int) != a))) ∧ w = w' := by
  have HT := Lib.hid hT
  have HCL := Lib.hid (fun A m c => ck1_any A m c a bs w hc)
  clear hT hc
  go_enter Try.func78, Try.ntmps78
  go_wp2
  go_loop [8] (fun i => ∃ v : Nat, v ≤ n ∧ i = .int .i64 v ∧ Hid (∀ i, i < v → ((m i : Int) != a) = false)) (fun i => n - (intOf i).toNat)
  case atStart => exact ⟨0, Nat.zero_le _, rfl, Lib.hid fun i h => absurd h (Nat.not_lt_zero _)⟩
  case round =>
    obtain ⟨v, hv, rfl, HF⟩ := hrel
    by_cases hlt : v < n
    · obtain ⟨b, off, rfl, c1, hm1, -⟩ := HT.out v hlt
      obtain ⟨x, ex⟩ : ∃ x, x = m v := ⟨_, rfl⟩
      rw [← ex] at c1 hm1
      obtain ⟨R1, eR1⟩ : ∃ x, x = R v := ⟨_, rfl⟩
      obtain ⟨k1, ek1⟩ : ∃ x, x = cc v := ⟨_, rfl⟩
      rw [← eR1, ← ek1] at c1
      have HC1 := Lib.hid (HCL.out R1 x k1)
      have EX := Lib.hid ex
      clear ex eR1 ek1
      cases hb : ((x : Int) != a)
      · rw [hb] at HC1
        have HF2 : Hid (∀ i, i < v + 1 → ((m i : Int) != a) = false) := Lib.hid fun i h => by
          rcases Nat.lt_succ_iff_lt_or_eq.1 h with h3 | rfl
          · exact HF.out i h3
          · rw [← EX.out]; exact hb
        clear hb
        go_wp2_with (go_at_call 64; refine (HC1.out).mono ?_; rintro e w' ⟨rfl, rfl⟩)
        go_round
        case rel => exact ⟨v + 1, by omega, by go_num, HF2⟩
        case measure => simp [intOf]; omega
      · rw [hb] at HC1
        have HI := Lib.hid (idxP_hit (p := fun t => (m t : Int) != a) hlt HF.out (by rw [← EX.out]; exact hb))
        clear hb
        go_wp2_with (go_at_call 64; refine (HC1.out).mono ?_; rintro e w' ⟨rfl, rfl⟩)
        go_ret
        exact ⟨by rw [HI.out]; rfl, rfl⟩
    · obtain rfl : v = n := by omega
      have HI := Lib.hid (idxP_none (p := fun t => (m t : Int) != a) HF.out)
      go_wp2
      go_ret
      exact ⟨by rw [HI.out]; rfl, rfl⟩
theorem ckCon1_any (A : Option Addr) (n c : Nat) (R : Nat → Option Addr) (m cc : Nat → Nat) (L : Nat → Nat → Int) (a : Int) (bs : Nat) (w : World) (hT : MatI w A n R m cc L) (hn : n ≤ 9223372036854775807) (hc : w.cell? ⟨bs, 0, none⟩ = some (.int .i64 a)) :
    Calls Try.prog 63 #[.slice A n c, .func (.func 64) #[] #[.pointer (some ⟨bs, 0, none⟩)]] w fun e w' => e = .returned (.bool (!allB n (fun t => !((m t : Int) != a)))) ∧ w = w' := by
  have HE := Lib.hid (idxP_ge n (fun t => (m t : Int) != a))
  have HI := Lib.hid (ckIdx1_any A n c R m cc L a bs w hT hn hc)
  clear hT hc
  go_enter Try.func63, Try.ntmps63
  go_wp2_with (go_at_call 78; refine (HI.out).mono ?_; rintro e w' ⟨rfl, rfl⟩)
  go_ret
  exact ⟨by rw [← HE.out]; rfl, rfl⟩
theorem ckIdx2_any (A : Option Addr) (n c : Nat) (F : Nat → Nat) (f bs : Nat) (w : World) (hT : U64s w A n F) (hn : n ≤ 9223372036854775807) (hf : f ≤ 8) (hc : w.cell? ⟨bs, 1, none⟩ = some (.int .i64 f)) :
    Calls Try.prog 79 #[.slice A n c, .func (.func 66) #[] #[.pointer (some ⟨bs, 0, none⟩)]] w fun e w' => e = .returned (.int .i64 (idxP n (fun t => decide (2 ^ f ≤ F t)))) ∧ w = w' := by
  have HT := Lib.hid hT
  have HCL := Lib.hid (fun F => ck2_any F f bs w hf hc)
  clear hT hc
  go_enter Try.func79, Try.ntmps79
  go_wp2
  go_loop [8] (fun i => ∃ v : Nat, v ≤ n ∧ i = .int .i64 v ∧ Hid (∀ i, i < v → decide (2 ^ f ≤ F i) = false)) (fun i => n - (intOf i).toNat)
  case atStart => exact ⟨0, Nat.zero_le _, rfl, Lib.hid fun i h => absurd h (Nat.not_lt_zero _)⟩
  case round =>
    obtain ⟨v, hv, rfl, HF⟩ := hrel
    by_cases hlt : v < n
    · obtain ⟨b, off, rfl, c1, hm1⟩ := HT.out v hlt
      obtain ⟨x, ex⟩ : ∃ x, x = F v := ⟨_, rfl⟩
      rw [← ex] at c1 hm1
      have HC1 := Lib.hid (HCL.out x)
      have EX := Lib.hid ex
      clear ex
      cases hb : decide (2 ^ f ≤ x)
      · rw [hb] at HC1
        have HF2 : Hid (∀ i, i < v + 1 → decide (2 ^ f ≤ F i) = false) := Lib.hid fun i h => by
          rcases Nat.lt_succ_iff_lt_or_eq.1 h with h3 | rfl
          · exact HF.out i h3
          · rw [← EX.out]; exact hb
        clear hb
        go_wp2_with (go_at_call 66; refine (HC1.out).mono ?_; rintro e w' ⟨rfl, rfl⟩)
        go_round
        case rel => exact ⟨v + 1, by omega, by go_num, HF2⟩
        case measure => simp [intOf]; omega
      · rw [hb] at HC1
        have HI := Lib.hid (idxP_hit (p := fun t => decide (2 ^ f ≤ F t)) hlt HF.out (by rw [← EX.out]; exact hb))
        clear hb
        go_wp2_with (go_at_call 66; refine (HC1.out).mono ?_; rintro e w' ⟨rfl, rfl⟩)
        go_ret
        exact ⟨by rw [HI.out]; rfl, rfl⟩
    · obtain rfl : v = n := by omega
      have HI := Lib.hid (idxP_none (p := fun t => decide (2 ^ f ≤ F t)) HF.out)
      go_wp2
      go_ret
      exact ⟨by rw [HI.out]; rfl, rfl⟩
theorem ckCon2_any (A : Option Addr) (n c : Nat) (F : Nat → Nat) (f bs : Nat) (w : World) (hT : U64s w A n F) (hn : n ≤ 9223372036854775807) (hf : f ≤ 8) (hc : w.cell? ⟨bs, 1, none⟩ = some (.int .i64 f)) :
    Calls Try.prog 65 #[.slice A n c, .func (.func 66) #[] #[.pointer (some ⟨bs, 0, none⟩)]] w fun e w' => e = .returned (.bool (!allB n (fun t => !decide (2 ^ f ≤ F t)))) ∧ w = w' := by
  have HE := Lib.hid (idxP_ge n (fun t => decide (2 ^ f ≤ F t)))
  have HI := Lib.hid (ckIdx2_any A n c F f bs w hT hn hf hc)
  clear hT hc
  go_enter Try.func65, Try.ntmps65
  go_wp2_with (go_at_call 79; refine (HI.out).mono ?_; rintro e w' ⟨rfl, rfl⟩)
  go_ret
  exact ⟨by rw [← HE.out]; rfl, rfl⟩
end Go.Proofs.Ytgnkeecjaffnaaa
