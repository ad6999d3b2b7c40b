/-
  Texts of this claim, one after the other: what each proves is said at its head. No condition beyond those that its theorems name.
-/
import Derived.Test.YtahaimecchdfeaaProg
import Derived.Deep.DeepCutAuto
import Derived.Deep.RegionHeld3
import Derived.Deep.AppendLies
import Derived.Test.YtahaimecchdfeaaG01
import Derived.Test.YtahaimecchdfeaaG02
import Derived.Test.YtahaimecchdfeaaG06
import Derived.Test.YtahaimecchdfeaaG09
import Derived.Test.YtahaimecchdfeaaG15
import Derived.Test.YtahaimecchdfeaaG17
import Derived.Test.YtahaimecchdfeaaG18
import Derived.Test.YtahaimecchdfeaaG20
import Derived.Test.YtahaimecchdfeaaG22
import Derived.Test.YtahaimecchdfeaaG36

/-
  Walk: the reference's Check of a system.
-/
namespace Go.Proofs.Ytahaimecchdfeaa
open Go.RowKit

theorem frm_parts {a l : Int} {T : Nat} {m : Nat → Nat} {K : Nat} : frmB a l T m K = true ↔ (T : Int) = l ∧ (K : Int) = l ∧ ∀ t, t < T → (m t : Int) = a := by
  unfold frmB
  rw [Bool.and_eq_true, Bool.and_eq_true, allB_iff]
  constructor
  · rintro ⟨⟨h1, h2⟩, h3⟩
    exact ⟨by simpa using h1, by simpa using h2, fun t ht => by simpa using h3 t ht⟩
  · rintro ⟨h1, h2, h3⟩
    exact ⟨⟨by simpa using h1, by simpa using h2⟩, fun t ht => by simpa using h3 t ht⟩
theorem frm_not {a l : Int} {T : Nat} {m : Nat → Nat} {K : Nat} (h : ¬ ((T : Int) = l ∧ (K : Int) = l ∧ ∀ t, t < T → (m t : Int) = a)) : frmB a l T m K = false := Bool.eq_false_iff.2 fun hc => h (frm_parts.1 hc)
theorem facB_not {f : Int} {K : Nat} {F : Nat → Nat} {t : Nat} (ht : t < K) (h : 2 ^ f.toNat ≤ F t) : facB f K F = false := Bool.eq_false_iff.2 fun hc => by
  have := allB_iff.1 hc t ht
  rw [decide_eq_true h] at this
  cases this
theorem facB_yes {f : Int} {K : Nat} {F : Nat → Nat} (h : ∀ t, t < K → ¬ 2 ^ f.toNat ≤ F t) : facB f K F = true := allB_iff.2 fun t ht => by rw [decide_eq_false (h t ht)]; rfl
theorem rshr_zero (Z f : Nat) : ((Z : Int) / 2 ^ f != 0) = decide (2 ^ f ≤ Z) := by
  have e : ((Z : Int) / 2 ^ f) = ((Z / 2 ^ f : Nat) : Int) := by rw [Int.natCast_ediv, Int.natCast_pow]; rfl
  rw [e, Bool.eq_iff_iff, bne_iff_ne, decide_eq_true_eq]
  have hp : 0 < 2 ^ f := Nat.two_pow_pos f
  constructor
  · intro h
    by_cases hc : 2 ^ f ≤ Z
    · exact hc
    · exact absurd (by rw [Nat.div_eq_of_lt (by omega)]; rfl) h
  · intro h hc
    have : 0 < Z / 2 ^ f := Nat.div_pos h hp
    omega
set_option maxHeartbeats 4000000 in
set_option maxRecDepth 100000 in
theorem refCheck_any (x : Value) (a f l : Int) (n : Nat) (T : Nat → Nat) (m : Nat → Nat → Nat) (L : Nat → Nat → Nat → Int) (K : Nat → Nat) (F : Nat → Nat → Nat) (w : World) (h : SysR w x a f l n T m L K F) (hn : n ≤ 65536) :
    Calls Try.prog 43 #[x] w fun e w' => e = .returned (.int .i64 (chkE a f l n T m K F : Nat)) ∧ Below w.heap.size w w' := by
  obtain ⟨A, c, rfl, hR⟩ := h
  obtain ⟨V, eV⟩ : ∃ V, V = chkE a f l n T m K F := ⟨_, rfl⟩
  rw [← eV]
  have HVV := Lib.hid eV
  clear eV
  have HR := Lib.hid hR
  have HB := Lib.hid (below_alloc w (.cells #[.int .i64 a, .int .i64 f, .int .i64 l, .slice A n c] 24))
  have hbk := Blk.new w #[.int .i64 a, .int .i64 f, .int .i64 l, .slice A n c] 24
  have g0 := hbk.cell (k := 0) rfl
  have g1 := hbk.cell (k := 1) rfl
  have g2 := hbk.cell (k := 2) rfl
  have g3 := hbk.cell (k := 3) rfl
  clear hR hbk
  go_enter Try.func43, Try.ntmps43
  go_upto_region 1 with (fail)
  obtain ⟨W, hW⟩ : ∃ W, W = w.alloc (.cells #[.int .i64 a, .int .i64 f, .int .i64 l, .slice A n c] 24) := ⟨_, rfl⟩
  rw [← hW] at HB g0 g1 g2 g3 ⊢
  clear hW
  obtain ⟨bs, ebs⟩ : ∃ b, b = w.heap.size := ⟨_, rfl⟩
  have d0 : W.cell? ⟨bs, 0, none⟩ = some (.int .i64 a) := by rw [ebs]; exact g0
  have d1 : W.cell? ⟨bs, 1, none⟩ = some (.int .i64 f) := by rw [ebs]; exact g1
  have d2 : W.cell? ⟨bs, 2, none⟩ = some (.int .i64 l) := by rw [ebs]; exact g2
  have d3 : W.cell? ⟨bs, 3, none⟩ = some (.slice A n c) := by rw [ebs]; exact g3
  rw [← ebs]
  clear ebs g0 g1 g2 g3
  by_cases a1 : a < 0
  · have e1 : decide (a < 0) = true := decide_eq_true a1
    have HE := Lib.hid (show V = 2 from HVV.out.trans (if_neg (by omega)))
    clear a1
    go_wp2_with fail
    go_ret
    exact ⟨by rw [HE.out]; rfl, HB.out⟩
  have e1 : decide (a < 0) = false := decide_eq_false a1
  by_cases a2 : 4 < a
  · have e2 : decide (4 < a) = true := decide_eq_true a2
    have HE := Lib.hid (show V = 2 from HVV.out.trans (if_neg (by omega)))
    clear a1 a2
    go_wp2_with fail
    go_ret
    exact ⟨by rw [HE.out]; rfl, HB.out⟩
  have e2 : decide (4 < a) = false := decide_eq_false a2
  by_cases a3 : f < 0
  · have e3 : decide (f < 0) = true := decide_eq_true a3
    have HE := Lib.hid (show V = 2 from HVV.out.trans (if_neg (by omega)))
    clear a1 a2 a3
    go_wp2_with fail
    go_ret
    exact ⟨by rw [HE.out]; rfl, HB.out⟩
  have e3 : decide (f < 0) = false := decide_eq_false a3
  by_cases a4 : 8 < f
  · have e4 : decide (8 < f) = true := decide_eq_true a4
    have HE := Lib.hid (show V = 2 from HVV.out.trans (if_neg (by omega)))
    clear a1 a2 a3 a4
    go_wp2_with fail
    go_ret
    exact ⟨by rw [HE.out]; rfl, HB.out⟩
  have e4 : decide (8 < f) = false := decide_eq_false a4
  by_cases a5 : l < 1
  · have e5 : decide (l < 1) = true := decide_eq_true a5
    have HE := Lib.hid (show V = 2 from HVV.out.trans (if_neg (by omega)))
    clear a1 a2 a3 a4 a5
    go_wp2_with fail
    go_ret
    exact ⟨by rw [HE.out]; rfl, HB.out⟩
  have e5 : decide (l < 1) = false := decide_eq_false a5
  by_cases a6 : 16 < l
  · have e6 : decide (16 < l) = true := decide_eq_true a6
    have HE := Lib.hid (show V = 2 from HVV.out.trans (if_neg (by omega)))
    clear a1 a2 a3 a4 a5 a6
    go_wp2_with fail
    go_ret
    exact ⟨by rw [HE.out]; rfl, HB.out⟩
  have e6 : decide (16 < l) = false := decide_eq_false a6
  obtain ⟨f', rfl⟩ : ∃ N : Nat, f = N := ⟨f.toNat, by omega⟩
  obtain ⟨l', rfl⟩ : ∃ N : Nat, l = N := ⟨l.toNat, by omega⟩
  obtain ⟨a', rfl⟩ : ∃ N : Nat, a = N := ⟨a.toNat, by omega⟩
  have hE0 : chkE a' f' l' n T m K F = if 64 < (n : Int) ∨ 512 < (n : Int) * (l' : Int) then 8 else if n = 0 then 3 else if allB n (fun i => frmB a' l' (T i) (m i) (K i)) then (if allB n (fun i => facB f' (K i) (F i)) then 0 else 2) else 3 := if_pos (by omega)
  have hf8 : f' ≤ 8 := by omega
  have hl16 : l' ≤ 16 := by omega
  have e2n : decide (4 < a') = false := decide_eq_false (by omega)
  have e4n : decide (8 < f') = false := decide_eq_false (by omega)
  have e5n : decide (l' < 1) = false := decide_eq_false (by omega)
  have e6n : decide (16 < l') = false := decide_eq_false (by omega)
  clear a1 a2 a3 a4 a5 a6
  rw [← HVV.out] at hE0
  clear HVV
  by_cases h64 : 64 < (n : Int)
  · have t1 : decide ((64 : Int) < (n : Int)) = true := decide_eq_true h64
    have HE := Lib.hid (show V = 8 by rw [hE0, if_pos (by omega)])
    clear hE0 h64
    go_wp2_with fail
    go_ret
    exact ⟨by rw [HE.out]; rfl, HB.out⟩
  have t1 : decide ((64 : Int) < (n : Int)) = false := decide_eq_false h64
  have hnl : (n : Int) * (l' : Int) ≤ 64 * 16 := Int.mul_le_mul (by omega) (by omega) (by omega) (by omega)
  have hnl0 : 0 ≤ (n : Int) * (l' : Int) := Int.mul_nonneg (by omega) (by omega)
  have hw : IntKind.i64.wrap ((n : Int) * (l' : Int)) = (n : Int) * (l' : Int) := by rw [IntKind.wrap_i64]; omega
  by_cases h512 : 512 < (n : Int) * (l' : Int)
  · have t2 : decide ((512 : Int) < (n : Int) * (l' : Int)) = true := decide_eq_true h512
    have HE := Lib.hid (show V = 8 by rw [hE0, if_pos (by omega)])
    clear hE0 h64 h512 hnl hnl0
    go_wp2_with fail
    go_ret
    exact ⟨by rw [HE.out]; rfl, HB.out⟩
  have t2 : decide ((512 : Int) < (n : Int) * (l' : Int)) = false := decide_eq_false h512
  rw [if_neg (by omega)] at hE0
  by_cases h0 : n = 0
  · subst h0
    have t3 : ((((0 : Nat) : Int)) == 0) = true := rfl
    have HE := Lib.hid (show V = 3 by rw [hE0, if_pos rfl])
    clear hE0 h64 h512 hnl hnl0
    go_wp2_with fail
    go_ret
    exact ⟨by rw [HE.out]; rfl, HB.out⟩
  have t3 : ((n : Int) == 0) = false := by rw [beq_eq_false_iff_ne]; omega
  rw [if_neg h0] at hE0
  have HF1 : Hid (∀ i, i < n → frmB a' l' (T i) (m i) (K i) = false → V = 3) := Lib.hid fun i hi hf => by
    rw [hE0, if_neg]
    intro hc
    have := allB_iff.1 hc i hi
    rw [hf] at this
    cases this
  have HF2 : Hid ((∀ i, i < n → frmB a' l' (T i) (m i) (K i) = true) → ∀ i, i < n → facB f' (K i) (F i) = false → V = 2) := Lib.hid fun h i hi hf => by
    rw [hE0, if_pos (allB_iff.2 h), if_neg]
    intro hc
    have := allB_iff.1 hc i hi
    rw [hf] at this
    cases this
  have HF3 : Hid ((∀ i, i < n → frmB a' l' (T i) (m i) (K i) = true) → (∀ i, i < n → facB f' (K i) (F i) = true) → V = 0) := Lib.hid fun h h2 => by
    rw [hE0, if_pos (allB_iff.2 h), if_pos (allB_iff.2 h2)]
  obtain ⟨g4, o4, rfl⟩ : ∃ g o, A = some ⟨g, o, none⟩ := by
    obtain ⟨g, o, _, _, e, -⟩ := HR.out 0 (by omega)
    exact ⟨g, o, e⟩
  have HR := Lib.hid (HR.out.below HB.out)
  have hn64 : n ≤ 64 := by omega
  have D0 := Lib.hid d0
  have D1 := Lib.hid d1
  have D2 := Lib.hid d2
  have D3 := Lib.hid d3
  clear hE0 h64 h512 hnl hnl0 h0
  go_wp2_with fail
  clear d0 d1 d2 d3 e1 e2 e3 e4 e5 e6 e2n e4n e5n e6n t1 t2 t3 hw
  go_loopw [3] (fun iv wr => ∃ i : Nat, i ≤ n ∧ iv = .int .i64 i ∧ Hid (∀ k, k < i → frmB a' l' (T k) (m k) (K k) = true) ∧ Below W.heap.size W wr) (fun iv _ => n - (intOf iv).toNat)
  case atStart => exact ⟨0, Nat.zero_le _, rfl, Lib.hid fun u hu => absurd hu (Nat.not_lt_zero _), Below.refl _ _⟩
  case round =>
    obtain ⟨i, hi, rfl, HI, hbl⟩ := hrel
    have HBL := Lib.hid hbl
    have d3 := cell_below hbl D3.out
    by_cases hlt : i < n
    · obtain ⟨Ax, cx, Bx, dx, y0, y1, ⟨R, cc, hM⟩, hU⟩ := runs_at (HR.out.below hbl) hlt
      have d2 := cell_below hbl D2.out
      have hin : (i : Int) < (n : Int) := by omega
      have HFI := Lib.hid (HF1.out i hlt)
      have HFN : Hid (frmB a' l' (T i) (m i) (K i) = true → ∀ k, k < i + 1 → frmB a' l' (T k) (m k) (K k) = true) := Lib.hid fun h k hk => by
        rcases Nat.lt_succ_iff_lt_or_eq.1 hk with h1 | rfl
        · exact HI.out k h1
        · exact h
      have HMI : Hid (∀ (z : World), Below W.heap.size W z → ∃ Ay cy R cc, z.cell? ⟨g4, o4 + i * 2, none⟩ = some (.slice Ay (T i) cy) ∧ MatI z Ay (T i) R (m i) cc (L i)) := Lib.hid fun z hz => by
        obtain ⟨Ax, cx, Bx, dx, y0, y1, ⟨R, cc, hM⟩, hU⟩ := runs_at (HR.out.below hz) hlt
        exact ⟨Ax, cx, R, cc, y0, hM⟩
      clear hM hU HI
      obtain ⟨TX, eTX⟩ : ∃ q, q = T i := ⟨_, rfl⟩
      obtain ⟨KX, eKX⟩ : ∃ q, q = K i := ⟨_, rfl⟩
      obtain ⟨mX, emX⟩ : ∃ q, q = m i := ⟨_, rfl⟩
      rw [← eTX, ← eKX, ← emX] at HFI HFN
      rw [← eTX, ← emX] at HMI
      rw [← eTX] at y0
      rw [← eKX] at y1
      clear eTX eKX emX hbl
      by_cases hT : TX = l'
      case neg =>
        have u1 : ((TX : Int) != (l' : Int)) = true := by rw [bne_iff_ne]; omega
        have HV := Lib.hid (HFI.out (frm_not fun h => hT (by omega)))
        clear hT HFI HFN HMI
        go_wp2_with fail
        go_quiet (fail)
        go_wp2_with fail
        go_ret
        exact ⟨by rw [HV.out]; rfl, below_trans HB.out (below_drewN HBL.out _)⟩
      have u1 : ((TX : Int) != (l' : Int)) = false := by rw [bne_eq_false_iff_eq]; omega
      by_cases hK : KX = l'
      case neg =>
        have u2 : ((KX : Int) != (l' : Int)) = true := by rw [bne_iff_ne]; omega
        have HV := Lib.hid (HFI.out (frm_not fun h => hK (by omega)))
        clear hT hK HFI HFN HMI
        go_wp2_with fail
        go_quiet (fail)
        go_wp2_with fail
        go_ret
        exact ⟨by rw [HV.out]; rfl, below_trans HB.out (below_drewN HBL.out _)⟩
      have u2 : ((KX : Int) != (l' : Int)) = false := by rw [bne_eq_false_iff_eq]; omega
      have HT := Lib.hid hT
      have HK := Lib.hid hK
      clear hT hK
      go_wp2_with fail
      go_quiet (fail)
      go_wp2_with fail
      clear d2 d3 y0 y1 u1 u2
      generalize hwz : World.drewN _ _ = wq
      have HBL : Hid (Below W.heap.size W wq) := Lib.hid (by rw [← hwz]; exact below_drewN HBL.out _)
      clear hwz
      go_loopw [4] (fun jv wz => ∃ j : Nat, j ≤ l' ∧ jv = .int .i64 j ∧ Hid (∀ t, t < j → (mX t : Int) = (a' : Int)) ∧ Below W.heap.size W wz) (fun jv _ => l' - (intOf jv).toNat)
      case atStart => exact ⟨0, Nat.zero_le _, rfl, Lib.hid fun u hu => absurd hu (Nat.not_lt_zero _), HBL.out⟩
      case round =>
        clear HBL
        obtain ⟨j, hj, rfl, HJ, hbl⟩ := hrel
        have HBL := Lib.hid hbl
        have d2 := cell_below hbl D2.out
        by_cases hjl : j < l'
        · have d3 := cell_below hbl D3.out
          have d0 := cell_below hbl D0.out
          obtain ⟨Ay, cy, R, cc, y0, hM⟩ := HMI.out _ hbl
          obtain ⟨gx, ox, rfl, z0, -, -⟩ := hM j (by rw [HT.out]; exact hjl)
          have hjn : (j : Int) < (l' : Int) := by omega
          have hjT : (j : Int) < (TX : Int) := by rw [HT.out]; omega
          obtain ⟨MJ, eMJ⟩ : ∃ q, q = mX j := ⟨_, rfl⟩
          rw [← eMJ] at z0
          by_cases hm : MJ = a'
          · have u3 : ((MJ : Int) != (a' : Int)) = false := by rw [bne_eq_false_iff_eq]; omega
            have HJ2 : Hid (∀ t, t < j + 1 → (mX t : Int) = (a' : Int)) := Lib.hid fun t ht => by
              rcases Nat.lt_succ_iff_lt_or_eq.1 ht with h1 | rfl
              · exact HJ.out t h1
              · rw [← eMJ, hm]
            clear hm eMJ hM hbl HJ
            go_wp2_with fail
            go_quiet (fail)
            go_wp2_with fail
            go_roundw
            case rel => exact ⟨j + 1, by omega, by go_num, HJ2, below_drewN HBL.out _⟩
            case measure => simp [intOf]; omega
          · have u3 : ((MJ : Int) != (a' : Int)) = true := by rw [bne_iff_ne]; omega
            have HV := Lib.hid (HFI.out (frm_not fun h => hm (by have := h.2.2 j (by rw [HT.out]; exact hjl); rw [← eMJ] at this; omega)))
            clear hm eMJ hM hbl HJ
            go_wp2_with fail
            go_quiet (fail)
            go_wp2_with fail
            go_ret
            exact ⟨by rw [HV.out]; rfl, below_trans HB.out (below_drewN HBL.out _)⟩
        · obtain rfl : j = l' := by omega
          have hjn : ¬ (j : Int) < (j : Int) := by omega
          have HI2 := Lib.hid (HFN.out (frm_parts.2 ⟨by rw [HT.out], by rw [HK.out], fun t ht => HJ.out t (by rw [← HT.out]; exact ht)⟩))
          clear hbl HJ
          go_wp2_with fail
          go_roundw
          case rel => exact ⟨i + 1, by omega, by go_num, HI2, HBL.out⟩
          case measure => simp [intOf]; omega
    · obtain rfl : i = n := by omega
      have hii : ¬ (i : Int) < (i : Int) := by omega
      have HF3 := Lib.hid (HF3.out HI.out)
      have HF2 := Lib.hid (HF2.out HI.out)
      have HFK : Hid (∀ k, k < i → K k = l') := Lib.hid fun k hk => by have := (frm_parts.1 (HI.out k hk)).2.1; omega
      clear hbl HF1 HI
      go_wp2_with fail
      clear d3 hii
      go_loopw [5] (fun kv wz => ∃ k : Nat, k ≤ i ∧ kv = .int .i64 k ∧ Hid (∀ q, q < k → facB f' (K q) (F q) = true) ∧ Below W.heap.size W wz) (fun kv _ => i - (intOf kv).toNat)
      case atStart => exact ⟨0, Nat.zero_le _, rfl, Lib.hid fun u hu => absurd hu (Nat.not_lt_zero _), HBL.out⟩
      case round =>
        clear HBL
        obtain ⟨k, hk, rfl, HI, hbl⟩ := hrel
        have HBL := Lib.hid hbl
        have d3 := cell_below hbl D3.out
        by_cases hlt : k < i
        · have hin : (k : Int) < (i : Int) := by omega
          have HFI := Lib.hid (HF2.out k hlt)
          have HFN : Hid (facB f' (K k) (F k) = true → ∀ q, q < k + 1 → facB f' (K q) (F q) = true) := Lib.hid fun h q hq => by
            rcases Nat.lt_succ_iff_lt_or_eq.1 hq with h1 | rfl
            · exact HI.out q h1
            · exact h
          have HUI : Hid (∀ (z : World), Below W.heap.size W z → ∃ By dy, z.cell? ⟨g4, o4 + k * 2 + 1, none⟩ = some (.slice By (K k) dy) ∧ U64s z By (K k) (F k)) := Lib.hid fun z hz => by
            obtain ⟨Ax, cx, Bx, dx, y0, y1, ⟨R, cc, hM⟩, hU⟩ := runs_at (HR.out.below hz) hlt
            exact ⟨Bx, dx, y1, hU⟩
          have HKX := Lib.hid (HFK.out k hlt)
          obtain ⟨KX, eKX⟩ : ∃ q, q = K k := ⟨_, rfl⟩
          obtain ⟨FX, eFX⟩ : ∃ q, q = F k := ⟨_, rfl⟩
          rw [← eKX, ← eFX] at HFI HFN HUI
          rw [← eKX] at HKX
          clear eKX eFX hbl HI
          go_wp2_with fail
          clear d3
          go_loopw [6] (fun jv wz => ∃ j : Nat, j ≤ l' ∧ jv = .int .i64 j ∧ Hid (∀ t, t < j → ¬ 2 ^ f' ≤ FX t) ∧ Below W.heap.size W wz) (fun jv _ => l' - (intOf jv).toNat)
          case atStart => exact ⟨0, Nat.zero_le _, rfl, Lib.hid fun u hu => absurd hu (Nat.not_lt_zero _), HBL.out⟩
          case round =>
            clear HBL
            obtain ⟨j, hj, rfl, HJ, hbl⟩ := hrel
            have HBL := Lib.hid hbl
            have d2 := cell_below hbl D2.out
            by_cases hjl : j < l'
            · have d3 := cell_below hbl D3.out
              have d1 := cell_below hbl D1.out
              obtain ⟨By, dy, y1, hU⟩ := HUI.out _ hbl
              obtain ⟨gx, ox, rfl, z0, hz0⟩ := hU j (by rw [HKX.out]; exact hjl)
              have hjn : (j : Int) < (l' : Int) := by omega
              have hjT : (j : Int) < (KX : Int) := by rw [HKX.out]; omega
              obtain ⟨Z, eZ⟩ : ∃ q, q = FX j := ⟨_, rfl⟩
              rw [← eZ] at z0 hz0
              have hsh := rshr_zero Z f'
              by_cases hm : 2 ^ f' ≤ Z
              · rw [decide_eq_true hm] at hsh
                have HV := Lib.hid (HFI.out (facB_not (t := j) (by rw [HKX.out]; exact hjl) (by rw [← eZ]; exact hm)))
                clear hm eZ hU hbl HJ
                go_wp2_with fail
                go_quiet (fail)
                go_wp2_with fail
                go_ret
                exact ⟨by rw [HV.out]; rfl, below_trans HB.out (below_drewN HBL.out _)⟩
              · rw [decide_eq_false hm] at hsh
                have HJ2 : Hid (∀ t, t < j + 1 → ¬ 2 ^ f' ≤ FX t) := Lib.hid fun t ht => by
                  rcases Nat.lt_succ_iff_lt_or_eq.1 ht with h1 | rfl
                  · exact HJ.out t h1
                  · rw [← eZ]; exact hm
                clear hm eZ hU hbl HJ
                go_wp2_with fail
                go_quiet (fail)
                go_wp2_with fail
                go_roundw
                case rel => exact ⟨j + 1, by omega, by go_num, HJ2, below_drewN HBL.out _⟩
                case measure => simp [intOf]; omega
            · obtain rfl : j = l' := by omega
              have hjn : ¬ (j : Int) < (j : Int) := by omega
              have HI2 := Lib.hid (HFN.out (facB_yes fun t ht => HJ.out t (by rw [← HKX.out]; exact ht)))
              clear hbl HJ
              go_wp2_with fail
              go_roundw
              case rel => exact ⟨k + 1, by omega, by go_num, HI2, HBL.out⟩
              case measure => simp [intOf]; omega
        · obtain rfl : k = i := by omega
          have hii : ¬ (k : Int) < (k : Int) := by omega
          have HV := Lib.hid (HF3.out HI.out)
          clear hbl HI
          go_wp2_with fail
          go_ret
          exact ⟨by rw [HV.out]; rfl, below_trans HB.out HBL.out⟩
end Go.Proofs.Ytahaimecchdfeaa

/-
  Walks: the reference's received and Delivered.
-/
namespace Go.Proofs.Ytahaimecchdfeaa
open Go.RowKit

/-- A history that is valid, by its digits. -/
theorem tm_digits {a h : Int} (h0 : 0 ≤ tmV a h) : ∃ H t : Nat, h = (H : Int) ∧ tmV a h = (t : Int) ∧ t ≤ 5 ∧ 4 ≤ H / 4 ^ t ∧ H / 4 ^ t ≤ 5 := by
  unfold tmV at h0 ⊢
  by_cases hc : a < 0 ∨ 1 < a ∨ h < 4
  · rw [if_pos hc] at h0
    exact absurd h0 (by decide)
  · rw [if_neg hc] at h0 ⊢
    have key : ∀ t, tmOk a h.toNat t = true → 4 ≤ h.toNat / 4 ^ t ∧ h.toNat / 4 ^ t ≤ 5 := fun t ht => by
      unfold tmOk at ht
      rw [decide_eq_true_eq] at ht
      omega
    refine ⟨h.toNat, ?_⟩
    unfold tmN at h0 ⊢
    by_cases c0 : tmOk a h.toNat 0 = true
    · rw [if_pos c0] at h0 ⊢; exact ⟨0, by omega, rfl, by decide, key _ c0⟩
    rw [if_neg c0] at h0 ⊢
    by_cases c1 : tmOk a h.toNat 1 = true
    · rw [if_pos c1] at h0 ⊢; exact ⟨1, by omega, rfl, by decide, key _ c1⟩
    rw [if_neg c1] at h0 ⊢
    by_cases c2 : tmOk a h.toNat 2 = true
    · rw [if_pos c2] at h0 ⊢; exact ⟨2, by omega, rfl, by decide, key _ c2⟩
    rw [if_neg c2] at h0 ⊢
    by_cases c3 : tmOk a h.toNat 3 = true
    · rw [if_pos c3] at h0 ⊢; exact ⟨3, by omega, rfl, by decide, key _ c3⟩
    rw [if_neg c3] at h0 ⊢
    by_cases c4 : tmOk a h.toNat 4 = true
    · rw [if_pos c4] at h0 ⊢; exact ⟨4, by omega, rfl, by decide, key _ c4⟩
    rw [if_neg c4] at h0 ⊢
    by_cases c5 : tmOk a h.toNat 5 = true
    · rw [if_pos c5] at h0 ⊢; exact ⟨5, by omega, rfl, by decide, key _ c5⟩
    rw [if_neg c5] at h0
    exact absurd h0 (by decide)
theorem digits_more {H t : Nat} (h4 : 4 ≤ H / 4 ^ t) {k : Nat} (hk : k < t) : 16 ≤ H / 4 ^ k := by
  obtain ⟨d, rfl⟩ : ∃ d, t = k + (d + 1) := ⟨t - k - 1, by omega⟩
  rw [Nat.pow_add, ← Nat.div_div_eq_div_mul, Nat.pow_succ, ← Nat.div_div_eq_div_mul] at h4
  have h2 : H / 4 ^ k / 4 ^ d ≤ H / 4 ^ k := Nat.div_le_self _ _
  omega
set_option maxHeartbeats 2000000 in
theorem received_any (H t : Nat) (w : World) (ht : t ≤ 5) (h4 : 4 ≤ H / 4 ^ t) (h5 : H / 4 ^ t ≤ 5) (hH : H ≤ 9223372036854775807) :
    Calls Try.prog 53 #[.int .i64 H] w fun e w' => e = .returned (.int .i64 (rcv H t : Nat)) ∧ Below w.heap.size w w' := by
  have HMO := Lib.hid (fun k (hk : k < t) => digits_more h4 hk)
  go_enter Try.func53, Try.ntmps53
  go_wp2_with fail
  go_loopw [3, 4] (fun nv hv wr => ∃ k q : Nat, k ≤ t ∧ nv = .int .i64 (rcv H k : Nat) ∧ hv = .int .i64 q ∧ Hid (q = H / 4 ^ k) ∧ q ≤ 9223372036854775807 ∧ Below w.heap.size w wr) (fun _ hv _ => (intOf hv).toNat)
  case atStart => exact ⟨0, H, Nat.zero_le _, rfl, rfl, Lib.hid (by simp), by omega, Below.refl _ _⟩
  case round =>
    obtain ⟨k, q, hk, rfl, rfl, HQ, hq9, hb⟩ := hrel
    have HB := Lib.hid hb
    by_cases hlt : k < t
    · have h16 := HMO.out k hlt
      rw [← HQ.out] at h16
      have t1 : decide ((q : Int) ≥ 16) = true := decide_eq_true (by omega)
      have t1' : decide ((16 : Int) ≤ (q : Int)) = true := decide_eq_true (by omega)
      have hqi : (16 : Int) ≤ (q : Int) := by omega
      have HQ2 : Hid (q / 4 = H / 4 ^ (k + 1)) := Lib.hid (by rw [div_pow_succ, HQ.out])
      have HR2 : Hid (rcv H (k + 1) = rcv H k + if q % 4 = 0 then 0 else 1) := Lib.hid (by rw [HQ.out]; rfl)
      have hrle := rcv_le H k
      obtain ⟨R, eR⟩ : ∃ R, R = rcv H k := ⟨_, rfl⟩
      rw [← eR] at HR2 hrle ⊢
      clear hb eR
      by_cases hq : q % 4 = 0
      · rw [if_pos hq] at HR2
        have m1 : decide ((0 : Int) < (q : Int).tmod 4) = false := decide_eq_false (by show ¬ (0 : Int) < ((q % 4 : Nat) : Int); omega)
        clear HQ h16
        go_wp2_with fail
        go_roundw
        case rel => exact ⟨k + 1, q / 4, by omega, by rw [HR2.out]; rfl, by first | rfl | go_num | (congr 1; omega), HQ2, by omega, HB.out⟩
        case measure => simp [intOf]; omega
      · rw [if_neg hq] at HR2
        have m1 : decide ((0 : Int) < (q : Int).tmod 4) = true := decide_eq_true (by show (0 : Int) < ((q % 4 : Nat) : Int); omega)
        clear HQ h16
        go_wp2_with fail
        go_roundw
        case rel => exact ⟨k + 1, q / 4, by omega, by rw [HR2.out]; go_num, by first | rfl | go_num | (congr 1; omega), HQ2, by omega, HB.out⟩
        case measure => simp [intOf]; omega
    · obtain rfl : k = t := by omega
      have hq5 : q ≤ 5 := by rw [HQ.out]; exact h5
      have t1 : decide ((q : Int) ≥ 16) = false := decide_eq_false (by omega)
      have t1' : decide ((16 : Int) ≤ (q : Int)) = false := decide_eq_false (by omega)
      have hqi : ¬ (16 : Int) ≤ (q : Int) := by omega
      clear hb HQ
      go_wp2_with fail
      go_ret
      exact ⟨rfl, HB.out⟩
/-- A row of states, as it lies. -/
theorem loc_row {w : World} {g4 o4 n : Nat} {T : Nat → Nat} {m : Nat → Nat → Nat} {L : Nat → Nat → Nat → Int} {K : Nat → Nat} {F : Nat → Nat → Nat} (hR : RunsR w (some ⟨g4, o4, none⟩) n T m L K F) {r t : Nat} (hr : r < n) (ht : t < T r) (hm : 0 < m r t) :
    ∃ gx ox cx ge oe ce, w.cell? ⟨g4, o4 + r * 2, none⟩ = some (.slice (some ⟨gx, ox, none⟩) (T r) cx) ∧ w.cell? ⟨gx, ox + t, none⟩ = some (.slice (some ⟨ge, oe, none⟩) (m r t) ce) ∧ ∀ g, g < m r t → w.cell? ⟨ge, oe + g, none⟩ = some (.int .i64 (L r t g)) ∧ -9223372036854775808 ≤ L r t g ∧ L r t g ≤ 9223372036854775807 := by
  obtain ⟨Ax, cx, Bx, dx, y0, y1, ⟨R, cc, hM⟩, -⟩ := runs_at hR hr
  obtain ⟨gx, ox, rfl, z0, -, hI⟩ := hM t ht
  obtain ⟨ge, oe, e, -, -, -⟩ := hI 0 hm
  rw [e] at z0
  refine ⟨gx, ox, cx, ge, oe, cc t, y0, z0, fun g hg => ?_⟩
  obtain ⟨ge', oe', e', z1, h1, h2⟩ := hI g hg
  rw [e] at e'
  injection e' with e'
  injection e' with e1 e2
  subst e1 e2
  exact ⟨z1, h1, h2⟩
set_option maxHeartbeats 4000000 in
theorem rDelivered_any (x : Value) (a f l : Int) (n : Nat) (T : Nat → Nat) (m : Nat → Nat → Nat) (L : Nat → Nat → Nat → Int) (K : Nat → Nat) (F : Nat → Nat → Nat) (r t : Int) (w : World) (h : SysR w x a f l n T m L K F) (hn : n ≤ 65536) :
    Calls Try.prog 19 #[x, .agg #[.int .i64 r, .int .i64 t]] w fun e w' => e = .returned (.tuple #[.int .i64 (delV a f l n T m L K F r t : Nat), .int .i64 (delF a f l n T m L K F r t : Nat)]) ∧ Below w.heap.size w w' := by
  obtain ⟨A, c, rfl, hR⟩ := h
  obtain ⟨W, hW⟩ : ∃ W, W = (w.alloc (.cells #[.int .i64 a, .int .i64 f, .int .i64 l, .slice A n c] 24)).alloc (.cells #[.int .i64 r, .int .i64 t] 26) := ⟨_, rfl⟩
  obtain ⟨k0, k1, hB⟩ := two_boxes4 w _ _ _ _ W hW
  have hS : SysR W (.agg #[.int .i64 a, .int .i64 f, .int .i64 l, .slice A n c]) a f l n T m L K F := ⟨A, c, rfl, hR.below hB⟩
  have HR := Lib.hid (hR.below hB)
  have HK := Lib.hid k0
  have HK1 := Lib.hid k1
  have HB := Lib.hid hB
  have HCK := Lib.hid (refCheck_any _ _ _ _ _ _ _ _ _ _ W hS hn)
  have HPO := Lib.hid (fun (X : World) (hX : Below W.heap.size W X) => rpoint_any _ _ _ _ _ _ _ _ _ _ r t X (sys_below hS hX))
  obtain ⟨EE, eEE⟩ : ∃ E, E = delF a f l n T m L K F r t := ⟨_, rfl⟩
  obtain ⟨VV, eVV⟩ : ∃ E, E = delV a f l n T m L K F r t := ⟨_, rfl⟩
  rw [← eEE, ← eVV]
  have hVE : VV = if EE = 0 then rcS (L r.toNat t.toNat) 2 else 0 := by rw [eVV, eEE]; rfl
  have hEE : EE = if chkE a f l n T m K F = 0 then (if inP n l.toNat r t then delE a (L r.toNat t.toNat) else 2) else chkE a f l n T m K F := by
    rw [eEE]
    unfold delF entE
    by_cases hc : chkE a f l n T m K F = 0
    · rw [if_pos hc, if_pos hc]
      by_cases hp : inP n l.toNat r t
      · rw [if_pos hp, if_pos hp, if_pos rfl]
      · rw [if_neg hp, if_neg hp, if_neg (by decide)]
    · rw [if_neg hc, if_neg hc, if_neg hc]
  have hok : chkE a f l n T m K F = 0 → inP n l.toNat r t → a = 2 → ∃ r' t' : Nat, r = (r' : Int) ∧ t = (t' : Int) ∧ r' < n ∧ t' < T r' ∧ m r' t' = 2 := fun h1 h2 h3 => by
    obtain ⟨-, -, -, -, -, -, hfr, -⟩ := chkE_ok h1
    obtain ⟨⟨p1, p2⟩, p3, p4⟩ := h2
    have q1 := hfr r.toNat (by omega)
    have q2 := q1.2.2 t.toNat (by omega)
    exact ⟨r.toNat, t.toNat, by omega, by omega, by omega, by omega, by omega⟩
  have HOK := Lib.hid hok
  have HEE := Lib.hid hEE
  have HVE := Lib.hid hVE
  obtain ⟨CE, eCE⟩ : ∃ E, E = chkE a f l n T m K F := ⟨_, rfl⟩
  rw [← eCE] at HCK HOK HEE
  have d0 := k0.cell (k := 0) rfl
  have d1 := k0.cell (k := 1) rfl
  have d2 := k0.cell (k := 2) rfl
  have d3 := k0.cell (k := 3) rfl
  clear eEE eVV hVE hEE hok eCE k0 k1 hB hS hR
  go_enter Try.func19, Try.ntmps19
  go_upto_region 1 with (fail)
  rw [← hW]
  obtain ⟨bS, ebS⟩ : ∃ b, b = w.heap.size := ⟨_, rfl⟩
  obtain ⟨bP, ebP⟩ : ∃ b, b = w.heap.size + 1 := ⟨_, rfl⟩
  rw [← ebP, ← ebS]
  rw [← ebS] at HK d0 d1 d2 d3
  rw [← ebP] at HK1
  clear hW ebS ebP
  go_upto_region 2 with (go_at_call 43; refine HCK.out.mono ?_; rintro e w1 ⟨rfl, hb1⟩; have HB1 := Lib.hid hb1; clear hb1)
  clear d0 d1 d2 d3 HCK
  by_cases hC : CE = 0
  case neg =>
    have t1 : ((CE : Int) != 0) = true := by rw [bne_iff_ne]; omega
    have hE2 := HEE.out
    rw [if_neg hC] at hE2
    have HV2 : Hid (VV = 0) := Lib.hid (by rw [HVE.out, if_neg (by omega)])
    have HE2 := Lib.hid hE2
    clear hC hE2 HOK
    go_wp2_with fail
    go_ret2
    exact ⟨by rw [HV2.out, HE2.out]; rfl, below_trans HB.out HB1.out⟩
  subst hC
  rw [show (((0 : Nat)) : Int) = 0 from rfl]
  have hE2 := HEE.out
  rw [if_pos rfl] at hE2
  have hPO := HPO.out w1 HB1.out
  have d0 := (HK.out.below HB1.out).cell (k := 0) rfl
  have d1 := (HK.out.below HB1.out).cell (k := 1) rfl
  have d2 := (HK.out.below HB1.out).cell (k := 2) rfl
  have d3 := (HK.out.below HB1.out).cell (k := 3) rfl
  have p0 := (HK1.out.below HB1.out).cell (k := 0) rfl
  have p1 := (HK1.out.below HB1.out).cell (k := 1) rfl
  by_cases hP : inP n l.toNat r t
  case neg =>
    rw [if_neg hP] at hE2
    rw [decide_eq_false hP] at hPO
    have HPX := Lib.hid hPO
    have HV2 : Hid (VV = 0) := Lib.hid (by rw [HVE.out, if_neg (by omega)])
    have HE2 := Lib.hid hE2
    clear hP hE2 hPO HOK HPO
    go_wp2_with (go_at_call 44; refine HPX.out.mono ?_; rintro e w2 ⟨rfl, hb1⟩; have HB2 := Lib.hid (below_trans HB1.out hb1); clear hb1)
    go_ret2
    exact ⟨by rw [HV2.out, HE2.out]; rfl, below_trans HB.out HB2.out⟩
  rw [if_pos hP] at hE2
  rw [decide_eq_true hP] at hPO
  have HPX := Lib.hid hPO
  have HE2 := Lib.hid hE2
  have HOK2 := Lib.hid (HOK.out rfl hP)
  clear hP hE2 hPO HOK HPO HEE
  go_upto_region 6 with (go_at_call 44; refine HPX.out.mono ?_; rintro e w2 ⟨rfl, hb1⟩; have HB2 := Lib.hid (below_trans HB1.out hb1); clear hb1)
  clear d0 d1 d2 d3 p0 p1 HPX HB1
  have d0 := (HK.out.below HB2.out).cell (k := 0) rfl
  have d3 := (HK.out.below HB2.out).cell (k := 3) rfl
  have p0 := (HK1.out.below HB2.out).cell (k := 0) rfl
  have p1 := (HK1.out.below HB2.out).cell (k := 1) rfl
  by_cases ha : a = 2
  case neg =>
    have t1 : (a != 2) = true := by rw [bne_iff_ne]; exact ha
    have hE3 := HE2.out
    unfold delE at hE3
    rw [if_neg ha] at hE3
    have HV2 : Hid (VV = 0) := Lib.hid (by rw [HVE.out, if_neg (by omega)])
    have HE3 := Lib.hid hE3
    clear ha hE3 HOK2 HE2
    go_wp2_with fail
    go_ret2
    exact ⟨by rw [HV2.out, HE3.out]; rfl, below_trans HB.out HB2.out⟩
  have t1 : (a != 2) = false := by rw [bne_eq_false_iff_eq]; exact ha
  obtain ⟨r', t', rfl, rfl, hr, ht, hm⟩ := HOK2.out ha
  obtain ⟨g4, o4, rfl⟩ : ∃ g o, A = some ⟨g, o, none⟩ := by
    obtain ⟨g, o, _, _, e, -⟩ := HR.out r' hr
    exact ⟨g, o, e⟩
  obtain ⟨gx, ox, cx, ge, oe, ce, y0, z0, hz⟩ := loc_row (HR.out.below HB2.out) hr ht (by omega)
  obtain ⟨u0, b00, b01⟩ := hz 0 (by omega)
  obtain ⟨u1, b10, b11⟩ := hz 1 (by omega)
  rw [Nat.add_zero] at u0
  rw [hm] at z0
  obtain ⟨TX, eTX⟩ : ∃ q, q = T r' := ⟨_, rfl⟩
  rw [← eTX] at y0 ht
  have hE3 := HE2.out
  unfold delE at hE3
  rw [if_pos ha, Int.toNat_natCast, Int.toNat_natCast] at hE3
  have hV3 := HVE.out
  rw [Int.toNat_natCast, Int.toNat_natCast] at hV3
  have hV4 : rcS (L r' t') 2 = 0 + rcv (L r' t' 0).toNat (tmV 0 (L r' t' 0)).toNat + rcv (L r' t' 1).toNat (tmV 1 (L r' t' 1)).toNat := rfl
  rw [hV4, Nat.zero_add] at hV3
  obtain ⟨p, ep⟩ : ∃ p, p = L r' t' 0 := ⟨_, rfl⟩
  obtain ⟨q, eq⟩ : ∃ p, p = L r' t' 1 := ⟨_, rfl⟩
  rw [← ep] at u0 b00 b01 hE3 hV3
  rw [← eq] at u1 b10 b11 hE3 hV3
  have hr1 : (r' : Int) < (n : Int) := by omega
  have ht1 : (t' : Int) < (TX : Int) := by omega
  have HT0 := Lib.hid (fun X => rTime_any 0 p X ⟨b00, b01⟩)
  have HT1 := Lib.hid (fun X => rTime_any 1 q X ⟨b10, b11⟩)
  have HE3 := Lib.hid hE3
  have HV3 := Lib.hid hV3
  have HBB := Lib.hid (And.intro (And.intro b00 b01) (And.intro b10 b11))
  clear HE2 HVE HOK2 hz hV4 hE3 hV3 eTX ep eq ha hm b00 b01 b10 b11
  have hb0 := Below.refl w2.heap.size w2
  have U0 := Lib.hid u0
  have U1 := Lib.hid u1
  go_upto_region 8 with (fail)
  clear d0
  go_quiet (fail)
  clear y0 z0 d3 p0 p1
  generalize hwq : World.drewN _ _ = wq
  have hbq : Below w2.heap.size w2 wq := by rw [← hwq]; exact below_drewN hb0 _
  have u0 := cell_below hbq U0.out
  have u1 := cell_below hbq U1.out
  have HBQ := Lib.hid (below_trans HB2.out hbq)
  have U0 := Lib.hid u0
  have U1 := Lib.hid u1
  clear hwq hbq hb0 HB2
  by_cases hc0 : tmV 0 p < 0
  · have t2 : decide (tmV 0 p < 0) = true := decide_eq_true hc0
    have HE4 : Hid (EE = 3) := Lib.hid (by rw [HE3.out, if_pos (.inl hc0)])
    have HV4 : Hid (VV = 0) := Lib.hid (by rw [HV3.out, if_neg (by rw [HE4.out]; decide)])
    generalize tmV 0 p = tp at HT0 t2
    clear hc0 HE3 HV3
    go_wp2_with (go_at_call 52; refine (HT0.out _).mono ?_; rintro e w4 ⟨rfl, rfl⟩)
    go_ret2
    exact ⟨by rw [HV4.out, HE4.out]; rfl, below_trans HB.out HBQ.out⟩
  have t2 : decide (tmV 0 p < 0) = false := decide_eq_false hc0
  have hTT := Lib.hid (show ∀ X (z v : Int) (tz : Int), ((z = 0 ∧ v = p ∧ tz = tmV 0 p) ∨ (z = 1 ∧ v = q ∧ tz = tmV 1 q)) → Calls Try.prog 52 #[.int .i64 z, .int .i64 v] X fun e w' => e = .returned (.int .i64 tz) ∧ X = w' from fun X z v tz h => by
    rcases h with ⟨rfl, rfl, rfl⟩ | ⟨rfl, rfl, rfl⟩
    · exact HT0.out X
    · exact HT1.out X)
  by_cases hc1 : tmV 1 q < 0
  · have t3 : decide (tmV 1 q < 0) = true := decide_eq_true hc1
    have HE4 : Hid (EE = 3) := Lib.hid (by rw [HE3.out, if_pos (.inr hc1)])
    have HV4 : Hid (VV = 0) := Lib.hid (by rw [HV3.out, if_neg (by rw [HE4.out]; decide)])
    generalize tmV 0 p = tp at hTT t2
    generalize tmV 1 q = tq at hTT t3
    clear hc0 hc1 HE3 HV3 HT0 HT1
    go_wp2_with (go_at_call 52; refine (hTT.out _ _ _ _ (by first | exact Or.inl ⟨rfl, rfl, rfl⟩ | exact Or.inr ⟨rfl, rfl, rfl⟩)).mono ?_; rintro e w4 ⟨rfl, rfl⟩)
    go_ret2
    exact ⟨by rw [HV4.out, HE4.out]; rfl, below_trans HB.out HBQ.out⟩
  have t3 : decide (tmV 1 q < 0) = false := decide_eq_false hc1
  have HE4 : Hid (EE = 0) := Lib.hid (by rw [HE3.out, if_neg (by omega)])
  have hV4 := HV3.out
  rw [if_pos HE4.out] at hV4
  obtain ⟨P, tp, e1, e2, h5, h6, h7⟩ := tm_digits (a := 0) (h := p) (by omega)
  obtain ⟨Q, tq, e3, e4, i5, i6, i7⟩ := tm_digits (a := 1) (h := q) (by omega)
  have hbb := HBB.out
  subst e1 e3
  rw [e2, e4, Int.toNat_natCast, Int.toNat_natCast, Int.toNat_natCast, Int.toNat_natCast] at hV4
  rw [e2] at t2 hTT
  rw [e4] at t3 hTT
  have HRC := Lib.hid (show ∀ (X : World) (z : Int) (v : Nat), ((z = (P : Int) ∧ v = rcv P tp) ∨ (z = (Q : Int) ∧ v = rcv Q tq)) → Calls Try.prog 53 #[.int .i64 z] X fun e w' => e = .returned (.int .i64 (v : Nat)) ∧ Below X.heap.size X w' from fun X z v h => by
    rcases h with ⟨rfl, rfl⟩ | ⟨rfl, rfl⟩
    · exact received_any P tp X h5 h6 h7 (by have := hbb.1; omega)
    · exact received_any Q tq X i5 i6 i7 (by have := hbb.2; omega))
  have hle1 := rcv_le P tp
  have hle2 := rcv_le Q tq
  obtain ⟨v1, ev1⟩ : ∃ v, v = rcv P tp := ⟨_, rfl⟩
  obtain ⟨v2, ev2⟩ : ∃ v, v = rcv Q tq := ⟨_, rfl⟩
  rw [← ev1] at HRC hV4 hle1
  rw [← ev2] at HRC hV4 hle2
  have HV5 := Lib.hid hV4
  have hwv : IntKind.i64.wrap ((v1 : Int) + (v2 : Int)) = ((v1 + v2 : Nat) : Int) := by rw [IntKind.wrap_i64]; omega
  have HWV := Lib.hid hwv
  clear hc0 hc1 HE3 HV3 HT0 HT1 hV4 e2 e4 hbb ev1 ev2 HBB
  go_upto_region 11 with (go_at_call 52; refine (hTT.out _ _ _ _ (by first | exact Or.inl ⟨rfl, rfl, rfl⟩ | exact Or.inr ⟨rfl, rfl, rfl⟩)).mono ?_; rintro e w4 ⟨rfl, rfl⟩)
  clear t2 t3
  have hb0 := Below.refl wq.heap.size wq
  have HSOF := Lib.hid (fun (z : World) (h : Below wq.heap.size wq z) => (⟨h, cell_below h u0, cell_below h u1⟩ : Below wq.heap.size wq z ∧ z.cell? ⟨ge, oe, none⟩ = some (.int .i64 P) ∧ z.cell? ⟨ge, oe + 1, none⟩ = some (.int .i64 Q)))
  clear u0 u1
  go_region_held3 (fun z => Below wq.heap.size wq z ∧ z.cell? ⟨ge, oe, none⟩ = some (.int .i64 P) ∧ z.cell? ⟨ge, oe + 1, none⟩ = some (.int .i64 Q)) (first | exact HSOF.out _ (by assumption) | exact HSOF.out _ (below_drew hb0) | exact HSOF.out _ (below_trans (And.left (by assumption)) (by assumption)))
    ((go_at_call 53; refine (HRC.out _ _ _ (by first | exact Or.inl ⟨rfl, rfl⟩ | exact Or.inr ⟨rfl, rfl⟩)).mono ?_; rintro e w7 ⟨rfl, hb1⟩; have HB7 := below_trans (And.left (by assumption)) hb1; clear hb1))
  all_goals (
    have hbz := And.left (by assumption : Below wq.heap.size wq _ ∧ _)
    have HZ := Lib.hid (below_trans HB.out (below_trans HBQ.out hbz))
    clear hbz
    go_wp2_with fail
    go_ret2
    exact ⟨by rw [HV5.out, HE4.out]; first | rfl | (rw [← HWV.out]; rfl), HZ.out⟩)
end Go.Proofs.Ytahaimecchdfeaa

/-
  Walks: the reference's list of the points of a system, and the position of one.
-/
namespace Go.Proofs.Ytahaimecchdfeaa
open Go.RowKit

theorem rposition_any (x : Value) (a f : Int) (l n : Nat) (T : Nat → Nat) (m : Nat → Nat → Nat) (L : Nat → Nat → Nat → Int) (K : Nat → Nat) (F : Nat → Nat → Nat) (r t : Nat) (w : World) (h : SysR w x a f l n T m L K F) (hb : r * l + t ≤ 65536) :
    Calls Try.prog 55 #[x, .agg #[.int .i64 r, .int .i64 t]] w fun e w' => e = .returned (.int .i64 ((r * l + t : Nat) : Int)) ∧ Below w.heap.size w w' := by
  obtain ⟨A, c, rfl, -⟩ := h
  obtain ⟨W, hW⟩ : ∃ W, W = (w.alloc (.cells #[.int .i64 a, .int .i64 f, .int .i64 l, .slice A n c] 24)).alloc (.cells #[.int .i64 r, .int .i64 t] 26) := ⟨_, rfl⟩
  obtain ⟨k0, k1, hB⟩ := two_boxes4 w _ _ _ _ W hW
  have q2 := k0.cell (k := 2) rfl
  have p0 := k1.cell (k := 0) rfl
  have p1 := k1.cell (k := 1) rfl
  obtain ⟨M, eM⟩ : ∃ M, M = r * l := ⟨_, rfl⟩
  rw [← eM] at hb ⊢
  have hmul : (r : Int) * (l : Int) = (M : Int) := by rw [eM, Int.natCast_mul]
  have hw1 : IntKind.i64.wrap ((r : Int) * (l : Int)) = (M : Int) := by rw [hmul, IntKind.wrap_i64]; omega
  have hw2 : IntKind.i64.wrap ((M : Int) + (t : Int)) = ((M + t : Nat) : Int) := by rw [IntKind.wrap_i64]; omega
  have HW2 := Lib.hid hw2
  clear k0 k1 eM hmul
  go_enter Try.func55, Try.ntmps55
  go_upto_region 1 with (fail)
  rw [← hW]
  clear hW
  go_wp2_with fail
  go_ret
  refine ⟨?_, hB⟩
  first | rfl | (rw [← HW2.out]) | (congr 2)
set_option maxHeartbeats 4000000 in
theorem rPoints_any (x : Value) (a f : Int) (l n : Nat) (T : Nat → Nat) (m : Nat → Nat → Nat) (L : Nat → Nat → Nat → Int) (K : Nat → Nat) (F : Nat → Nat → Nat) (w : World) (h : SysR w x a f l n T m L K F) (hn : n ≤ 65536) (hc : chkE a f l n T m K F = 0) :
    Calls Try.prog 45 #[x] w fun e w' => ∃ v, e = .returned v ∧ PnO w' w.heap.size v (ptL n l) ∧ Below w.heap.size w w' := by
  have HCK := Lib.hid (fun W (h : SysR W x a f l n T m L K F) => refCheck_any x a f l n T m L K F W h hn)
  rw [hc] at HCK
  obtain ⟨-, -, hl, hn64, -, -, -, -⟩ := chkE_ok hc
  obtain ⟨A, c, rfl, hR⟩ := h
  have HB := Lib.hid (below_alloc w (.cells #[.int .i64 a, .int .i64 f, .int .i64 l, .slice A n c] 24))
  have hbk := Blk.new w #[.int .i64 a, .int .i64 f, .int .i64 l, .slice A n c] 24
  have HK := Lib.hid hbk
  have HC1 := Lib.hid (HCK.out _ ⟨A, c, rfl, hR.below HB.out⟩)
  have d0 := hbk.cell (k := 0) rfl
  have d1 := hbk.cell (k := 1) rfl
  have d2 := hbk.cell (k := 2) rfl
  have d3 := hbk.cell (k := 3) rfl
  have hl16 : l ≤ 16 := by omega
  clear hR hbk HCK hc hl
  go_enter Try.func45, Try.ntmps45
  go_upto_region 1 with (fail)
  obtain ⟨W, hW⟩ : ∃ W, W = w.alloc (.cells #[.int .i64 a, .int .i64 f, .int .i64 l, .slice A n c] 24) := ⟨_, rfl⟩
  rw [← hW] at HB HK HC1 d0 d1 d2 d3 ⊢
  clear hW
  obtain ⟨bs, ebs⟩ : ∃ b, b = w.heap.size := ⟨_, rfl⟩
  rw [← ebs] at HK d0 d1 d2 d3 ⊢
  have hbs : bs ≤ w.heap.size := Nat.le_of_eq ebs
  clear ebs
  go_upto_region 5 with (go_at_call 43; refine HC1.out.mono ?_; rintro e w1 ⟨rfl, hb1⟩; have HB := Lib.hid (below_trans HB.out hb1); have HK := Lib.hid (HK.out.below hb1); clear hb1)
  clear d0 d1 d2 d3 HC1
  have hsz := HB.out.size
  have hnl : n * l ≤ 1024 := Nat.le_trans (Nat.mul_le_mul hn64 hl16) (by decide)
  go_loopw [3, 4] (fun lv iv wr => ∃ i : Nat, i ≤ n ∧ iv = .int .i64 i ∧ PnO wr w1.heap.size lv (ptU l i 0) ∧ Below w1.heap.size w1 wr) (fun _ iv _ => n - (intOf iv).toNat)
  case atStart => exact ⟨0, Nat.zero_le _, rfl, World.ownsRow_nil _ _ _ _, Below.refl _ _⟩
  case round =>
    obtain ⟨i, hi, rfl, ho, hb⟩ := hrel
    have HO := Lib.hid ho
    have HBW := Lib.hid hb
    have d3 := (HK.out.below hb).cell (k := 3) rfl
    by_cases hlt : i < n
    · have hin : (i : Int) < (n : Int) := by omega
      clear ho hb
      go_upto_region 8 with (fail)
      clear d3
      go_loopw [3, 5] (fun lv jv wr => ∃ j : Nat, j ≤ l ∧ jv = .int .i64 j ∧ PnO wr w1.heap.size lv (ptU l i j) ∧ Below w1.heap.size w1 wr) (fun _ jv _ => l - (intOf jv).toNat)
      case atStart => exact ⟨0, Nat.zero_le _, rfl, HO.out, HBW.out⟩
      case round =>
        clear HO HBW
        obtain ⟨j, hj, rfl, ho, hb⟩ := hrel
        have HBW := Lib.hid hb
        have d2 := (HK.out.below hb).cell (k := 2) rfl
        by_cases hjl : j < l
        · have hjn : (j : Int) < (l : Int) := by omega
          have HTK := Lib.hid (ptU_step l i j)
          obtain ⟨ys, eys⟩ : ∃ ys, ys = ptU l i j := ⟨_, rfl⟩
          have hyl : ys.length ≤ 2048 := by
            rw [eys, ptU_len]
            have : i * l ≤ n * l := Nat.mul_le_mul_right l hi
            omega
          rw [← eys] at ho HTK
          have HO2 := Lib.hid ho
          unfold PnO at HO2
          have hsz2 := hb.size
          clear ho hb eys
          go_wp2_with (at_builtin; obtain ⟨i0, hi, hz0, hz1, hz2⟩ := info_parts Try.infoPoint; refine wpList_append_own_at _ rfl _ _ 29 rfl w1.heap.size 26 i0 _ 2 16 Try.underlying29 hi hz0 hz1 hz2 rfl (by decide) _ _ _ rfl (own_alloc' HO2.out _) ⟨wr.heap.size, 0, none⟩ 1 1 [.int .i64 i, .int .i64 j] rfl rfl (World.news_of_block (cs := #[.int .i64 i, .int .i64 j]) (t := 26) (fr := (0, 0)) (heap_alloc_new wr _)) (by simp [Value.oneCell']) (by unfold maxLen; omega) (by omega) (by simp; omega) ?_; intro v' w3 hown' hgrow _ _; have HOW3 := Lib.hid hown'; have HB3 := Lib.hid (below_append HBW.out rfl HO2.out hgrow); clear hown' hgrow hi hz0 hz1 hz2)
          go_roundw
          case rel =>
            refine ⟨j + 1, by omega, by go_num, ?_, HB3.out⟩
            unfold PnO
            rw [HTK.out, crL_snoc, List.length_append]
            exact HOW3.out
          case measure => simp [intOf]; omega
        · obtain rfl : j = l := by omega
          have hjn : ¬ (j : Int) < (j : Int) := by omega
          have HO := Lib.hid (show PnO _ _ _ (ptU j (i + 1) 0) by rw [← ptU_row]; exact ho)
          clear ho hb
          go_wp2_with fail
          go_roundw
          case rel => exact ⟨i + 1, by omega, by go_num, HO.out, HBW.out⟩
          case measure => simp [intOf]; omega
    · obtain rfl : i = n := by omega
      have hii : ¬ (i : Int) < (i : Int) := by omega
      rw [ptU_end] at HO
      clear ho hb
      go_wp2_with fail
      go_ret
      exact ⟨_, rfl, own_mono' HO.out hsz, HB.out.trans (HBW.out.mono hsz)⟩
end Go.Proofs.Ytahaimecchdfeaa

/-
  Walk: the reference's search for the points that are reached.
-/
namespace Go.Proofs.Ytahaimecchdfeaa
open Go.RowKit

theorem bfsF_pre (S : Nat → Bool) (p q l : List Nat) : bfsF S (p ++ q) l = ((bfsF S q l).1, p ++ (bfsF S q l).2) := by
  refine snoc_rec (p := fun l => bfsF S (p ++ q) l = ((bfsF S q l).1, p ++ (bfsF S q l).2)) rfl (fun l x ih => ?_) l
  rw [bfsF_snoc, bfsF_snoc, ih]
  by_cases hx : (bfsF S q l).1 x = true
  · rw [if_pos hx, if_pos hx]
  · rw [if_neg hx, if_neg hx, List.append_assoc]
/-- The search, when some of the points of a round have been looked at. -/
def seekL (R : Nat → Nat → Bool) (j k : Nat) : List Nat := (List.range k).filter (R j)
theorem seekL_lt {R : Nat → Nat → Bool} {j k x : Nat} (h : x ∈ seekL R j k) : x < k := by
  unfold seekL at h
  exact List.mem_range.1 (List.mem_filter.1 h).1
theorem seek_at {R : Nat → Nat → Bool} {j k : Nat} {S : Nat → Bool} {q : List Nat} : (bfsF S q (seekL R j k)).1 k = S k := by
  rw [Bool.eq_iff_iff, bfsF_fst]
  exact ⟨fun h => h.elim id fun h => absurd (seekL_lt h) (Nat.lt_irrefl _), .inl⟩
theorem seek_yes {R : Nat → Nat → Bool} {j k : Nat} {S : Nat → Bool} {q : List Nat} (hS : S k = false) (h : R j k = true) : bfsF S q (seekL R j (k + 1)) = (fun x => (bfsF S q (seekL R j k)).1 x || x == k, (bfsF S q (seekL R j k)).2 ++ [k]) := by
  have e : seekL R j (k + 1) = seekL R j k ++ [k] := by unfold seekL; rw [List.range_succ, List.filter_append, List.filter_cons_of_pos h]; rfl
  rw [e, bfsF_snoc, if_neg (by rw [seek_at, hS]; decide)]
theorem seek_no {R : Nat → Nat → Bool} {j k : Nat} {S : Nat → Bool} {q : List Nat} (h : S k = true ∨ R j k = false) : bfsF S q (seekL R j (k + 1)) = bfsF S q (seekL R j k) := by
  cases hR : R j k with
  | true =>
    have hS : S k = true := h.elim id fun h => by rw [hR] at h; cases h
    have e : seekL R j (k + 1) = seekL R j k ++ [k] := by unfold seekL; rw [List.range_succ, List.filter_append, List.filter_cons_of_pos hR]; rfl
    rw [e, bfsF_snoc, if_pos (by rw [seek_at, hS])]
  | false =>
    have e : seekL R j (k + 1) = seekL R j k := by unfold seekL; rw [List.range_succ, List.filter_append, List.filter_cons_of_neg (by simp [hR])]; simp
    rw [e]
/-- The whole search: the queue, of which some points have been left behind. -/
structure Seek (R : Nat → Nat → Bool) (N i : Nat) (S : Nat → Bool) (q : List Nat) (x : Nat) : Prop where
  bfs : Bfs R N i S (q.drop x)
  len : unf N S + q.length ≤ N + 1
  lt : ∀ k, k ∈ q → k < N
theorem Seek.start (R : Nat → Nat → Bool) {N i : Nat} (hi : i < N) : Seek R N i (fun _ => false) [i] 0 := ⟨Bfs.start R hi, unf_start N i, fun k hk => by rw [List.mem_singleton] at hk; omega⟩
theorem Seek.step {R : Nat → Nat → Bool} {N i j x : Nat} {S : Nat → Bool} {q : List Nat} (h : Seek R N i S q x) (hj : q[x]? = some j) (hR : ∀ k, R j k = true → k < N) : Seek R N i (bfsF S q (seekL R j N)).1 (bfsF S q (seekL R j N)).2 (x + 1) := by
  have hx : x < q.length := (List.getElem?_eq_some_iff.1 hj).1
  have hd : q.drop x = j :: q.drop (x + 1) := by rw [List.drop_eq_getElem_cons hx, (List.getElem?_eq_some_iff.1 hj).2]
  have hb := h.bfs
  rw [hd] at hb
  have hl : ∀ k, k ∈ seekL R j N ↔ R j k = true := fun k => by
    unfold seekL
    rw [List.mem_filter, List.mem_range]
    exact ⟨fun h => h.2, fun h => ⟨hR k h, h⟩⟩
  obtain ⟨q', e1, e2⟩ := hb.step hl fun k hk => seekL_lt hk
  have e : bfsF S q (seekL R j N) = ((bfsF S (j :: q.drop (x + 1)) (seekL R j N)).1, q.take x ++ (bfsF S (j :: q.drop (x + 1)) (seekL R j N)).2) := by
    conv => lhs; rw [← List.take_append_drop x q, hd]
    exact bfsF_pre S (q.take x) (j :: q.drop (x + 1)) (seekL R j N)
  refine ⟨?_, Nat.le_trans (bfsF_meas N S q _ fun k hk => seekL_lt hk) h.len, fun k hk => ?_⟩
  · rw [e, e1]
    have hlt : (q.take x).length = x := by rw [List.length_take]; omega
    have hdr : (q.take x ++ j :: q').drop (x + 1) = q' := by
      rw [show q.take x ++ j :: q' = (q.take x ++ [j]) ++ q' by simp]
      exact List.drop_left' (by rw [List.length_append, hlt]; rfl)
    show Bfs R N i _ ((q.take x ++ j :: q').drop (x + 1))
    rw [hdr]
    exact e2
  · obtain ⟨new, en, hn⟩ := bfsF_snd S q (seekL R j N)
    rw [en] at hk
    rcases List.mem_append.1 hk with h1 | h1
    · exact h.lt k h1
    · exact seekL_lt ((hn k).1 h1).1
theorem Seek.short {R : Nat → Nat → Bool} {N i j x k : Nat} {S : Nat → Bool} {q : List Nat} (h : Seek R N i S q x) (hk : k ≤ N) : (bfsF S q (seekL R j k)).2.length ≤ N + 1 := by
  have := bfsF_meas N S q (seekL R j k) fun y hy => Nat.lt_of_lt_of_le (seekL_lt hy) hk
  have := h.len
  omega
theorem Seek.end {R : Nat → Nat → Bool} {N i : Nat} {S : Nat → Bool} {q : List Nat} (h : Seek R N i S q q.length) (k : Nat) : S k = true ↔ Rch R i k := by
  have := h.bfs
  rw [List.drop_length] at this
  exact this.end k
/-- The queue in memory, beside the row of what is found. -/
structure SkI (V W : World) (gF N : Nat) (pts : List (Nat × Nat)) (S : Nat → Bool) (q : List Nat) (v : Value) : Prop where
  below : Below V.heap.size V W
  row : Blk W gF 4 (boolA S N)
  que : PnO W V.heap.size v (q.map (ptG pts))
  ge : V.heap.size ≤ gF
theorem SkI.kept {V W W' : World} {gF N : Nat} {pts : List (Nat × Nat)} {S : Nat → Bool} {q : List Nat} {v : Value} (h : SkI V W gF N pts S q v) (hb : Below W.heap.size W W') : SkI V W' gF N pts S q v := ⟨below_trans h.below hb, h.row.below hb, h.que.below hb, h.ge⟩
theorem SkI.found {V W : World} {gF N k : Nat} {pts : List (Nat × Nat)} {S : Nat → Bool} {q : List Nat} {v : Value} (h : SkI V W gF N pts S q v) (hk : k < N) : SkI V (W.setCell ⟨gF, k, none⟩ (.bool true)) gF N pts (fun x => S x || x == k) q v :=
  ⟨h.below.setCell (p := ⟨gF, k, none⟩) h.ge _, by
    have := h.row.set k (.bool true)
    rwa [boolA_set (S' := fun x => S x || x == k) hk (fun j _ => by
      by_cases e : j = k
      · rw [if_pos e]; subst e; simp
      · rw [if_neg e]; simp [e])] at this, own_keeps h.que (Keeps.of_set h.row (by decide) _ _), h.ge⟩
theorem SkI.push {V W W3 : World} {gF N k : Nat} {pts : List (Nat × Nat)} {S : Nat → Bool} {q : List Nat} {v v' : Value} {o : Obj} (h : SkI V W gF N pts S q v) (hown : PnO W3 V.heap.size v' ((q ++ [k]).map (ptG pts))) (hg : (W.alloc o).grownBy W3 v.ownBlock) : SkI V W3 gF N pts S (q ++ [k]) v' :=
  ⟨below_append h.below rfl h.que hg, (h.row.below (below_alloc W o)).kept_row (own_alloc' h.que o) (by decide) hg, hown, h.ge⟩
theorem ptG_at {n l k : Nat} (h : k < n * l) : ∃ r t, ptG (ptL n l) k = (r, t) ∧ r < n ∧ t < l ∧ k = r * l + t := by
  have hl : 0 < l := by
    rcases Nat.eq_zero_or_pos l with e | e
    · rw [e, Nat.mul_zero] at h; omega
    · exact e
  refine ⟨k / l, k % l, ptG_get h, (Nat.div_lt_iff_lt_mul hl).2 h, Nat.mod_lt _ hl, ?_⟩
  have := Nat.div_add_mod k l
  rw [Nat.mul_comm] at this
  omega
set_option maxHeartbeats 8000000 in
theorem rreached_any (x : Value) (a l n : Nat) (f : Int) (T : Nat → Nat) (m : Nat → Nat → Nat) (L : Nat → Nat → Nat → Int) (K : Nat → Nat) (F : Nat → Nat → Nat) (r t : Nat) (w : World) (h : SysR w x a f l n T m L K F) (hc : chkE a f l n T m K F = 0) (hr : r < n) (ht : t < l) :
    Calls Try.prog 46 #[x, .agg #[.int .i64 r, .int .i64 t]] w fun e w' => ∃ g S, e = .returned (.slice (some ⟨g, 0, none⟩) (n * l) (n * l)) ∧ Blk w' g 4 (boolA S (n * l)) ∧ (∀ k, S k = true ↔ Rch (akB a L (ptL n l)) (r * l + t) k) ∧ w.heap.size ≤ g ∧ Below w.heap.size w w' := by
  obtain ⟨ha, -, hl, hn64, -, -, hfr, -⟩ := chkE_ok hc
  obtain ⟨W, hW⟩ : ∃ W, W = (w.alloc (.cells (match x with | .agg xs => xs | _ => #[]) 24)).alloc (.cells #[.int .i64 r, .int .i64 t] 26) := ⟨_, rfl⟩
  obtain ⟨A, c, rfl, hR⟩ := h
  dsimp only at hW
  obtain ⟨k0, k1, hB⟩ := two_boxes4 w _ _ _ _ W hW
  have hS : SysR W (.agg #[.int .i64 a, .int .i64 f, .int .i64 l, .slice A n c]) a f l n T m L K F := ⟨A, c, rfl, hR.below hB⟩
  have HK := Lib.hid k0
  have HK1 := Lib.hid k1
  have HB := Lib.hid hB
  have HPS := Lib.hid (rPoints_any _ _ _ _ _ _ _ _ _ _ W hS (by omega) hc)
  have hfr2 : ∀ q, q < n → T q = l := fun q hq => by have := (hfr q hq).1; omega
  have hfm : ∀ q u, q < n → u < l → m q u = a := fun q u hq hu => by have := (hfr q hq).2.2 u (by rw [hfr2 q hq]; exact hu); omega
  have HAK := Lib.hid (fun (X : World) (hX : Below W.heap.size W X) (r t r' t' : Nat) (hr : r < n) (ht : t < l) (hr' : r' < n) (ht' : t' < l) => ralike_any _ a f l n T m L K F r t r' t' X (sys_below hS hX) (by omega) hr (by rw [hfr2 r hr]; exact ht) hr' (by rw [hfr2 r' hr']; exact ht') (by rw [hfm r t hr ht]; exact Nat.le_refl _) (by rw [hfm r' t' hr' ht']; exact Nat.le_refl _))
  obtain ⟨N, eN⟩ : ∃ N, N = n * l := ⟨_, rfl⟩
  obtain ⟨pts, epts⟩ : ∃ p, p = ptL n l := ⟨_, rfl⟩
  obtain ⟨RR, eRR⟩ : ∃ R, R = akB a L pts := ⟨_, rfl⟩
  have hpl : pts.length = N := by rw [epts, ptL_len, eN]
  have hNl : N ≤ 1024 := by rw [eN]; exact Nat.le_trans (Nat.mul_le_mul hn64 (show l ≤ 16 by omega)) (by decide)
  have hRN : ∀ j k, RR j k = true → k < N := fun j k h => by
    rw [eRR] at h
    unfold akB at h
    rw [Bool.and_eq_true, decide_eq_true_eq, hpl] at h
    exact h.1
  have hpos : r * l + t < N := by rw [eN]; exact pos_lt hr ht
  have HAL : Hid (∀ (X : World) (_ : Below W.heap.size W X) (j k : Nat), j < N → k < N → Calls Try.prog 62 #[.agg #[.int .i64 a, .int .i64 f, .int .i64 l, .slice A n c], .agg #[.int .i64 (ptG pts j).1, .int .i64 (ptG pts j).2], .agg #[.int .i64 (ptG pts k).1, .int .i64 (ptG pts k).2]] X fun e w' => e = .returned (.bool (RR j k)) ∧ Below X.heap.size X w') := Lib.hid fun X hX j k hj hk => by
    rw [eN] at hj hk
    obtain ⟨r1, t1, e1, h1, h2, h3⟩ := ptG_at hj
    obtain ⟨r2, t2, e2, h4, h5, h6⟩ := ptG_at hk
    have := HAK.out X hX r1 t1 r2 t2 h1 h2 h4 h5
    rw [epts, e1, e2, eRR, epts, h3, h6, akB_pos h1 h2 h4 h5]
    exact this
  have hP0 : ptG pts (r * l + t) = (r, t) := by rw [epts, ptG_get (pos_lt hr ht), pos_div ht, pos_mod ht]
  rw [← epts, ← eRR, ← eN]
  rw [← epts] at HPS
  obtain ⟨i0, ei0⟩ : ∃ i, i = r * l + t := ⟨_, rfl⟩
  rw [← ei0] at hpos hP0 ⊢
  have hmk := fun w1 => run_make_row' (P := Try.prog) (w := w1) 65 4 (.bool false) 1 Try.underlying65 Try.infoBool rfl .i64 .i64 N (by omega) (by omega)
  have HRN := Lib.hid hRN
  have HP0 := Lib.hid hP0
  have HPL := Lib.hid hpl
  have d0 := k0.cell (k := 0) rfl
  have d1 := k0.cell (k := 1) rfl
  have d2 := k0.cell (k := 2) rfl
  have d3 := k0.cell (k := 3) rfl
  clear hR k0 k1 hB hS hc ha hl hn64 hfr hfr2 hfm HAK epts eRR eN hRN hP0 ei0 hpl
  go_enter Try.func46, Try.ntmps46
  go_upto_region 1 with (fail)
  rw [← hW]
  obtain ⟨bS, ebS⟩ : ∃ b, b = w.heap.size := ⟨_, rfl⟩
  obtain ⟨bP, ebP⟩ : ∃ b, b = w.heap.size + 1 := ⟨_, rfl⟩
  rw [← ebP, ← ebS]
  rw [← ebS] at HK d0 d1 d2 d3
  rw [← ebP] at HK1
  have EBS := Lib.hid ebS
  clear hW ebS ebP
  go_upto_region 2 with (go_at_call 45; refine HPS.out.mono ?_; rintro e w1 ⟨vP, rfl, hpo, hb1⟩; obtain ⟨Ap, cp, rfl⟩ := hpo.shape; have HPT := Lib.hid hpo; have HB1 := Lib.hid hb1; have HK := Lib.hid (HK.out.below hb1); have HK1 := Lib.hid (HK1.out.below hb1); clear hb1 hpo)
  rw [HPL.out]
  clear d0 d1 d2 d3 HPS
  go_upto_region 3 with (fail)
  have hrw := Blk.new w1 (madeCells #[.bool false] N) 4
  have hba := below_alloc w1 (.cells (madeCells #[.bool false] N) 4)
  obtain ⟨W2, eW2⟩ : ∃ W2, W2 = w1.alloc (.cells (madeCells #[.bool false] N) 4) := ⟨_, rfl⟩
  rw [← eW2] at hrw hba ⊢
  obtain ⟨gF, egF⟩ : ∃ g, g = w1.heap.size := ⟨_, rfl⟩
  rw [← egF] at hrw ⊢
  have p0 := (HK1.out.below hba).cell (k := 0) rfl
  have p1 := (HK1.out.below hba).cell (k := 1) rfl
  have HRW := Lib.hid hrw
  have HBA := Lib.hid hba
  have EGF := Lib.hid egF
  clear hrw hba eW2 egF hmk
  go_upto_region 4 with (fail)
  have hlit := World.ownsRow_lit (base := w1.heap.size) (e := 26) (size := 2) W2 #[.int .i64 r, .int .i64 t] 1 HBA.out.size (by decide) rfl
  have hba := below_alloc W2 (.cells #[.int .i64 r, .int .i64 t] 26)
  obtain ⟨W3, eW3⟩ : ∃ W3, W3 = W2.alloc (.cells #[.int .i64 r, .int .i64 t] 26) := ⟨_, rfl⟩
  rw [← eW3] at hlit hba ⊢
  have hS0 : SkI w1 W3 gF N pts (fun _ => false) [i0] (.slice (some ⟨W2.heap.size, 0, none⟩) 1 1) :=
    ⟨below_trans HBA.out hba, by have := HRW.out.below hba; rwa [madeCells_bool] at this, by
      show W3.ownsRow _ _ _ _ _ _
      rw [List.map_cons, List.map_nil, HP0.out]
      exact hlit, Nat.le_of_eq EGF.out.symm⟩
  have HS0 := Lib.hid hS0
  clear p0 p1 hlit hba eW3 hS0 HRW HBA
  have hsz1 := HB1.out.size
  go_wp2_with fail
  go_loopw [7, 8] (fun lv iv wr => ∃ (x : Nat) (S : Nat → Bool) (q : List Nat), x ≤ q.length ∧ iv = .int .i64 x ∧ SkI w1 wr gF N pts S q lv ∧ Hid (Seek RR N i0 S q x)) (fun _ iv _ => N + 1 - (intOf iv).toNat)
  case atStart => exact ⟨0, _, [i0], Nat.zero_le _, rfl, HS0.out, Lib.hid (Seek.start RR hpos)⟩
  case round =>
    clear HS0
    obtain ⟨x, S, q, hx, rfl, hI, HQ⟩ := hrel
    have HI := Lib.hid hI
    obtain ⟨Aq, cq, eq⟩ := hI.que.shape
    rw [List.length_map] at eq
    subst eq
    obtain ⟨Q, eQ⟩ : ∃ Q, Q = q.length := ⟨_, rfl⟩
    have EQ := Lib.hid eQ
    rw [← eQ] at hx HI ⊢
    have hQN : Q ≤ N + 1 := by rw [eQ]; have := HQ.out.len; omega
    clear hI eQ
    by_cases hlt : x < Q
    · have hxx : (x : Int) < (Q : Int) := by omega
      obtain ⟨j, hj⟩ : ∃ j, q[x]? = some j := ⟨_, List.getElem?_eq_getElem (by rw [← EQ.out]; exact hlt)⟩
      have HQ2 := Lib.hid (HQ.out.step hj (HRN.out j))
      have HJ := Lib.hid hj
      have hjN : j < N := HQ.out.lt j (List.mem_of_getElem? hj)
      clear hj
      go_wp2_with fail
      go_loopw [7, 9] (fun lv kv wz => ∃ k : Nat, k ≤ N ∧ kv = .int .i64 k ∧ SkI w1 wz gF N pts (bfsF S q (seekL RR j k)).1 (bfsF S q (seekL RR j k)).2 lv) (fun _ kv _ => N - (intOf kv).toNat)
      case atStart => exact ⟨0, Nat.zero_le _, rfl, HI.out⟩
      case round =>
        clear HI
        obtain ⟨k, hk, rfl, hI⟩ := hrel
        have HI := Lib.hid hI
        obtain ⟨Az, cz, eq⟩ := hI.que.shape
        by_cases hkN : k < N
        · have hkk : (k : Int) < (N : Int) := by omega
          have hkg : pts[k]? = some (ptG pts k) := by
            have hk2 : k < pts.length := by rw [HPL.out]; exact hkN
            rw [List.getElem?_eq_getElem hk2]
            unfold ptG
            rw [List.getD_eq_getElem?_getD, List.getElem?_eq_getElem hk2]
            rfl
          have hbw := hI.below
          obtain ⟨gp, kp, ep, p0, p1⟩ := pnO_at (HPT.out.below hbw) hkg
          injection ep with ep1 ep2 ep3
          subst ep1
          obtain ⟨new, en, -⟩ := bfsF_snd S q (seekL RR j k)
          have hjq : ((bfsF S q (seekL RR j k)).2.map (ptG pts))[x]? = some (ptG pts j) := by
            rw [en, List.getElem?_map, List.getElem?_append_left (by rw [← EQ.out]; exact hlt), HJ.out]
            rfl
          obtain ⟨gq, kq, eqq, g0, g1⟩ := pnO_at hI.que hjq
          have HAX := Lib.hid (fun (X : World) (hX : Below wr.heap.size wr X) => HAL.out X (below_trans (below_trans HB1.out hbw) hX) j k hjN hkN)
          have hQZ := HQ.out.short (j := j) hk
          have c0 : wr.cell? ⟨gF, k, none⟩ = some (.bool (S k)) := by
            have := hI.row.cell (boolA_get hkN)
            rwa [seek_at] at this
          clear eq
          rw [List.length_map] at eqq
          subst eqq
          have hQ1 : x < (bfsF S q (seekL RR j k)).2.length := by rw [en, List.length_append, ← EQ.out]; omega
          obtain ⟨Q1, eQ1⟩ : ∃ Q1, Q1 = (bfsF S q (seekL RR j k)).2.length := ⟨_, rfl⟩
          rw [← eQ1] at hQ1 hQZ HI ⊢
          have EQ1 := Lib.hid eQ1
          have hx1 : (x : Int) < (Q1 : Int) := by omega
          obtain ⟨j1, ej1⟩ : ∃ p, p = (ptG pts j).1 := ⟨_, rfl⟩
          obtain ⟨j2, ej2⟩ : ∃ p, p = (ptG pts j).2 := ⟨_, rfl⟩
          obtain ⟨k1, ek1⟩ : ∃ p, p = (ptG pts k).1 := ⟨_, rfl⟩
          obtain ⟨k2, ek2⟩ : ∃ p, p = (ptG pts k).2 := ⟨_, rfl⟩
          rw [← ej1, ← ej2, ← ek1, ← ek2] at HAX
          rw [← ej1] at g0
          rw [← ej2] at g1
          rw [← ek1] at p0
          rw [← ek2] at p1
          have HPK := Lib.hid (show ptG pts k = (k1, k2) by rw [ek1, ek2])
          have q0 := ((HK.out.below hbw)).cell (k := 0) rfl
          have q1 := ((HK.out.below hbw)).cell (k := 1) rfl
          have q2 := ((HK.out.below hbw)).cell (k := 2) rfl
          have q3 := ((HK.out.below hbw)).cell (k := 3) rfl
          have hb0 := Below.refl wr.heap.size wr
          have HSK := Lib.hid (show S k = S k from rfl)
          cases hS : S k with
          | true =>
            rw [hS] at c0
            have HNX := Lib.hid (seek_no (S := S) (q := q) (j := j) (R := RR) (k := k) (.inl hS))
            clear hS HSK HAX g0 g1 p0 p1 q0 q1 q2 q3 eQ1 ej1 ej2 ek1 ek2 hI en hjq hkg hb0 ep2 ep3 hbw
            go_wp2_with fail
            go_quiet (fail)
            go_wp2_with fail
            go_roundw
            case rel => exact ⟨k + 1, by omega, by go_num, by rw [HNX.out]; exact HI.out.kept (below_drewN (Below.refl _ _) _)⟩
            case measure => simp [intOf]; omega
          | false =>
            rw [hS] at c0
            have HSOF := Lib.hid (fun (z : World) (h : Below wr.heap.size wr z) => (⟨h, cell_below h q0, cell_below h q1, cell_below h q2, cell_below h q3, cell_below h c0, cell_below h g0, cell_below h g1, cell_below h p0, cell_below h p1⟩ : Below wr.heap.size wr z ∧ z.cell? ⟨bS, 0, none⟩ = some (.int .i64 a) ∧ z.cell? ⟨bS, 1, none⟩ = some (.int .i64 f) ∧ z.cell? ⟨bS, 2, none⟩ = some (.int .i64 l) ∧ z.cell? ⟨bS, 3, none⟩ = some (.slice A n c) ∧ z.cell? ⟨gF, k, none⟩ = some (.bool false) ∧ z.cell? ⟨gq, x * 2, none⟩ = some (.int .i64 j1) ∧ z.cell? ⟨gq, x * 2 + 1, none⟩ = some (.int .i64 j2) ∧ z.cell? ⟨gp, k * 2, none⟩ = some (.int .i64 k1) ∧ z.cell? ⟨gp, k * 2 + 1, none⟩ = some (.int .i64 k2)))
            cases hR : RR j k with
            | false =>
              have HNX := Lib.hid (seek_no (S := S) (q := q) (j := j) (R := RR) (k := k) (.inr hR))
              rw [hR] at HAX
              clear hS hR HSK g0 g1 p0 p1 q0 q1 q2 q3 c0 eQ1 ej1 ej2 ek1 ek2 hI en hjq hkg ep2 ep3 hbw
              go_upto_region 10 with (fail)
              go_region_held3 (fun z => Below wr.heap.size wr z ∧ z.cell? ⟨bS, 0, none⟩ = some (.int .i64 a) ∧ z.cell? ⟨bS, 1, none⟩ = some (.int .i64 f) ∧ z.cell? ⟨bS, 2, none⟩ = some (.int .i64 l) ∧ z.cell? ⟨bS, 3, none⟩ = some (.slice A n c) ∧ z.cell? ⟨gF, k, none⟩ = some (.bool false) ∧ z.cell? ⟨gq, x * 2, none⟩ = some (.int .i64 j1) ∧ z.cell? ⟨gq, x * 2 + 1, none⟩ = some (.int .i64 j2) ∧ z.cell? ⟨gp, k * 2, none⟩ = some (.int .i64 k1) ∧ z.cell? ⟨gp, k * 2 + 1, none⟩ = some (.int .i64 k2)) (first | exact HSOF.out _ (by assumption) | exact HSOF.out _ (below_drew hb0) | exact HSOF.out _ (below_trans (And.left (by assumption)) (by assumption)))
                ((go_at_call 62; refine (HAX.out _ (And.left (by assumption))).mono ?_; rintro e w7 ⟨rfl, hb1⟩; have HB7 := below_trans (And.left (by assumption)) hb1; clear hb1))
              all_goals (
                have hbz := And.left (by assumption : Below wr.heap.size wr _ ∧ _)
                go_wp2_with fail
                go_roundw
                case rel => exact ⟨k + 1, by omega, by go_num, by rw [HNX.out]; exact HI.out.kept hbz⟩
                case measure => simp [intOf]; omega)
            | true =>
              have HNX := Lib.hid (seek_yes (q := q) hS hR)
              rw [hR] at HAX
              clear hS hR HSK g0 g1 p0 p1 q0 q1 q2 q3 c0 eQ1 ej1 ej2 ek1 ek2 hI en hjq hkg ep2 ep3 hbw
              go_upto_region 10 with (fail)
              go_region_held3 (fun z => Below wr.heap.size wr z ∧ z.cell? ⟨bS, 0, none⟩ = some (.int .i64 a) ∧ z.cell? ⟨bS, 1, none⟩ = some (.int .i64 f) ∧ z.cell? ⟨bS, 2, none⟩ = some (.int .i64 l) ∧ z.cell? ⟨bS, 3, none⟩ = some (.slice A n c) ∧ z.cell? ⟨gF, k, none⟩ = some (.bool false) ∧ z.cell? ⟨gq, x * 2, none⟩ = some (.int .i64 j1) ∧ z.cell? ⟨gq, x * 2 + 1, none⟩ = some (.int .i64 j2) ∧ z.cell? ⟨gp, k * 2, none⟩ = some (.int .i64 k1) ∧ z.cell? ⟨gp, k * 2 + 1, none⟩ = some (.int .i64 k2)) (first | exact HSOF.out _ (by assumption) | exact HSOF.out _ (below_drew hb0) | exact HSOF.out _ (below_trans (And.left (by assumption)) (by assumption)))
                ((go_at_call 62; refine (HAX.out _ (And.left (by assumption))).mono ?_; rintro e w7 ⟨rfl, hb1⟩; have HB7 := below_trans (And.left (by assumption)) hb1; clear hb1))
              all_goals (
                have HI7 := Lib.hid (HI.out.kept HB7)
                have c0 := HI7.out.row.cell (boolA_get hkN)
                have fz : w7.frozen? ⟨gF, k, none⟩ = false := HI7.out.row.frozen
                rename_i hz
                clear hz HB7 hb0
                go_upto_region 12 with (fail)
                obtain ⟨W8, eW8⟩ : ∃ W8, W8 = w7.setCell ⟨gF, k, none⟩ (.bool true) := ⟨_, rfl⟩
                have HI8 := HI7.out.found hkN
                rw [← eW8] at HI8 ⊢
                obtain ⟨gp', kp', ep', p0, p1⟩ := pnO_at (HPT.out.below HI8.below) (show pts[k]? = some (k1, k2) by
                  have hk2 : k < pts.length := by rw [HPL.out]; exact hkN
                  rw [← HPK.out, List.getElem?_eq_getElem hk2]
                  unfold ptG
                  rw [List.getD_eq_getElem?_getD, List.getElem?_eq_getElem hk2]
                  rfl)
                injection ep' with ep1 _ _
                injection ep1 with ep1
                injection ep1 with epb _ _
                subst epb
                have HO2 := Lib.hid HI8.que
                unfold PnO at HO2
                rw [List.length_map, ← EQ1.out] at HO2
                have hsz2 := HI8.below.size
                have HI8 := Lib.hid HI8
                have hmap : ((bfsF S q (seekL RR j k)).2 ++ [k]).map (ptG pts) = (bfsF S q (seekL RR j k)).2.map (ptG pts) ++ [(k1, k2)] := by rw [List.map_append, List.map_cons, HPK.out]; rfl
                have HMP := Lib.hid hmap
                clear c0 fz eW8 hmap HI7
                dsimp only at p0 p1
                go_wp2_with (at_builtin; obtain ⟨ii, hi, hz0, hz1, hz2⟩ := info_parts Try.infoPoint; refine wpList_append_own_at _ rfl _ _ 29 rfl w1.heap.size 26 ii _ 2 16 Try.underlying29 hi hz0 hz1 hz2 rfl (by decide) _ _ _ rfl (own_alloc' HO2.out _) ⟨W8.heap.size, 0, none⟩ 1 1 [.int .i64 k1, .int .i64 k2] rfl rfl (World.news_of_block (cs := #[.int .i64 k1, .int .i64 k2]) (t := 26) (fr := (0, 0)) (heap_alloc_new W8 _)) (by simp [Value.oneCell']) (by unfold maxLen; omega) (by omega) (by simp; omega) ?_; intro v' w9 hown' hgrow _ _; have HOW := Lib.hid hown'; have HGR := Lib.hid hgrow; clear hown' hgrow hi hz0 hz1 hz2)
                go_roundw
                case rel =>
                  refine ⟨k + 1, by omega, by go_num, ?_⟩
                  rw [HNX.out]
                  refine HI8.out.push ?_ HGR.out
                  unfold PnO
                  rw [HMP.out, crL_snoc, List.length_append, List.length_map, ← EQ1.out]
                  exact HOW.out
                case measure => simp [intOf]; omega)
        · obtain rfl : k = N := by omega
          have hkk : ¬ (k : Int) < (k : Int) := by omega
          have hlen : x + 1 ≤ (bfsF S q (seekL RR j k)).2.length := by
            obtain ⟨new, en, -⟩ := bfsF_snd S q (seekL RR j k)
            rw [en, List.length_append, ← EQ.out]
            omega
          have HLN := Lib.hid hlen
          clear eq hI hlen
          go_wp2_with fail
          go_roundw
          case rel => exact ⟨x + 1, _, _, HLN.out, by go_num, HI.out, HQ2⟩
          case measure => simp [intOf]; omega
    · obtain rfl : x = Q := by omega
      have hxx : ¬ (x : Int) < (x : Int) := by omega
      have hQe := HQ.out
      rw [EQ.out] at hQe
      have HEND := Lib.hid hQe.end
      clear hQe
      go_wp2_with fail
      go_ret
      exact ⟨gF, rfl, S, HI.out.row, HEND.out, by rw [EGF.out]; exact Nat.le_trans HB.out.size hsz1, HB.out.trans ((HB1.out.trans (HI.out.below.mono hsz1)).mono HB.out.size)⟩
end Go.Proofs.Ytahaimecchdfeaa

/-
  Walks: the reference's Component and Common.
-/
namespace Go.Proofs.Ytahaimecchdfeaa
open Go.RowKit

set_option maxHeartbeats 4000000 in
theorem rComponent_any (x : Value) (a f l : Int) (n : Nat) (T : Nat → Nat) (m : Nat → Nat → Nat) (L : Nat → Nat → Nat → Int) (K : Nat → Nat) (F : Nat → Nat → Nat) (r t : Int) (w : World) (h : SysR w x a f l n T m L K F) (hn : n ≤ 65536) :
    Calls Try.prog 15 #[x, .agg #[.int .i64 r, .int .i64 t]] w fun e w' => ∃ v, e = .returned (.tuple #[v, .int .i64 (entE a f l n T m K F r t : Nat)]) ∧ PnO w' w.heap.size v (cmpP a f l n T m L K F r t) ∧ Below w.heap.size w w' := by
  obtain ⟨A, c, rfl, hR⟩ := h
  obtain ⟨W, hW⟩ : ∃ W, W = (w.alloc (.cells #[.int .i64 a, .int .i64 f, .int .i64 l, .slice A n c] 24)).alloc (.cells #[.int .i64 r, .int .i64 t] 26) := ⟨_, rfl⟩
  obtain ⟨k0, k1, hB⟩ := two_boxes4 w _ _ _ _ W hW
  have hS : SysR W (.agg #[.int .i64 a, .int .i64 f, .int .i64 l, .slice A n c]) a f l n T m L K F := ⟨A, c, rfl, hR.below hB⟩
  have HS := Lib.hid hS
  have HK := Lib.hid k0
  have HK1 := Lib.hid k1
  have HB := Lib.hid hB
  have HCK := Lib.hid (refCheck_any _ _ _ _ _ _ _ _ _ _ W hS hn)
  have HPO := Lib.hid (fun (X : World) (hX : Below W.heap.size W X) => rpoint_any _ _ _ _ _ _ _ _ _ _ r t X (sys_below hS hX))
  have HEN : Hid (entE a f l n T m K F r t = if chkE a f l n T m K F = 0 then (if inP n l.toNat r t then 0 else 2) else chkE a f l n T m K F) := Lib.hid rfl
  have HCP : Hid (∀ v, entE a f l n T m K F r t = 0 → v = (cmpL (akS a l n L) (n * l.toNat) (posP l r t)).map (ptG (ptL n l.toNat)) → cmpP a f l n T m L K F r t = v) := Lib.hid (fun v h e => by unfold cmpP; rw [if_pos h, e])
  have HCN : Hid (entE a f l n T m K F r t ≠ 0 → cmpP a f l n T m L K F r t = []) := Lib.hid (fun h => by unfold cmpP; rw [if_neg h])
  obtain ⟨EE, eEE⟩ : ∃ E, E = entE a f l n T m K F r t := ⟨_, rfl⟩
  rw [← eEE] at HEN HCP HCN ⊢
  obtain ⟨CE, eCE⟩ : ∃ E, E = chkE a f l n T m K F := ⟨_, rfl⟩
  have HCE := Lib.hid eCE
  rw [← eCE] at HCK HEN
  have d0 := k0.cell (k := 0) rfl
  have d1 := k0.cell (k := 1) rfl
  have d2 := k0.cell (k := 2) rfl
  have d3 := k0.cell (k := 3) rfl
  clear eEE eCE k0 k1 hB hS hR
  go_enter Try.func15, Try.ntmps15
  go_upto_region 1 with (fail)
  rw [← hW]
  obtain ⟨bS, ebS⟩ : ∃ b, b = w.heap.size := ⟨_, rfl⟩
  obtain ⟨bP, ebP⟩ : ∃ b, b = w.heap.size + 1 := ⟨_, rfl⟩
  rw [← ebP, ← ebS]
  rw [← ebS] at HK d0 d1 d2 d3
  rw [← ebP] at HK1
  clear hW ebS ebP
  go_upto_region 2 with (go_at_call 43; refine HCK.out.mono ?_; rintro e w1 ⟨rfl, hb1⟩; have HB1 := Lib.hid hb1; clear hb1)
  clear d0 d1 d2 d3 HCK
  by_cases hC : CE = 0
  case neg =>
    have t1 : ((CE : Int) != 0) = true := by rw [bne_iff_ne]; omega
    have hE2 := HEN.out
    rw [if_neg hC] at hE2
    have HE2 := Lib.hid hE2
    have HCV := Lib.hid (HCN.out (by omega))
    clear hC hE2
    go_wp2_with fail
    go_ret2
    exact ⟨_, by rw [HE2.out]; rfl, by rw [HCV.out]; exact World.ownsRow_nil _ _ _ _, below_trans HB.out HB1.out⟩
  subst hC
  rw [show (((0 : Nat)) : Int) = 0 from rfl]
  have hE2 := HEN.out
  rw [if_pos rfl] at hE2
  have hPO := HPO.out w1 HB1.out
  have d0 := (HK.out.below HB1.out).cell (k := 0) rfl
  have d1 := (HK.out.below HB1.out).cell (k := 1) rfl
  have d2 := (HK.out.below HB1.out).cell (k := 2) rfl
  have d3 := (HK.out.below HB1.out).cell (k := 3) rfl
  have p0 := (HK1.out.below HB1.out).cell (k := 0) rfl
  have p1 := (HK1.out.below HB1.out).cell (k := 1) rfl
  by_cases hP : inP n l.toNat r t
  case neg =>
    rw [if_neg hP] at hE2
    rw [decide_eq_false hP] at hPO
    have HPX := Lib.hid hPO
    have HE2 := Lib.hid hE2
    have HCV := Lib.hid (HCN.out (by omega))
    clear hP hE2 hPO HPO
    go_wp2_with (go_at_call 44; refine HPX.out.mono ?_; rintro e w2 ⟨rfl, hb1⟩; have HB2 := Lib.hid (below_trans HB1.out hb1); clear hb1)
    go_ret2
    exact ⟨_, by rw [HE2.out]; rfl, by rw [HCV.out]; exact World.ownsRow_nil _ _ _ _, below_trans HB.out HB2.out⟩
  rw [if_pos hP] at hE2
  rw [decide_eq_true hP] at hPO
  have HPX := Lib.hid hPO
  have HE2 := Lib.hid hE2
  obtain ⟨ha4, -, hl, hn64, -, -, -, -⟩ := chkE_ok HCE.out.symm
  obtain ⟨l', rfl⟩ : ∃ q : Nat, l = q := ⟨l.toNat, by omega⟩
  obtain ⟨a', rfl⟩ : ∃ q : Nat, a = q := ⟨a.toNat, by omega⟩
  rw [Int.toNat_natCast] at hP
  obtain ⟨⟨hr0, hr1⟩, ht0, ht1⟩ := hP
  obtain ⟨r', rfl⟩ : ∃ q : Nat, r = q := ⟨r.toNat, by omega⟩
  obtain ⟨t', rfl⟩ : ∃ q : Nat, t = q := ⟨t.toNat, by omega⟩
  have hr : r' < n := by omega
  have ht : t' < l' := by omega
  have hNl : n * l' ≤ 1024 := Nat.le_trans (Nat.mul_le_mul hn64 (show l' ≤ 16 by omega)) (by decide)
  have HPT1 := Lib.hid (fun (X : World) (hX : Below W.heap.size W X) => rPoints_any _ _ _ _ _ _ _ _ _ _ X (sys_below HS.out hX) hn HCE.out.symm)
  have HRE1 := Lib.hid (fun (X : World) (hX : Below W.heap.size W X) => rreached_any _ a' l' n f T m L K F r' t' X (sys_below HS.out hX) HCE.out.symm hr ht)
  have HCV : Hid (∀ S : Nat → Bool, (∀ k, S k = true ↔ Rch (akB a' L (ptL n l')) (r' * l' + t') k) → cmpP a' f l' n T m L K F r' t' = ((List.range (n * l')).filter S).map (ptG (ptL n l'))) := Lib.hid fun S hS => by
    refine HCP.out _ HE2.out ?_
    congr 1
    exact cmpL_eq fun k _ => hS k
  obtain ⟨N, eN⟩ : ∃ N, N = n * l' := ⟨_, rfl⟩
  obtain ⟨pts, epts⟩ : ∃ p, p = ptL n l' := ⟨_, rfl⟩
  have hpl : pts.length = N := by rw [epts, ptL_len, eN]
  rw [← eN, ← epts] at HRE1 HCV
  rw [← epts] at HPT1
  rw [← eN] at hNl
  have HPL := Lib.hid hpl
  clear hE2 hPO HPO HCP HCN HEN HCE hl hn64 ha4 hr0 hr1 ht0 ht1 eN epts hpl hr ht HS
  go_upto_region 6 with (go_at_call 44; refine HPX.out.mono ?_; rintro e w2 ⟨rfl, hb1⟩; have HB2 := Lib.hid (below_trans HB1.out hb1); clear hb1)
  clear d0 d1 d2 d3 p0 p1 HPX HB1
  have d0 := (HK.out.below HB2.out).cell (k := 0) rfl
  have d1 := (HK.out.below HB2.out).cell (k := 1) rfl
  have d2 := (HK.out.below HB2.out).cell (k := 2) rfl
  have d3 := (HK.out.below HB2.out).cell (k := 3) rfl
  have p0 := (HK1.out.below HB2.out).cell (k := 0) rfl
  have p1 := (HK1.out.below HB2.out).cell (k := 1) rfl
  have hb0 := Below.refl w2.heap.size w2
  have HSOF := Lib.hid (fun (z : World) (h : Below w2.heap.size w2 z) => (⟨h, cell_below h d0, cell_below h d1, cell_below h d2, cell_below h d3, cell_below h p0, cell_below h p1⟩ : Below w2.heap.size w2 z ∧ z.cell? ⟨bS, 0, none⟩ = some (.int .i64 a') ∧ z.cell? ⟨bS, 1, none⟩ = some (.int .i64 f) ∧ z.cell? ⟨bS, 2, none⟩ = some (.int .i64 l') ∧ z.cell? ⟨bS, 3, none⟩ = some (.slice A n c) ∧ z.cell? ⟨bP, 0, none⟩ = some (.int .i64 r') ∧ z.cell? ⟨bP, 1, none⟩ = some (.int .i64 t')))
  clear d0 d1 d2 d3 p0 p1
  go_region_held3 (fun z => Below w2.heap.size w2 z ∧ z.cell? ⟨bS, 0, none⟩ = some (.int .i64 a') ∧ z.cell? ⟨bS, 1, none⟩ = some (.int .i64 f) ∧ z.cell? ⟨bS, 2, none⟩ = some (.int .i64 l') ∧ z.cell? ⟨bS, 3, none⟩ = some (.slice A n c) ∧ z.cell? ⟨bP, 0, none⟩ = some (.int .i64 r') ∧ z.cell? ⟨bP, 1, none⟩ = some (.int .i64 t')) (first | exact HSOF.out _ (by assumption) | exact HSOF.out _ (below_drew hb0) | exact HSOF.out _ (below_trans (And.left (by assumption)) (by assumption)))
    (first
      | (go_at_call 45; have hzz := And.left (by assumption : Below w2.heap.size w2 _ ∧ _); refine (HPT1.out _ (below_trans HB2.out hzz)).mono ?_; rintro e w7 ⟨vP, rfl, hpo, hb1⟩; obtain ⟨Ap, cp, rfl⟩ := hpo.shape; have HPP := Lib.hid (And.intro (own_mono' hpo hzz.size) (own_mono' hpo hzz.size)); (try have HRR := Lib.hid (And.intro (HRR.out.1.below hb1) HRR.out.2)); have HB7 := below_trans hzz hb1; clear hb1 hpo hzz)
      | (go_at_call 46; have hzz := And.left (by assumption : Below w2.heap.size w2 _ ∧ _); refine (HRE1.out _ (below_trans HB2.out hzz)).mono ?_; rintro e w7 ⟨gF, S, rfl, hrow, hrch, hge, hb1⟩; have HRR := Lib.hid (And.intro hrow (And.intro hrch (Nat.le_trans hzz.size hge))); (try have HPP := Lib.hid (And.intro (own_below' HPP.out.1 hb1 (Nat.le_refl _)) HPP.out.2)); have HB7 := below_trans hzz hb1; clear hb1 hrow hrch hge hzz)
      | fail)
  all_goals (
    rename_i hz
    clear hz
    have hpp := HPP.out.1
    rw [HPL.out] at hpp ⊢
    have hrr := HRR.out
    have HBW := Lib.hid (below_trans HB.out (below_trans HB2.out HB7))
    have HRW := Lib.hid hrr.1
    have HCX := Lib.hid (HCV.out S hrr.2.1)
    have HPP := Lib.hid (show PnO w7 w2.heap.size (.slice Ap N cp) pts by unfold PnO; rw [HPL.out]; exact hpp)
    clear HB7 hpp hrr hb0 HRR HCV HPT1 HRE1
    obtain ⟨V, eV⟩ : ∃ V, V = w7 := ⟨_, rfl⟩
    subst eV
    have hsz := HBW.out.size
    go_wp2_with fail
    go_loopw [9, 10] (fun lv jv wr => ∃ j : Nat, j ≤ N ∧ jv = .int .i64 j ∧ PnO wr V.heap.size lv (((List.range j).filter S).map (ptG pts)) ∧ Below V.heap.size V wr) (fun _ jv _ => N - (intOf jv).toNat)
    case atStart => exact ⟨0, Nat.zero_le _, rfl, World.ownsRow_nil _ _ _ _, Below.refl _ _⟩
    case round =>
      obtain ⟨j, hj, rfl, ho, hb⟩ := hrel
      have HBX := Lib.hid hb
      by_cases hlt : j < N
      · have hjj : (j : Int) < (N : Int) := by omega
        have hsz2 := hb.size
        have c1 : wr.cell? ⟨gF, j, none⟩ = some (.bool (S j)) := (HRW.out.below hb).cell (boolA_get hlt)
        obtain ⟨ys, eys⟩ : ∃ ys, ys = (List.range j).filter S := ⟨_, rfl⟩
        have hyl : ys.length ≤ 1024 := by
          rw [eys]
          refine Nat.le_trans (List.length_filter_le _ _) ?_
          rw [List.length_range]
          omega
        rw [← eys] at ho
        have HO := Lib.hid ho
        cases hSj : S j with
        | false =>
          have HE : Hid ((List.range (j + 1)).filter S = ys) := Lib.hid (by rw [List.range_succ, List.filter_append, List.filter_cons_of_neg (by simp [hSj]), eys]; simp)
          rw [hSj] at c1
          clear ho hb eys hSj
          go_wp2_with fail
          go_roundw
          case rel => exact ⟨j + 1, by omega, by go_num, by rw [HE.out]; exact HO.out, HBX.out⟩
          case measure => simp [intOf]; omega
        | true =>
          have HE : Hid ((List.range (j + 1)).filter S = ys ++ [j]) := Lib.hid (by rw [List.range_succ, List.filter_append, List.filter_cons_of_pos hSj, eys]; rfl)
          rw [hSj] at c1
          have hjl : j < pts.length := by rw [HPL.out]; exact hlt
          obtain ⟨k1, ek1⟩ : ∃ p, p = (ptG pts j).1 := ⟨_, rfl⟩
          obtain ⟨k2, ek2⟩ : ∃ p, p = (ptG pts j).2 := ⟨_, rfl⟩
          have hkg : pts[j]? = some (k1, k2) := by
            rw [List.getElem?_eq_getElem hjl, ek1, ek2]
            unfold ptG
            rw [List.getD_eq_getElem?_getD, List.getElem?_eq_getElem hjl]
            rfl
          obtain ⟨gp, kp, ep, p0, p1⟩ := pnO_at (HPP.out.below hb) hkg
          injection ep with ep1 ep2 ep3
          subst ep1
          dsimp only at p0 p1
          have hmap : (ys ++ [j]).map (ptG pts) = ys.map (ptG pts) ++ [(k1, k2)] := by rw [List.map_append, ek1, ek2]; rfl
          have HMP := Lib.hid hmap
          have HO2 := Lib.hid ho
          unfold PnO at HO2
          rw [List.length_map] at HO2
          clear ho hb eys hSj hkg ep2 ep3 hmap ek1 ek2 hjl HO
          go_wp2_with (at_builtin; obtain ⟨ii, hi, hz0, hz1, hz2⟩ := info_parts Try.infoPoint; refine wpList_append_own_at _ rfl _ _ 29 rfl V.heap.size 26 ii _ 2 16 Try.underlying29 hi hz0 hz1 hz2 rfl (by decide) _ _ _ rfl (own_alloc' HO2.out _) ⟨wr.heap.size, 0, none⟩ 1 1 [.int .i64 k1, .int .i64 k2] rfl rfl (World.news_of_block (cs := #[.int .i64 k1, .int .i64 k2]) (t := 26) (fr := (0, 0)) (heap_alloc_new wr _)) (by simp [Value.oneCell']) (by unfold maxLen; omega) (by omega) (by simp; omega) ?_; intro v' w9 hown' hgrow _ _; have HOW := Lib.hid hown'; have HB3 := Lib.hid (below_append HBX.out rfl HO2.out hgrow); clear hown' hgrow hi hz0 hz1 hz2)
          go_roundw
          case rel =>
            refine ⟨j + 1, by omega, by go_num, ?_, HB3.out⟩
            rw [HE.out]
            unfold PnO
            rw [HMP.out, crL_snoc, List.length_append, List.length_map]
            exact HOW.out
          case measure => simp [intOf]; omega
      · obtain rfl : j = N := by omega
        have hjj : ¬ (j : Int) < (j : Int) := by omega
        have HO := Lib.hid ho
        rw [← HCX.out] at HO
        clear ho hb
        go_wp2_with fail
        go_ret2
        exact ⟨_, by rw [HE2.out]; rfl, own_mono' HO.out hsz, HBW.out.trans (HBX.out.mono hsz)⟩)
theorem com_list (ks : List Nat) (fa : Nat → Bool) : (!ks.any fun k => fa k != fa (ks.getD 0 0)) = (ks.all fa || !ks.any fa) := by
  cases ks with
  | nil => rfl
  | cons x xs =>
    show (!(x :: xs).any fun k => fa k != fa x) = _
    have e : ∀ ys : List Nat, (ys.any fun k => fa k != true) = !ys.all fa := fun ys => by
      induction ys with
      | nil => rfl
      | cons y ys ih => rw [List.any_cons, List.all_cons, ih]; cases fa y <;> rfl
    have e2 : ∀ ys : List Nat, (ys.any fun k => fa k != false) = ys.any fa := fun ys => by
      induction ys with
      | nil => rfl
      | cons y ys ih => rw [List.any_cons, List.any_cons, ih]; cases fa y <;> rfl
    cases h : fa x with
    | true => rw [e, List.any_cons, h]; simp
    | false => rw [e2, List.all_cons, h]; simp
set_option maxHeartbeats 8000000 in
theorem rCommon_any (x : Value) (a f l : Int) (n : Nat) (T : Nat → Nat) (m : Nat → Nat → Nat) (L : Nat → Nat → Nat → Int) (K : Nat → Nat) (F : Nat → Nat → Nat) (r t fc : Int) (w : World) (h : SysR w x a f l n T m L K F) (hn : n ≤ 65536) :
    Calls Try.prog 17 #[x, .agg #[.int .i64 r, .int .i64 t], .int .i64 fc] w fun e w' => e = .returned (.tuple #[.bool (comV a f l n T m L K F r t fc), .int .i64 (comE a f l n T m K F r t fc : Nat)]) ∧ Below w.heap.size w w' := by
  obtain ⟨A, c, rfl, hR⟩ := h
  obtain ⟨W, hW⟩ : ∃ W, W = (w.alloc (.cells #[.int .i64 a, .int .i64 f, .int .i64 l, .slice A n c] 24)).alloc (.cells #[.int .i64 r, .int .i64 t] 26) := ⟨_, rfl⟩
  obtain ⟨k0, k1, hB⟩ := two_boxes4 w _ _ _ _ W hW
  have hS : SysR W (.agg #[.int .i64 a, .int .i64 f, .int .i64 l, .slice A n c]) a f l n T m L K F := ⟨A, c, rfl, hR.below hB⟩
  have HS := Lib.hid hS
  have HK := Lib.hid k0
  have HK1 := Lib.hid k1
  have HB := Lib.hid hB
  have HCO := Lib.hid (rComponent_any _ _ _ _ _ _ _ _ _ _ r t W hS hn)
  have HEN : Hid (comE a f l n T m K F r t fc = if entE a f l n T m K F r t = 0 then (if 0 ≤ fc ∧ fc < f then 0 else 2) else entE a f l n T m K F r t) := Lib.hid rfl
  have HVN : Hid (comE a f l n T m K F r t fc ≠ 0 → comV a f l n T m L K F r t fc = false) := Lib.hid (fun h => by unfold comV; rw [decide_eq_false h]; rfl)
  have HVY : Hid (comE a f l n T m K F r t fc = 0 → comV a f l n T m L K F r t fc = ((cmpL (akS a l n L) (n * l.toNat) (posP l r t)).all (facK F n l fc.toNat) || !(cmpL (akS a l n L) (n * l.toNat) (posP l r t)).any (facK F n l fc.toNat))) := Lib.hid (fun h => by unfold comV; rw [decide_eq_true h, Bool.true_and]; exact com_list _ _)
  have HCP : Hid (entE a f l n T m K F r t = 0 → chkE a f l n T m K F = 0 ∧ cmpP a f l n T m L K F r t = (cmpL (akS a l n L) (n * l.toNat) (posP l r t)).map (ptG (ptL n l.toNat))) := Lib.hid (fun h => by
    refine ⟨?_, by unfold cmpP; rw [if_pos h]⟩
    unfold entE at h
    by_cases hc : chkE a f l n T m K F = 0
    · exact hc
    · rw [if_neg hc] at h; exact absurd h hc)
  obtain ⟨VV, eVV⟩ : ∃ E, E = comV a f l n T m L K F r t fc := ⟨_, rfl⟩
  obtain ⟨EE, eEE⟩ : ∃ E, E = comE a f l n T m K F r t fc := ⟨_, rfl⟩
  rw [← eEE] at HEN HVN HVY ⊢
  rw [← eVV] at HVN HVY ⊢
  obtain ⟨CE, eCE⟩ : ∃ E, E = entE a f l n T m K F r t := ⟨_, rfl⟩
  rw [← eCE] at HCO HEN HCP
  obtain ⟨cp, ecp⟩ : ∃ E, E = cmpP a f l n T m L K F r t := ⟨_, rfl⟩
  rw [← ecp] at HCO HCP
  have d0 := k0.cell (k := 0) rfl
  have d1 := k0.cell (k := 1) rfl
  have d2 := k0.cell (k := 2) rfl
  have d3 := k0.cell (k := 3) rfl
  have p0 := k1.cell (k := 0) rfl
  have p1 := k1.cell (k := 1) rfl
  clear eEE eVV eCE ecp k0 k1 hB hS hR
  go_enter Try.func17, Try.ntmps17
  go_upto_region 1 with (fail)
  rw [← hW]
  obtain ⟨bS, ebS⟩ : ∃ b, b = w.heap.size := ⟨_, rfl⟩
  obtain ⟨bP, ebP⟩ : ∃ b, b = w.heap.size + 1 := ⟨_, rfl⟩
  rw [← ebP, ← ebS]
  rw [← ebS] at HK d0 d1 d2 d3
  rw [← ebP] at HK1 p0 p1
  clear hW ebS ebP
  go_upto_region 2 with (go_at_call 15; refine HCO.out.mono ?_; rintro e w1 ⟨v, rfl, hpo, hb1⟩; have HB1 := Lib.hid hb1; have HPP := Lib.hid hpo; clear hb1 hpo)
  clear d0 d1 d2 d3 p0 p1 HCO
  have d1 := (HK.out.below HB1.out).cell (k := 1) rfl
  by_cases hC : CE = 0
  case neg =>
    have t1 : ((CE : Int) != 0) = true := by rw [bne_iff_ne]; omega
    have hE2 := HEN.out
    rw [if_neg hC] at hE2
    have HE2 := Lib.hid hE2
    have HV2 := Lib.hid (HVN.out (by omega))
    clear hC hE2
    go_wp2_with fail
    go_ret2
    exact ⟨by rw [HV2.out, HE2.out]; rfl, below_trans HB.out HB1.out⟩
  subst hC
  rw [show (((0 : Nat)) : Int) = 0 from rfl]
  have hE2 := HEN.out
  rw [if_pos rfl] at hE2
  by_cases hf : 0 ≤ fc ∧ fc < f
  case neg =>
    rw [if_neg hf] at hE2
    have HE2 := Lib.hid hE2
    have HV2 := Lib.hid (HVN.out (by omega))
    by_cases h0 : fc < 0
    · have t2 : decide (fc < 0) = true := decide_eq_true h0
      clear hf h0 hE2
      go_wp2_with fail
      go_ret2
      exact ⟨by rw [HV2.out, HE2.out]; rfl, below_trans HB.out HB1.out⟩
    · have t2 : decide (fc < 0) = false := decide_eq_false h0
      have hff : f ≤ fc := by omega
      have t3 : decide (fc ≥ f) = true := decide_eq_true hff
      have t3' : decide (f ≤ fc) = true := decide_eq_true hff
      clear hf h0 hE2
      go_wp2_with fail
      go_ret2
      exact ⟨by rw [HV2.out, HE2.out]; rfl, below_trans HB.out HB1.out⟩
  rw [if_pos hf] at hE2
  have t2 : decide (fc < 0) = false := decide_eq_false (by omega)
  have t3 : decide (fc ≥ f) = false := decide_eq_false (by omega)
  have t3' : decide (f ≤ fc) = false := decide_eq_false (by omega)
  have HE2 := Lib.hid hE2
  have hV2 := HVY.out hE2
  obtain ⟨hck, hcp⟩ := HCP.out rfl
  obtain ⟨ha4, hf8, hl, hn64, -, -, hfr, -⟩ := chkE_ok hck
  obtain ⟨l', rfl⟩ : ∃ q : Nat, l = q := ⟨l.toNat, by omega⟩
  obtain ⟨a', rfl⟩ : ∃ q : Nat, a = q := ⟨a.toNat, by omega⟩
  obtain ⟨fc', rfl⟩ : ∃ q : Nat, fc = q := ⟨fc.toNat, by omega⟩
  rw [Int.toNat_natCast, Int.toNat_natCast] at hV2
  rw [Int.toNat_natCast] at hcp
  have hNl : n * l' ≤ 1024 := Nat.le_trans (Nat.mul_le_mul hn64 (show l' ≤ 16 by omega)) (by decide)
  have hmem : ∀ k, k ∈ cmpL (akS a' l' n L) (n * l') (posP l' r t) → k < n * l' := fun k hk => (mem_cmpL.1 hk).1
  have hlen := cmpL_len (akS a' l' n L) (n * l') (posP l' r t)
  have hFA : ∀ (X : World), Below W.heap.size W X → ∀ k, k < n * l' → Calls Try.prog 50 #[.agg #[.int .i64 a', .int .i64 f, .int .i64 l', .slice A n c], .agg #[.int .i64 (ptG (ptL n l') k).1, .int .i64 (ptG (ptL n l') k).2], .int .i64 fc'] X fun e w' => e = .returned (.bool (facK F n l' fc' k)) ∧ Below X.heap.size X w' := fun X hX k hk => by
    obtain ⟨r1, t1, e1, h1, h2, h3⟩ := ptG_at hk
    have h4 := (hfr r1 h1).2.1
    have := rfact_any _ _ _ _ _ _ _ _ _ _ r1 t1 fc' X (sys_below HS.out hX) h1 (by omega) (by omega)
    unfold facK
    rw [Int.toNat_natCast, e1]
    exact this
  obtain ⟨ks, eks⟩ : ∃ q, q = cmpL (akS a' l' n L) (n * l') (posP l' r t) := ⟨_, rfl⟩
  obtain ⟨FA, eFA⟩ : ∃ q : Nat → Bool, q = facK F n l' fc' := ⟨_, rfl⟩
  have HF := Lib.hid (show ∀ (X : World), Below W.heap.size W X → ∀ k, k < n * l' → Calls Try.prog 50 #[.agg #[.int .i64 a', .int .i64 f, .int .i64 l', .slice A n c], .agg #[.int .i64 (ptG (ptL n l') k).1, .int .i64 (ptG (ptL n l') k).2], .int .i64 fc'] X fun e w' => e = .returned (.bool (FA k)) ∧ Below X.heap.size X w' by rw [eFA]; exact hFA)
  rw [← eks, ← eFA] at hV2
  rw [← eks] at hcp hmem hlen
  obtain ⟨N, eN⟩ : ∃ N, N = n * l' := ⟨_, rfl⟩
  obtain ⟨pts, epts⟩ : ∃ p, p = ptL n l' := ⟨_, rfl⟩
  rw [← eN, ← epts] at HF
  rw [← eN] at hmem hlen hNl
  rw [← epts] at hcp
  have hpp := HPP.out
  rw [hcp] at hpp
  obtain ⟨Ap, kp, ep⟩ := hpp.shape
  rw [List.length_map] at ep
  subst ep
  obtain ⟨len, elen⟩ : ∃ q, q = ks.length := ⟨_, rfl⟩
  rw [← elen] at hpp hlen ⊢
  have HPP := Lib.hid hpp
  have HV2 := Lib.hid hV2
  have HMEM := Lib.hid hmem
  have ELN := Lib.hid elen
  obtain ⟨V, eV⟩ : ∃ V, V = w1 := ⟨_, rfl⟩
  subst eV
  clear hf hE2 HEN HVN HVY HCP hV2 hck hcp ha4 hf8 hl hn64 hfr hFA eks eFA hmem eN epts hpp elen HS
  go_wp2_with fail
  clear d1 t2 t3 t3'
  go_loopw [10, 11, 12] (fun sv av iv wr => ∃ i : Nat, i ≤ len ∧ sv = .bool ((ks.take i).any FA) ∧ av = .bool ((ks.take i).all FA) ∧ iv = .int .i64 i ∧ Below V.heap.size V wr) (fun _ _ iv _ => len - (intOf iv).toNat)
  case atStart => exact ⟨0, Nat.zero_le _, rfl, rfl, rfl, Below.refl _ _⟩
  case round =>
    obtain ⟨i, hi, rfl, rfl, rfl, hb⟩ := hrel
    have HBX := Lib.hid hb
    by_cases hlt : i < len
    · have hii : (i : Int) < (len : Int) := by omega
      obtain ⟨k, hk⟩ : ∃ k, ks[i]? = some k := ⟨_, List.getElem?_eq_getElem (by rw [← ELN.out]; exact hlt)⟩
      have hkN := HMEM.out k (List.mem_of_getElem? hk)
      have hkm : (ks.map (ptG pts))[i]? = some (ptG pts k) := by rw [List.getElem?_map, hk]; rfl
      obtain ⟨gp, kp', ep, p0, p1⟩ := pnO_at (HPP.out.below hb) hkm
      injection ep with ep1 ep2 ep3
      subst ep1
      have HAX := Lib.hid (fun (X : World) (hX : Below wr.heap.size wr X) => HF.out X (below_trans HB1.out (below_trans hb hX)) k hkN)
      have HTA : Hid ((ks.take (i + 1)).any FA = ((ks.take i).any FA || FA k)) := Lib.hid (by rw [List.take_add_one, hk, List.any_append]; simp)
      have HTB : Hid ((ks.take (i + 1)).all FA = ((ks.take i).all FA && FA k)) := Lib.hid (by rw [List.take_add_one, hk, List.all_append]; simp)
      obtain ⟨k1, ek1⟩ : ∃ p, p = (ptG pts k).1 := ⟨_, rfl⟩
      obtain ⟨k2, ek2⟩ : ∃ p, p = (ptG pts k).2 := ⟨_, rfl⟩
      rw [← ek1, ← ek2] at HAX
      rw [← ek1] at p0
      rw [← ek2] at p1
      obtain ⟨u, eu⟩ : ∃ p, p = (ks.take i).any FA := ⟨_, rfl⟩
      obtain ⟨v, ev⟩ : ∃ p, p = (ks.take i).all FA := ⟨_, rfl⟩
      obtain ⟨b, eb⟩ : ∃ p, p = FA k := ⟨_, rfl⟩
      rw [← eu, ← eb] at HTA
      rw [← ev, ← eb] at HTB
      rw [← eu, ← ev]
      rw [← eb] at HAX
      have q0 := (HK.out.below (below_trans HB1.out hb)).cell (k := 0) rfl
      have q1 := (HK.out.below (below_trans HB1.out hb)).cell (k := 1) rfl
      have q2 := (HK.out.below (below_trans HB1.out hb)).cell (k := 2) rfl
      have q3 := (HK.out.below (below_trans HB1.out hb)).cell (k := 3) rfl
      have hb0 := Below.refl wr.heap.size wr
      have HSOF := Lib.hid (fun (z : World) (h : Below wr.heap.size wr z) => (⟨h, cell_below h q0, cell_below h q1, cell_below h q2, cell_below h q3, cell_below h p0, cell_below h p1⟩ : Below wr.heap.size wr z ∧ z.cell? ⟨bS, 0, none⟩ = some (.int .i64 a') ∧ z.cell? ⟨bS, 1, none⟩ = some (.int .i64 f) ∧ z.cell? ⟨bS, 2, none⟩ = some (.int .i64 l') ∧ z.cell? ⟨bS, 3, none⟩ = some (.slice A n c) ∧ z.cell? ⟨gp, i * 2, none⟩ = some (.int .i64 k1) ∧ z.cell? ⟨gp, i * 2 + 1, none⟩ = some (.int .i64 k2)))
      clear hb hk hkm ep2 ep3 ek1 ek2 eu ev eb q0 q1 q2 q3 p0 p1
      cases u <;> cases v <;> cases b <;> (
        go_upto_region 10 with (fail)
        first
          | (go_quiet (fail)
             generalize hwq : World.drewN _ _ = w6
             have hb0 : Below wr.heap.size wr w6 := by rw [← hwq]; exact below_drewN hb0 _
             clear hwq)
          | (go_region_held3 (fun z => Below wr.heap.size wr z ∧ z.cell? ⟨bS, 0, none⟩ = some (.int .i64 a') ∧ z.cell? ⟨bS, 1, none⟩ = some (.int .i64 f) ∧ z.cell? ⟨bS, 2, none⟩ = some (.int .i64 l') ∧ z.cell? ⟨bS, 3, none⟩ = some (.slice A n c) ∧ z.cell? ⟨gp, i * 2, none⟩ = some (.int .i64 k1) ∧ z.cell? ⟨gp, i * 2 + 1, none⟩ = some (.int .i64 k2)) (first | exact HSOF.out _ (by assumption) | exact HSOF.out _ (below_drew hb0) | exact HSOF.out _ (below_trans (And.left (by assumption)) (by assumption))) ((go_at_call 50; refine (HAX.out _ (And.left (by assumption))).mono ?_; rintro e w7 ⟨rfl, hb1⟩; have HB7 := below_trans (And.left (by assumption)) hb1; clear hb1))
             have hb0 := And.left (by assumption : Below wr.heap.size wr _ ∧ _)
             rename_i hz
             clear hz)
        go_upto_region 11 with (fail)
        first
          | (go_quiet (fail)
             generalize hwq : World.drewN _ _ = w6
             have hb0 : Below wr.heap.size wr w6 := by rw [← hwq]; exact below_drewN hb0 _
             clear hwq)
          | (go_region_held3 (fun z => Below wr.heap.size wr z ∧ z.cell? ⟨bS, 0, none⟩ = some (.int .i64 a') ∧ z.cell? ⟨bS, 1, none⟩ = some (.int .i64 f) ∧ z.cell? ⟨bS, 2, none⟩ = some (.int .i64 l') ∧ z.cell? ⟨bS, 3, none⟩ = some (.slice A n c) ∧ z.cell? ⟨gp, i * 2, none⟩ = some (.int .i64 k1) ∧ z.cell? ⟨gp, i * 2 + 1, none⟩ = some (.int .i64 k2)) (first | exact HSOF.out _ (by assumption) | exact HSOF.out _ (below_drew hb0) | exact HSOF.out _ (below_trans (And.left (by assumption)) (by assumption))) ((go_at_call 50; refine (HAX.out _ (And.left (by assumption))).mono ?_; rintro e w7 ⟨rfl, hb1⟩; have HB7 := below_trans (And.left (by assumption)) hb1; clear hb1))
             have hb0 := And.left (by assumption : Below wr.heap.size wr _ ∧ _)
             rename_i hz
             clear hz)
        go_wp2_with fail
        go_roundw
        case rel => exact ⟨i + 1, by omega, by rw [HTA.out]; rfl, by rw [HTB.out]; rfl, by go_num, below_trans HBX.out hb0⟩
        case measure => simp [intOf]; omega)
    · obtain rfl : i = len := by omega
      have hii : ¬ (i : Int) < (i : Int) := by omega
      rw [show ks.take i = ks by rw [ELN.out, List.take_length]]
      generalize ks.any FA = u at HV2 ⊢
      generalize ks.all FA = v at HV2 ⊢
      clear hb
      cases u <;> cases v <;> (
        go_wp2_with fail
        go_ret2
        exact ⟨by rw [HV2.out, HE2.out]; rfl, below_trans HB.out (below_trans HB1.out HBX.out)⟩)
end Go.Proofs.Ytahaimecchdfeaa
