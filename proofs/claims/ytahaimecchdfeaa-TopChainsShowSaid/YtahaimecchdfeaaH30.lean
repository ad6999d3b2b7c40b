/-
  Texts of this claim, one after the other: what each proves is said at its head. No condition beyond those that its theorems name.
-/
import Derived.Test.YtahaimecchdfeaaProg
import Derived.Deep.DeepCutAuto
import Derived.Deep.RegionHeld3
import Derived.Test.YtahaimecchdfeaaH01
import Derived.Test.YtahaimecchdfeaaH03
import Derived.Test.YtahaimecchdfeaaH17
import Derived.Test.YtahaimecchdfeaaH24

/-
  Walk: fill, for each closure.
-/
namespace Go.Proofs.Ytahaimecchdfeaa
open Go.RowKit

theorem Try.infoBools : (Try.prog.info? 65).map (fun i => (i.zero, i.size, i.bytes)) = some (some (.slice none 0 0), 1, 24) := by kernel_rfl
theorem fill_num {r t r' t' l : Nat} (ht : t < l) (ht' : t' < l) : r' * l + t' < r * l + t + 1 ↔ (r' = r ∧ t' = t) ∨ r' * l + t' < r * l + t := by
  constructor
  · intro h
    by_cases e : r' * l + t' < r * l + t
    · exact .inr e
    · have h1 : r' * l + t' = r * l + t := by omega
      have h2 : r' = r := by
        rcases Nat.lt_trichotomy r' r with h3 | h3 | h3
        · have := Nat.mul_le_mul_right l (show r' + 1 ≤ r from h3)
          rw [Nat.succ_mul] at this
          omega
        · exact h3
        · have := Nat.mul_le_mul_right l (show r + 1 ≤ r' from h3)
          rw [Nat.succ_mul] at this
          omega
      subst h2
      exact .inl ⟨rfl, by omega⟩
  · rintro (⟨rfl, rfl⟩ | h)
    · omega
    · omega
set_option maxHeartbeats 8000000 in
set_option maxRecDepth 100000 in
theorem fill_T (w : World) (bc l n : Nat) (L : Nat → Nat → Nat → Int) (F : Nat → Nat → Nat) (B : Nat → Nat → Bool) (hC : ChkR w bc l n L F) (hn : n ≤ 64) (hl : l ≤ 16)
    (hB : ∀ X, Below w.heap.size w X → ∀ r t : Nat, r < n → t < l → Calls Try.prog 136 #[.agg #[.int .i64 r, .int .i64 t]] X fun e w' => e = .returned (.bool (B r t)) ∧ Below X.heap.size X w') :
    Calls Try.prog 108 #[.pointer (some ⟨bc, 0, none⟩), .func (.func 136) #[] #[]] w fun e w' => e = .returned (.slice (some ⟨w.heap.size, 0, none⟩) n n) ∧ TruO w' w.heap.size l n B ∧ Below w.heap.size w w' := by
  obtain ⟨g4, o4, c4, c3, -⟩ := hC.loc
  have HC := Lib.hid hC
  have HBB := Lib.hid hB
  have hNl : n * l ≤ 1024 := Nat.mul_le_mul hn hl
  have hmk := fun w1 => run_make_row' (P := Try.prog) (w := w1) 114 65 (.slice none 0 0) 24 Try.underlying114 Try.infoBools rfl .i64 .i64 n (by omega) (by omega)
  clear hC hB
  go_enter Try.func108, Try.ntmps108
  go_upto_region 3 with (fail)
  have hrw := Blk.new w (madeCells #[.slice none 0 0] n) 65
  have hba := below_alloc w (.cells (madeCells #[.slice none 0 0] n) 65)
  have hs1 : (w.alloc (.cells (madeCells #[.slice none 0 0] n) 65)).heap.size = w.heap.size + 1 := by simp
  obtain ⟨g0, eg0⟩ : ∃ g, g = w.heap.size := ⟨_, rfl⟩
  rw [← eg0] at hrw hs1 ⊢
  rw [slcA_zero g0 l n] at hrw hba hs1 ⊢
  generalize w.alloc (.cells (slcA g0 l n 0) 65) = W at hrw hba hs1 ⊢
  have HRW := Lib.hid hrw
  have HBA := Lib.hid hba
  have HS1 := Lib.hid hs1
  have EG := Lib.hid eg0
  have hmk2 := fun w1 => run_make_row' (P := Try.prog) (w := w1) 65 4 (.bool false) 1 Try.underlying65 Try.infoBool rfl .i64 .i64 l (by omega) (by omega)
  clear hrw hba hs1 eg0 c3 hmk
  go_loopw [18] (fun iv wr => ∃ i : Nat, i ≤ n ∧ iv = .int .i64 i ∧ Blk wr g0 65 (slcA g0 l n i) ∧ (∀ r, r < i → Blk wr (g0 + 1 + r) 4 (boolA (fun _ => false) l)) ∧ wr.heap.size = g0 + 1 + i ∧ Below w.heap.size w wr) (fun iv _ => n - (intOf iv).toNat)
  case atStart => exact ⟨0, Nat.zero_le _, rfl, HRW.out, fun r hr => absurd hr (Nat.not_lt_zero r), HS1.out, HBA.out⟩
  case round =>
    clear HRW HBA HS1
    obtain ⟨i, hi, rfl, hbx, hrows, hsz, hb⟩ := hrel
    have HBX := Lib.hid hbx
    have HRO := Lib.hid hrows
    have HB := Lib.hid hb
    by_cases hlt : i < n
    · have hin : (i : Int) < (n : Int) := by omega
      have c2 := cell_below hb HC.out.c2
      have hba := below_alloc wr (.cells (madeCells #[.bool false] l) 4)
      have hnew := Blk.new wr (madeCells #[.bool false] l) 4
      have hs2 : (wr.alloc (.cells (madeCells #[.bool false] l) 4)).heap.size = wr.heap.size + 1 := by simp
      have x0 := (hbx.below hba).cell (slcA_get0 (g := g0) (l := l) (n := n) (i := i) hlt (Nat.lt_irrefl i))
      have f0 := (hbx.below hba).frozen (k := i)
      have HNW := Lib.hid hnew
      have HBA := Lib.hid hba
      have HS2 := Lib.hid hs2
      have HSZ := Lib.hid hsz
      clear hbx hrows hb hba hnew hs2 hsz
      go_wp2_with fail
      have hI := (HBX.out.below HBA.out).set i (.slice (some ⟨wr.heap.size, 0, none⟩) l l)
      have hR : ∀ r, r < i + 1 → Blk ((wr.alloc (.cells (madeCells #[.bool false] l) 4)).setCell ⟨g0, i, none⟩ (.slice (some ⟨wr.heap.size, 0, none⟩) l l)) (g0 + 1 + r) 4 (boolA (fun _ => false) l) := fun r hr => by
        by_cases e : r < i
        · exact ((HRO.out r e).below HBA.out).set_ne (by omega) _ _
        · obtain rfl : r = i := by omega
          have := HNW.out.set_ne (b' := g0) (by have := HSZ.out; omega) r (.slice (some ⟨wr.heap.size, 0, none⟩) l l)
          rw [madeCells_bool] at this ⊢
          rw [HSZ.out] at this ⊢
          exact this
      have hZ : ((wr.alloc (.cells (madeCells #[.bool false] l) 4)).setCell ⟨g0, i, none⟩ (.slice (some ⟨wr.heap.size, 0, none⟩) l l)).heap.size = g0 + 1 + (i + 1) := by
        have h1 : ((wr.alloc (.cells (madeCells #[.bool false] l) 4)).setCell ⟨g0, i, none⟩ (.slice (some ⟨wr.heap.size, 0, none⟩) l l)).heap.size = (wr.alloc (.cells (madeCells #[.bool false] l) 4)).heap.size := by simp [World.setCell]
        rw [h1, HS2.out, HSZ.out]; omega
      have hL := (below_trans HB.out HBA.out).setCell (p := ⟨g0, i, none⟩) (Nat.le_of_eq EG.out.symm) (.slice (some ⟨wr.heap.size, 0, none⟩) l l)
      rw [show (slcA g0 l n i).setIfInBounds i (.slice (some ⟨wr.heap.size, 0, none⟩) l l) = slcA g0 l n (i + 1) by rw [HSZ.out]; exact slcA_set] at hI
      have HI := Lib.hid hI
      have HRR := Lib.hid hR
      have HZ := Lib.hid hZ
      have HL := Lib.hid hL
      clear hI hR hZ hL
      go_roundw
      case rel => exact ⟨i + 1, by omega, by go_num, HI.out, HRR.out, HZ.out, HL.out⟩
      case measure => simp [intOf]; omega
    · obtain rfl : i = n := by omega
      have hin : ¬ (i : Int) < (i : Int) := by omega
      obtain ⟨gp, cp, q4, hpt⟩ := (HC.out.below hb).pt
      have HPT := Lib.hid hpt
      have hT : TruO wr g0 l i (fun r t => decide (r * l + t < 0) && B r t) := ⟨hbx, fun r hr => by
        have := hrows r hr
        rwa [boolA_congr (S' := fun t => decide (r * l + t < 0) && B r t) (fun t _ => by simp)] at this⟩
      have HT := Lib.hid hT
      obtain ⟨N, eN⟩ : ∃ N, N = i * l := ⟨_, rfl⟩
      rw [← eN] at q4 HPT hNl
      obtain ⟨wo, ewo⟩ : ∃ wo, wo = wr := ⟨_, rfl⟩
      rw [← ewo] at HPT HB HT q4
      have HPT2 : Hid (∀ X, Below wo.heap.size wo X → ∀ k, k < N → ∃ r t, r < i ∧ t < l ∧ k = r * l + t ∧ X.cell? ⟨gp, k * 2, none⟩ = some (.int .i64 r) ∧ X.cell? ⟨gp, k * 2 + 1, none⟩ = some (.int .i64 t)) := Lib.hid fun X hX k hk => by
        obtain ⟨r, t, h1, h2, h3, h4, h5⟩ := HPT.out k hk
        exact ⟨r, t, h1, h2, h3, cell_below hX h4, cell_below hX h5⟩
      have HPW : Hid (∀ X, Below w.heap.size w X → ∃ gp cp, X.cell? ⟨bc, 4, none⟩ = some (.slice (some ⟨gp, 0, none⟩) N cp)) := Lib.hid fun X hX => by
        obtain ⟨gp, cp, h1, -⟩ := (HC.out.below hX).pt
        exact ⟨gp, cp, by rw [eN]; exact h1⟩
      have HPX : Hid (∀ X, Below w.heap.size w X → ∀ k, k < N → ∃ r t, r < i ∧ t < l ∧ k = r * l + t ∧ X.cell? ⟨gp, k * 2, none⟩ = some (.int .i64 r) ∧ X.cell? ⟨gp, k * 2 + 1, none⟩ = some (.int .i64 t)) := Lib.hid fun X hX k hk => by
        obtain ⟨gp', cp', h1, hp'⟩ := (HC.out.below hX).pt
        obtain ⟨gp2, cp2, h2, hp2⟩ := HC.out.pt
        have e1 := (cell_below hX h2).symm.trans h1
        have e2 := (cell_below HB.out h2).symm.trans q4
        injection e1 with e1; injection e1 with e1; injection e1 with e1; injection e1 with e1
        injection e2 with e2; injection e2 with e2; injection e2 with e2; injection e2 with e2
        rw [eN] at hk
        rw [← e2, e1]
        exact hp' k hk
      have HLN : Hid (∀ r t, r < i → t < l → r * l + t < N) := Lib.hid fun r t hr ht => by
        have := Nat.mul_le_mul_right l (show r + 1 ≤ i from hr)
        rw [Nat.succ_mul] at this
        omega
      rw [ewo] at q4
      clear hbx hrows hpt hb hT hsz HPT HPT2 HPW HBX HRO eN hmk2
      go_upto_region 8 with (fail)
      clear q4
      rw [← ewo]
      clear ewo
      go_loopw [36] (fun kv wr => ∃ k : Nat, k ≤ N ∧ kv = .int .i64 k ∧ TruO wr g0 l i (fun r t => decide (r * l + t < k) && B r t) ∧ Below w.heap.size w wr) (fun kv _ => N - (intOf kv).toNat)
      case atStart => exact ⟨0, Nat.zero_le _, rfl, HT.out, HB.out⟩
      case round =>
        clear HT HB
        obtain ⟨k, hk, rfl, ht0, hb⟩ := hrel
        have HT := Lib.hid ht0
        have HB := Lib.hid hb
        by_cases hkl : k < N
        · have hkk : (k : Int) < (N : Int) := by omega
          obtain ⟨r, t, hr, ht, ek, p0, p1⟩ := HPX.out wr hb k hkl
          have HEK := Lib.hid ek
          clear ht0 hb ek
          go_upto_region 10 with (fail)
          have hba := below_alloc wr (.cells #[.int .i64 r, .int .i64 t] 26)
          have hpb := Blk.new wr #[.int .i64 r, .int .i64 t] 26
          obtain ⟨pb, epb⟩ : ∃ b, b = wr.heap.size := ⟨_, rfl⟩
          obtain ⟨V, eV⟩ : ∃ V2, V2 = wr.alloc (.cells #[.int .i64 r, .int .i64 t] 26) := ⟨_, rfl⟩
          rw [← eV] at hba hpb ⊢
          rw [← epb] at hpb ⊢
          have HT2 := Lib.hid (HT.out.below hba)
          have HB2 := Lib.hid (below_trans HB.out hba)
          have HPB := Lib.hid hpb
          have hb0 := Below.refl V.heap.size V
          have hr1 : (r : Int) < (i : Int) := by omega
          have ht1 : (t : Int) < (l : Int) := by omega
          obtain ⟨old, eold⟩ : ∃ b, b = (decide (r * l + t < k) && B r t) := ⟨_, rfl⟩
          have HSOF : Hid (∀ z, Below V.heap.size V z → (z.cell? ⟨g0, r, none⟩ = some (.slice (some ⟨g0 + 1 + r, 0, none⟩) l l) ∧ z.cell? ⟨pb, 0, none⟩ = some (.int .i64 r) ∧ z.cell? ⟨pb, 1, none⟩ = some (.int .i64 t))) := Lib.hid fun z h => ⟨(HT2.out.below h).box.cell (slcA_get hr hr), (HPB.out.below h).cell (k := 0) rfl, (HPB.out.below h).cell (k := 1) rfl⟩
          have HSST : Hid (∀ z v, Below V.heap.size V z → ((z.setCell ⟨g0 + 1 + r, t, none⟩ v).cell? ⟨g0, r, none⟩ = some (.slice (some ⟨g0 + 1 + r, 0, none⟩) l l) ∧ (z.setCell ⟨g0 + 1 + r, t, none⟩ v).cell? ⟨pb, 0, none⟩ = some (.int .i64 r) ∧ (z.setCell ⟨g0 + 1 + r, t, none⟩ v).cell? ⟨pb, 1, none⟩ = some (.int .i64 t))) := Lib.hid fun z v h => by
            have hz := HT2.out.below h
            have hpz := HPB.out.below h
            exact ⟨(hz.box.set_ne (by omega) t v).cell (slcA_get hr hr), (hpz.set_ne (hpz.ne (hz.row r hr) (by decide)) t v).cell (k := 0) rfl, (hpz.set_ne (hpz.ne (hz.row r hr) (by decide)) t v).cell (k := 1) rfl⟩
          have HOLD : Hid (∀ z, Below V.heap.size V z → z.cell? ⟨g0 + 1 + r, t, none⟩ = some (.bool old) ∧ z.frozen? ⟨g0 + 1 + r, t, none⟩ = false) := Lib.hid fun z h => by
            have hz := HT2.out.below h
            refine ⟨?_, (hz.row r hr).frozen⟩
            rw [eold]
            exact (hz.row r hr).cell (boolA_get ht)
          have HCB := Lib.hid (fun X (hX : Below V.heap.size V X) => HBB.out X (below_trans HB2.out hX) r t hr ht)
          clear hba hpb eV epb p0 p1 eold HT HB
          go_region_held3 (fun z => z.cell? ⟨g0, r, none⟩ = some (.slice (some ⟨g0 + 1 + r, 0, none⟩) l l) ∧ z.cell? ⟨pb, 0, none⟩ = some (.int .i64 r) ∧ z.cell? ⟨pb, 1, none⟩ = some (.int .i64 t)) (first | exact HSOF.out _ hb0 | exact HSOF.out _ (by assumption) | exact HSOF.out _ (below_drew hb0) | exact HSST.out _ _ (by assumption))
            (first
              | (go_at_call 136; have hzz : Below V.heap.size V _ := (by first | exact below_drew hb0 | exact hb0); refine (HCB.out _ hzz).mono ?_; rintro e w7 ⟨rfl, hb1⟩; have HB7 := below_trans hzz hb1; obtain ⟨o7, f7⟩ := HOLD.out _ HB7; clear hb1 hzz)
              | fail)
          rename_i hz
          clear hz
          have hT3 := (HT2.out.below HB7).set hr ht (B r t)
          have hB3 := (below_trans HB2.out HB7).setCell (p := ⟨g0 + 1 + r, t, none⟩) (show w.heap.size ≤ g0 + 1 + r by have := EG.out; omega) (.bool (B r t))
          generalize w7.setCell ⟨g0 + 1 + r, t, none⟩ (.bool (B r t)) = V9 at hT3 hB3 ⊢
          have HT3 := Lib.hid hT3
          have HB3 := Lib.hid hB3
          clear hT3 hB3 o7 f7 HB7 hb0 HSOF HSST HOLD HT2 HB2 HPB
          go_wp2_with fail
          go_roundw
          case rel =>
            refine ⟨k + 1, by omega, by go_num, HT3.out.congr fun r' t' hr' ht' => ?_, HB3.out⟩
            have hk2 := fill_num (r := r) (t := t) (r' := r') (t' := t') ht ht'
            rw [← HEK.out] at hk2
            by_cases e : r' = r ∧ t' = t
            · rw [if_pos e, decide_eq_true (hk2.2 (.inl e)), Bool.true_and, e.1, e.2]
            · rw [if_neg e]
              by_cases e2 : r' * l + t' < k
              · rw [decide_eq_true e2, decide_eq_true (hk2.2 (.inr e2))]
              · rw [decide_eq_false e2, decide_eq_false (fun h => (hk2.1 h).elim e e2)]
          case measure => simp [intOf]; omega
        · obtain rfl : k = N := by omega
          have hkk : ¬ (k : Int) < (k : Int) := by omega
          have HTE := Lib.hid (ht0.congr (X' := B) fun r t hr ht => by rw [decide_eq_true (HLN.out r t hr ht), Bool.true_and])
          clear ht0 hb
          go_wp2_with fail
          go_ret
          exact ⟨by rw [EG.out]; rfl, by rw [← EG.out]; exact HTE.out, HB.out⟩
set_option maxHeartbeats 8000000 in
set_option maxRecDepth 100000 in
theorem fill_C (w : World) (bc l n : Nat) (L : Nat → Nat → Nat → Int) (F : Nat → Nat → Nat) (B : Nat → Nat → Bool) (hC : ChkR w bc l n L F) (hn : n ≤ 64) (hl : l ≤ 16)
    (hB : ∀ X, Below w.heap.size w X → ∀ r t : Nat, r < n → t < l → Calls Try.prog 138 #[.agg #[.int .i64 r, .int .i64 t]] X fun e w' => e = .returned (.bool (B r t)) ∧ Below X.heap.size X w') :
    Calls Try.prog 108 #[.pointer (some ⟨bc, 0, none⟩), .func (.func 138) #[] #[]] w fun e w' => e = .returned (.slice (some ⟨w.heap.size, 0, none⟩) n n) ∧ TruO w' w.heap.size l n B ∧ Below w.heap.size w w' := by
  obtain ⟨g4, o4, c4, c3, -⟩ := hC.loc
  have HC := Lib.hid hC
  have HBB := Lib.hid hB
  have hNl : n * l ≤ 1024 := Nat.mul_le_mul hn hl
  have hmk := fun w1 => run_make_row' (P := Try.prog) (w := w1) 114 65 (.slice none 0 0) 24 Try.underlying114 Try.infoBools rfl .i64 .i64 n (by omega) (by omega)
  clear hC hB
  go_enter Try.func108, Try.ntmps108
  go_upto_region 3 with (fail)
  have hrw := Blk.new w (madeCells #[.slice none 0 0] n) 65
  have hba := below_alloc w (.cells (madeCells #[.slice none 0 0] n) 65)
  have hs1 : (w.alloc (.cells (madeCells #[.slice none 0 0] n) 65)).heap.size = w.heap.size + 1 := by simp
  obtain ⟨g0, eg0⟩ : ∃ g, g = w.heap.size := ⟨_, rfl⟩
  rw [← eg0] at hrw hs1 ⊢
  rw [slcA_zero g0 l n] at hrw hba hs1 ⊢
  generalize w.alloc (.cells (slcA g0 l n 0) 65) = W at hrw hba hs1 ⊢
  have HRW := Lib.hid hrw
  have HBA := Lib.hid hba
  have HS1 := Lib.hid hs1
  have EG := Lib.hid eg0
  have hmk2 := fun w1 => run_make_row' (P := Try.prog) (w := w1) 65 4 (.bool false) 1 Try.underlying65 Try.infoBool rfl .i64 .i64 l (by omega) (by omega)
  clear hrw hba hs1 eg0 c3 hmk
  go_loopw [18] (fun iv wr => ∃ i : Nat, i ≤ n ∧ iv = .int .i64 i ∧ Blk wr g0 65 (slcA g0 l n i) ∧ (∀ r, r < i → Blk wr (g0 + 1 + r) 4 (boolA (fun _ => false) l)) ∧ wr.heap.size = g0 + 1 + i ∧ Below w.heap.size w wr) (fun iv _ => n - (intOf iv).toNat)
  case atStart => exact ⟨0, Nat.zero_le _, rfl, HRW.out, fun r hr => absurd hr (Nat.not_lt_zero r), HS1.out, HBA.out⟩
  case round =>
    clear HRW HBA HS1
    obtain ⟨i, hi, rfl, hbx, hrows, hsz, hb⟩ := hrel
    have HBX := Lib.hid hbx
    have HRO := Lib.hid hrows
    have HB := Lib.hid hb
    by_cases hlt : i < n
    · have hin : (i : Int) < (n : Int) := by omega
      have c2 := cell_below hb HC.out.c2
      have hba := below_alloc wr (.cells (madeCells #[.bool false] l) 4)
      have hnew := Blk.new wr (madeCells #[.bool false] l) 4
      have hs2 : (wr.alloc (.cells (madeCells #[.bool false] l) 4)).heap.size = wr.heap.size + 1 := by simp
      have x0 := (hbx.below hba).cell (slcA_get0 (g := g0) (l := l) (n := n) (i := i) hlt (Nat.lt_irrefl i))
      have f0 := (hbx.below hba).frozen (k := i)
      have HNW := Lib.hid hnew
      have HBA := Lib.hid hba
      have HS2 := Lib.hid hs2
      have HSZ := Lib.hid hsz
      clear hbx hrows hb hba hnew hs2 hsz
      go_wp2_with fail
      have hI := (HBX.out.below HBA.out).set i (.slice (some ⟨wr.heap.size, 0, none⟩) l l)
      have hR : ∀ r, r < i + 1 → Blk ((wr.alloc (.cells (madeCells #[.bool false] l) 4)).setCell ⟨g0, i, none⟩ (.slice (some ⟨wr.heap.size, 0, none⟩) l l)) (g0 + 1 + r) 4 (boolA (fun _ => false) l) := fun r hr => by
        by_cases e : r < i
        · exact ((HRO.out r e).below HBA.out).set_ne (by omega) _ _
        · obtain rfl : r = i := by omega
          have := HNW.out.set_ne (b' := g0) (by have := HSZ.out; omega) r (.slice (some ⟨wr.heap.size, 0, none⟩) l l)
          rw [madeCells_bool] at this ⊢
          rw [HSZ.out] at this ⊢
          exact this
      have hZ : ((wr.alloc (.cells (madeCells #[.bool false] l) 4)).setCell ⟨g0, i, none⟩ (.slice (some ⟨wr.heap.size, 0, none⟩) l l)).heap.size = g0 + 1 + (i + 1) := by
        have h1 : ((wr.alloc (.cells (madeCells #[.bool false] l) 4)).setCell ⟨g0, i, none⟩ (.slice (some ⟨wr.heap.size, 0, none⟩) l l)).heap.size = (wr.alloc (.cells (madeCells #[.bool false] l) 4)).heap.size := by simp [World.setCell]
        rw [h1, HS2.out, HSZ.out]; omega
      have hL := (below_trans HB.out HBA.out).setCell (p := ⟨g0, i, none⟩) (Nat.le_of_eq EG.out.symm) (.slice (some ⟨wr.heap.size, 0, none⟩) l l)
      rw [show (slcA g0 l n i).setIfInBounds i (.slice (some ⟨wr.heap.size, 0, none⟩) l l) = slcA g0 l n (i + 1) by rw [HSZ.out]; exact slcA_set] at hI
      have HI := Lib.hid hI
      have HRR := Lib.hid hR
      have HZ := Lib.hid hZ
      have HL := Lib.hid hL
      clear hI hR hZ hL
      go_roundw
      case rel => exact ⟨i + 1, by omega, by go_num, HI.out, HRR.out, HZ.out, HL.out⟩
      case measure => simp [intOf]; omega
    · obtain rfl : i = n := by omega
      have hin : ¬ (i : Int) < (i : Int) := by omega
      obtain ⟨gp, cp, q4, hpt⟩ := (HC.out.below hb).pt
      have HPT := Lib.hid hpt
      have hT : TruO wr g0 l i (fun r t => decide (r * l + t < 0) && B r t) := ⟨hbx, fun r hr => by
        have := hrows r hr
        rwa [boolA_congr (S' := fun t => decide (r * l + t < 0) && B r t) (fun t _ => by simp)] at this⟩
      have HT := Lib.hid hT
      obtain ⟨N, eN⟩ : ∃ N, N = i * l := ⟨_, rfl⟩
      rw [← eN] at q4 HPT hNl
      obtain ⟨wo, ewo⟩ : ∃ wo, wo = wr := ⟨_, rfl⟩
      rw [← ewo] at HPT HB HT q4
      have HPT2 : Hid (∀ X, Below wo.heap.size wo X → ∀ k, k < N → ∃ r t, r < i ∧ t < l ∧ k = r * l + t ∧ X.cell? ⟨gp, k * 2, none⟩ = some (.int .i64 r) ∧ X.cell? ⟨gp, k * 2 + 1, none⟩ = some (.int .i64 t)) := Lib.hid fun X hX k hk => by
        obtain ⟨r, t, h1, h2, h3, h4, h5⟩ := HPT.out k hk
        exact ⟨r, t, h1, h2, h3, cell_below hX h4, cell_below hX h5⟩
      have HPW : Hid (∀ X, Below w.heap.size w X → ∃ gp cp, X.cell? ⟨bc, 4, none⟩ = some (.slice (some ⟨gp, 0, none⟩) N cp)) := Lib.hid fun X hX => by
        obtain ⟨gp, cp, h1, -⟩ := (HC.out.below hX).pt
        exact ⟨gp, cp, by rw [eN]; exact h1⟩
      have HPX : Hid (∀ X, Below w.heap.size w X → ∀ k, k < N → ∃ r t, r < i ∧ t < l ∧ k = r * l + t ∧ X.cell? ⟨gp, k * 2, none⟩ = some (.int .i64 r) ∧ X.cell? ⟨gp, k * 2 + 1, none⟩ = some (.int .i64 t)) := Lib.hid fun X hX k hk => by
        obtain ⟨gp', cp', h1, hp'⟩ := (HC.out.below hX).pt
        obtain ⟨gp2, cp2, h2, hp2⟩ := HC.out.pt
        have e1 := (cell_below hX h2).symm.trans h1
        have e2 := (cell_below HB.out h2).symm.trans q4
        injection e1 with e1; injection e1 with e1; injection e1 with e1; injection e1 with e1
        injection e2 with e2; injection e2 with e2; injection e2 with e2; injection e2 with e2
        rw [eN] at hk
        rw [← e2, e1]
        exact hp' k hk
      have HLN : Hid (∀ r t, r < i → t < l → r * l + t < N) := Lib.hid fun r t hr ht => by
        have := Nat.mul_le_mul_right l (show r + 1 ≤ i from hr)
        rw [Nat.succ_mul] at this
        omega
      rw [ewo] at q4
      clear hbx hrows hpt hb hT hsz HPT HPT2 HPW HBX HRO eN hmk2
      go_upto_region 8 with (fail)
      clear q4
      rw [← ewo]
      clear ewo
      go_loopw [36] (fun kv wr => ∃ k : Nat, k ≤ N ∧ kv = .int .i64 k ∧ TruO wr g0 l i (fun r t => decide (r * l + t < k) && B r t) ∧ Below w.heap.size w wr) (fun kv _ => N - (intOf kv).toNat)
      case atStart => exact ⟨0, Nat.zero_le _, rfl, HT.out, HB.out⟩
      case round =>
        clear HT HB
        obtain ⟨k, hk, rfl, ht0, hb⟩ := hrel
        have HT := Lib.hid ht0
        have HB := Lib.hid hb
        by_cases hkl : k < N
        · have hkk : (k : Int) < (N : Int) := by omega
          obtain ⟨r, t, hr, ht, ek, p0, p1⟩ := HPX.out wr hb k hkl
          have HEK := Lib.hid ek
          clear ht0 hb ek
          go_upto_region 10 with (fail)
          have hba := below_alloc wr (.cells #[.int .i64 r, .int .i64 t] 26)
          have hpb := Blk.new wr #[.int .i64 r, .int .i64 t] 26
          obtain ⟨pb, epb⟩ : ∃ b, b = wr.heap.size := ⟨_, rfl⟩
          obtain ⟨V, eV⟩ : ∃ V2, V2 = wr.alloc (.cells #[.int .i64 r, .int .i64 t] 26) := ⟨_, rfl⟩
          rw [← eV] at hba hpb ⊢
          rw [← epb] at hpb ⊢
          have HT2 := Lib.hid (HT.out.below hba)
          have HB2 := Lib.hid (below_trans HB.out hba)
          have HPB := Lib.hid hpb
          have hb0 := Below.refl V.heap.size V
          have hr1 : (r : Int) < (i : Int) := by omega
          have ht1 : (t : Int) < (l : Int) := by omega
          obtain ⟨old, eold⟩ : ∃ b, b = (decide (r * l + t < k) && B r t) := ⟨_, rfl⟩
          have HSOF : Hid (∀ z, Below V.heap.size V z → (z.cell? ⟨g0, r, none⟩ = some (.slice (some ⟨g0 + 1 + r, 0, none⟩) l l) ∧ z.cell? ⟨pb, 0, none⟩ = some (.int .i64 r) ∧ z.cell? ⟨pb, 1, none⟩ = some (.int .i64 t))) := Lib.hid fun z h => ⟨(HT2.out.below h).box.cell (slcA_get hr hr), (HPB.out.below h).cell (k := 0) rfl, (HPB.out.below h).cell (k := 1) rfl⟩
          have HSST : Hid (∀ z v, Below V.heap.size V z → ((z.setCell ⟨g0 + 1 + r, t, none⟩ v).cell? ⟨g0, r, none⟩ = some (.slice (some ⟨g0 + 1 + r, 0, none⟩) l l) ∧ (z.setCell ⟨g0 + 1 + r, t, none⟩ v).cell? ⟨pb, 0, none⟩ = some (.int .i64 r) ∧ (z.setCell ⟨g0 + 1 + r, t, none⟩ v).cell? ⟨pb, 1, none⟩ = some (.int .i64 t))) := Lib.hid fun z v h => by
            have hz := HT2.out.below h
            have hpz := HPB.out.below h
            exact ⟨(hz.box.set_ne (by omega) t v).cell (slcA_get hr hr), (hpz.set_ne (hpz.ne (hz.row r hr) (by decide)) t v).cell (k := 0) rfl, (hpz.set_ne (hpz.ne (hz.row r hr) (by decide)) t v).cell (k := 1) rfl⟩
          have HOLD : Hid (∀ z, Below V.heap.size V z → z.cell? ⟨g0 + 1 + r, t, none⟩ = some (.bool old) ∧ z.frozen? ⟨g0 + 1 + r, t, none⟩ = false) := Lib.hid fun z h => by
            have hz := HT2.out.below h
            refine ⟨?_, (hz.row r hr).frozen⟩
            rw [eold]
            exact (hz.row r hr).cell (boolA_get ht)
          have HCB := Lib.hid (fun X (hX : Below V.heap.size V X) => HBB.out X (below_trans HB2.out hX) r t hr ht)
          clear hba hpb eV epb p0 p1 eold HT HB
          go_region_held3 (fun z => z.cell? ⟨g0, r, none⟩ = some (.slice (some ⟨g0 + 1 + r, 0, none⟩) l l) ∧ z.cell? ⟨pb, 0, none⟩ = some (.int .i64 r) ∧ z.cell? ⟨pb, 1, none⟩ = some (.int .i64 t)) (first | exact HSOF.out _ hb0 | exact HSOF.out _ (by assumption) | exact HSOF.out _ (below_drew hb0) | exact HSST.out _ _ (by assumption))
            (first
              | (go_at_call 138; have hzz : Below V.heap.size V _ := (by first | exact below_drew hb0 | exact hb0); refine (HCB.out _ hzz).mono ?_; rintro e w7 ⟨rfl, hb1⟩; have HB7 := below_trans hzz hb1; obtain ⟨o7, f7⟩ := HOLD.out _ HB7; clear hb1 hzz)
              | fail)
          rename_i hz
          clear hz
          have hT3 := (HT2.out.below HB7).set hr ht (B r t)
          have hB3 := (below_trans HB2.out HB7).setCell (p := ⟨g0 + 1 + r, t, none⟩) (show w.heap.size ≤ g0 + 1 + r by have := EG.out; omega) (.bool (B r t))
          generalize w7.setCell ⟨g0 + 1 + r, t, none⟩ (.bool (B r t)) = V9 at hT3 hB3 ⊢
          have HT3 := Lib.hid hT3
          have HB3 := Lib.hid hB3
          clear hT3 hB3 o7 f7 HB7 hb0 HSOF HSST HOLD HT2 HB2 HPB
          go_wp2_with fail
          go_roundw
          case rel =>
            refine ⟨k + 1, by omega, by go_num, HT3.out.congr fun r' t' hr' ht' => ?_, HB3.out⟩
            have hk2 := fill_num (r := r) (t := t) (r' := r') (t' := t') ht ht'
            rw [← HEK.out] at hk2
            by_cases e : r' = r ∧ t' = t
            · rw [if_pos e, decide_eq_true (hk2.2 (.inl e)), Bool.true_and, e.1, e.2]
            · rw [if_neg e]
              by_cases e2 : r' * l + t' < k
              · rw [decide_eq_true e2, decide_eq_true (hk2.2 (.inr e2))]
              · rw [decide_eq_false e2, decide_eq_false (fun h => (hk2.1 h).elim e e2)]
          case measure => simp [intOf]; omega
        · obtain rfl : k = N := by omega
          have hkk : ¬ (k : Int) < (k : Int) := by omega
          have HTE := Lib.hid (ht0.congr (X' := B) fun r t hr ht => by rw [decide_eq_true (HLN.out r t hr ht), Bool.true_and])
          clear ht0 hb
          go_wp2_with fail
          go_ret
          exact ⟨by rw [EG.out]; rfl, by rw [← EG.out]; exact HTE.out, HB.out⟩
set_option maxHeartbeats 8000000 in
set_option maxRecDepth 100000 in
theorem fill_K (w : World) (bc l n : Nat) (L : Nat → Nat → Nat → Int) (F : Nat → Nat → Nat) (b1 b2 b3 : Nat) (B : Nat → Nat → Bool) (hC : ChkR w bc l n L F) (hn : n ≤ 64) (hl : l ≤ 16)
    (hB : ∀ X, Below w.heap.size w X → ∀ r t : Nat, r < n → t < l → Calls Try.prog 135 #[.agg #[.int .i64 r, .int .i64 t], .pointer (some ⟨b1, 0, none⟩), .pointer (some ⟨b2, 0, none⟩), .pointer (some ⟨b3, 0, none⟩)] X fun e w' => e = .returned (.bool (B r t)) ∧ Below X.heap.size X w') :
    Calls Try.prog 108 #[.pointer (some ⟨bc, 0, none⟩), .func (.func 135) #[] #[.pointer (some ⟨b1, 0, none⟩), .pointer (some ⟨b2, 0, none⟩), .pointer (some ⟨b3, 0, none⟩)]] w fun e w' => e = .returned (.slice (some ⟨w.heap.size, 0, none⟩) n n) ∧ TruO w' w.heap.size l n B ∧ Below w.heap.size w w' := by
  obtain ⟨g4, o4, c4, c3, -⟩ := hC.loc
  have HC := Lib.hid hC
  have HBB := Lib.hid hB
  have hNl : n * l ≤ 1024 := Nat.mul_le_mul hn hl
  have hmk := fun w1 => run_make_row' (P := Try.prog) (w := w1) 114 65 (.slice none 0 0) 24 Try.underlying114 Try.infoBools rfl .i64 .i64 n (by omega) (by omega)
  clear hC hB
  go_enter Try.func108, Try.ntmps108
  go_upto_region 3 with (fail)
  have hrw := Blk.new w (madeCells #[.slice none 0 0] n) 65
  have hba := below_alloc w (.cells (madeCells #[.slice none 0 0] n) 65)
  have hs1 : (w.alloc (.cells (madeCells #[.slice none 0 0] n) 65)).heap.size = w.heap.size + 1 := by simp
  obtain ⟨g0, eg0⟩ : ∃ g, g = w.heap.size := ⟨_, rfl⟩
  rw [← eg0] at hrw hs1 ⊢
  rw [slcA_zero g0 l n] at hrw hba hs1 ⊢
  generalize w.alloc (.cells (slcA g0 l n 0) 65) = W at hrw hba hs1 ⊢
  have HRW := Lib.hid hrw
  have HBA := Lib.hid hba
  have HS1 := Lib.hid hs1
  have EG := Lib.hid eg0
  have hmk2 := fun w1 => run_make_row' (P := Try.prog) (w := w1) 65 4 (.bool false) 1 Try.underlying65 Try.infoBool rfl .i64 .i64 l (by omega) (by omega)
  clear hrw hba hs1 eg0 c3 hmk
  go_loopw [18] (fun iv wr => ∃ i : Nat, i ≤ n ∧ iv = .int .i64 i ∧ Blk wr g0 65 (slcA g0 l n i) ∧ (∀ r, r < i → Blk wr (g0 + 1 + r) 4 (boolA (fun _ => false) l)) ∧ wr.heap.size = g0 + 1 + i ∧ Below w.heap.size w wr) (fun iv _ => n - (intOf iv).toNat)
  case atStart => exact ⟨0, Nat.zero_le _, rfl, HRW.out, fun r hr => absurd hr (Nat.not_lt_zero r), HS1.out, HBA.out⟩
  case round =>
    clear HRW HBA HS1
    obtain ⟨i, hi, rfl, hbx, hrows, hsz, hb⟩ := hrel
    have HBX := Lib.hid hbx
    have HRO := Lib.hid hrows
    have HB := Lib.hid hb
    by_cases hlt : i < n
    · have hin : (i : Int) < (n : Int) := by omega
      have c2 := cell_below hb HC.out.c2
      have hba := below_alloc wr (.cells (madeCells #[.bool false] l) 4)
      have hnew := Blk.new wr (madeCells #[.bool false] l) 4
      have hs2 : (wr.alloc (.cells (madeCells #[.bool false] l) 4)).heap.size = wr.heap.size + 1 := by simp
      have x0 := (hbx.below hba).cell (slcA_get0 (g := g0) (l := l) (n := n) (i := i) hlt (Nat.lt_irrefl i))
      have f0 := (hbx.below hba).frozen (k := i)
      have HNW := Lib.hid hnew
      have HBA := Lib.hid hba
      have HS2 := Lib.hid hs2
      have HSZ := Lib.hid hsz
      clear hbx hrows hb hba hnew hs2 hsz
      go_wp2_with fail
      have hI := (HBX.out.below HBA.out).set i (.slice (some ⟨wr.heap.size, 0, none⟩) l l)
      have hR : ∀ r, r < i + 1 → Blk ((wr.alloc (.cells (madeCells #[.bool false] l) 4)).setCell ⟨g0, i, none⟩ (.slice (some ⟨wr.heap.size, 0, none⟩) l l)) (g0 + 1 + r) 4 (boolA (fun _ => false) l) := fun r hr => by
        by_cases e : r < i
        · exact ((HRO.out r e).below HBA.out).set_ne (by omega) _ _
        · obtain rfl : r = i := by omega
          have := HNW.out.set_ne (b' := g0) (by have := HSZ.out; omega) r (.slice (some ⟨wr.heap.size, 0, none⟩) l l)
          rw [madeCells_bool] at this ⊢
          rw [HSZ.out] at this ⊢
          exact this
      have hZ : ((wr.alloc (.cells (madeCells #[.bool false] l) 4)).setCell ⟨g0, i, none⟩ (.slice (some ⟨wr.heap.size, 0, none⟩) l l)).heap.size = g0 + 1 + (i + 1) := by
        have h1 : ((wr.alloc (.cells (madeCells #[.bool false] l) 4)).setCell ⟨g0, i, none⟩ (.slice (some ⟨wr.heap.size, 0, none⟩) l l)).heap.size = (wr.alloc (.cells (madeCells #[.bool false] l) 4)).heap.size := by simp [World.setCell]
        rw [h1, HS2.out, HSZ.out]; omega
      have hL := (below_trans HB.out HBA.out).setCell (p := ⟨g0, i, none⟩) (Nat.le_of_eq EG.out.symm) (.slice (some ⟨wr.heap.size, 0, none⟩) l l)
      rw [show (slcA g0 l n i).setIfInBounds i (.slice (some ⟨wr.heap.size, 0, none⟩) l l) = slcA g0 l n (i + 1) by rw [HSZ.out]; exact slcA_set] at hI
      have HI := Lib.hid hI
      have HRR := Lib.hid hR
      have HZ := Lib.hid hZ
      have HL := Lib.hid hL
      clear hI hR hZ hL
      go_roundw
      case rel => exact ⟨i + 1, by omega, by go_num, HI.out, HRR.out, HZ.out, HL.out⟩
      case measure => simp [intOf]; omega
    · obtain rfl : i = n := by omega
      have hin : ¬ (i : Int) < (i : Int) := by omega
      obtain ⟨gp, cp, q4, hpt⟩ := (HC.out.below hb).pt
      have HPT := Lib.hid hpt
      have hT : TruO wr g0 l i (fun r t => decide (r * l + t < 0) && B r t) := ⟨hbx, fun r hr => by
        have := hrows r hr
        rwa [boolA_congr (S' := fun t => decide (r * l + t < 0) && B r t) (fun t _ => by simp)] at this⟩
      have HT := Lib.hid hT
      obtain ⟨N, eN⟩ : ∃ N, N = i * l := ⟨_, rfl⟩
      rw [← eN] at q4 HPT hNl
      obtain ⟨wo, ewo⟩ : ∃ wo, wo = wr := ⟨_, rfl⟩
      rw [← ewo] at HPT HB HT q4
      have HPT2 : Hid (∀ X, Below wo.heap.size wo X → ∀ k, k < N → ∃ r t, r < i ∧ t < l ∧ k = r * l + t ∧ X.cell? ⟨gp, k * 2, none⟩ = some (.int .i64 r) ∧ X.cell? ⟨gp, k * 2 + 1, none⟩ = some (.int .i64 t)) := Lib.hid fun X hX k hk => by
        obtain ⟨r, t, h1, h2, h3, h4, h5⟩ := HPT.out k hk
        exact ⟨r, t, h1, h2, h3, cell_below hX h4, cell_below hX h5⟩
      have HPW : Hid (∀ X, Below w.heap.size w X → ∃ gp cp, X.cell? ⟨bc, 4, none⟩ = some (.slice (some ⟨gp, 0, none⟩) N cp)) := Lib.hid fun X hX => by
        obtain ⟨gp, cp, h1, -⟩ := (HC.out.below hX).pt
        exact ⟨gp, cp, by rw [eN]; exact h1⟩
      have HPX : Hid (∀ X, Below w.heap.size w X → ∀ k, k < N → ∃ r t, r < i ∧ t < l ∧ k = r * l + t ∧ X.cell? ⟨gp, k * 2, none⟩ = some (.int .i64 r) ∧ X.cell? ⟨gp, k * 2 + 1, none⟩ = some (.int .i64 t)) := Lib.hid fun X hX k hk => by
        obtain ⟨gp', cp', h1, hp'⟩ := (HC.out.below hX).pt
        obtain ⟨gp2, cp2, h2, hp2⟩ := HC.out.pt
        have e1 := (cell_below hX h2).symm.trans h1
        have e2 := (cell_below HB.out h2).symm.trans q4
        injection e1 with e1; injection e1 with e1; injection e1 with e1; injection e1 with e1
        injection e2 with e2; injection e2 with e2; injection e2 with e2; injection e2 with e2
        rw [eN] at hk
        rw [← e2, e1]
        exact hp' k hk
      have HLN : Hid (∀ r t, r < i → t < l → r * l + t < N) := Lib.hid fun r t hr ht => by
        have := Nat.mul_le_mul_right l (show r + 1 ≤ i from hr)
        rw [Nat.succ_mul] at this
        omega
      rw [ewo] at q4
      clear hbx hrows hpt hb hT hsz HPT HPT2 HPW HBX HRO eN hmk2
      go_upto_region 8 with (fail)
      clear q4
      rw [← ewo]
      clear ewo
      go_loopw [36] (fun kv wr => ∃ k : Nat, k ≤ N ∧ kv = .int .i64 k ∧ TruO wr g0 l i (fun r t => decide (r * l + t < k) && B r t) ∧ Below w.heap.size w wr) (fun kv _ => N - (intOf kv).toNat)
      case atStart => exact ⟨0, Nat.zero_le _, rfl, HT.out, HB.out⟩
      case round =>
        clear HT HB
        obtain ⟨k, hk, rfl, ht0, hb⟩ := hrel
        have HT := Lib.hid ht0
        have HB := Lib.hid hb
        by_cases hkl : k < N
        · have hkk : (k : Int) < (N : Int) := by omega
          obtain ⟨r, t, hr, ht, ek, p0, p1⟩ := HPX.out wr hb k hkl
          have HEK := Lib.hid ek
          clear ht0 hb ek
          go_upto_region 10 with (fail)
          have hba := below_alloc wr (.cells #[.int .i64 r, .int .i64 t] 26)
          have hpb := Blk.new wr #[.int .i64 r, .int .i64 t] 26
          obtain ⟨pb, epb⟩ : ∃ b, b = wr.heap.size := ⟨_, rfl⟩
          obtain ⟨V, eV⟩ : ∃ V2, V2 = wr.alloc (.cells #[.int .i64 r, .int .i64 t] 26) := ⟨_, rfl⟩
          rw [← eV] at hba hpb ⊢
          rw [← epb] at hpb ⊢
          have HT2 := Lib.hid (HT.out.below hba)
          have HB2 := Lib.hid (below_trans HB.out hba)
          have HPB := Lib.hid hpb
          have hb0 := Below.refl V.heap.size V
          have hr1 : (r : Int) < (i : Int) := by omega
          have ht1 : (t : Int) < (l : Int) := by omega
          obtain ⟨old, eold⟩ : ∃ b, b = (decide (r * l + t < k) && B r t) := ⟨_, rfl⟩
          have HSOF : Hid (∀ z, Below V.heap.size V z → (z.cell? ⟨g0, r, none⟩ = some (.slice (some ⟨g0 + 1 + r, 0, none⟩) l l) ∧ z.cell? ⟨pb, 0, none⟩ = some (.int .i64 r) ∧ z.cell? ⟨pb, 1, none⟩ = some (.int .i64 t))) := Lib.hid fun z h => ⟨(HT2.out.below h).box.cell (slcA_get hr hr), (HPB.out.below h).cell (k := 0) rfl, (HPB.out.below h).cell (k := 1) rfl⟩
          have HSST : Hid (∀ z v, Below V.heap.size V z → ((z.setCell ⟨g0 + 1 + r, t, none⟩ v).cell? ⟨g0, r, none⟩ = some (.slice (some ⟨g0 + 1 + r, 0, none⟩) l l) ∧ (z.setCell ⟨g0 + 1 + r, t, none⟩ v).cell? ⟨pb, 0, none⟩ = some (.int .i64 r) ∧ (z.setCell ⟨g0 + 1 + r, t, none⟩ v).cell? ⟨pb, 1, none⟩ = some (.int .i64 t))) := Lib.hid fun z v h => by
            have hz := HT2.out.below h
            have hpz := HPB.out.below h
            exact ⟨(hz.box.set_ne (by omega) t v).cell (slcA_get hr hr), (hpz.set_ne (hpz.ne (hz.row r hr) (by decide)) t v).cell (k := 0) rfl, (hpz.set_ne (hpz.ne (hz.row r hr) (by decide)) t v).cell (k := 1) rfl⟩
          have HOLD : Hid (∀ z, Below V.heap.size V z → z.cell? ⟨g0 + 1 + r, t, none⟩ = some (.bool old) ∧ z.frozen? ⟨g0 + 1 + r, t, none⟩ = false) := Lib.hid fun z h => by
            have hz := HT2.out.below h
            refine ⟨?_, (hz.row r hr).frozen⟩
            rw [eold]
            exact (hz.row r hr).cell (boolA_get ht)
          have HCB := Lib.hid (fun X (hX : Below V.heap.size V X) => HBB.out X (below_trans HB2.out hX) r t hr ht)
          clear hba hpb eV epb p0 p1 eold HT HB
          go_region_held3 (fun z => z.cell? ⟨g0, r, none⟩ = some (.slice (some ⟨g0 + 1 + r, 0, none⟩) l l) ∧ z.cell? ⟨pb, 0, none⟩ = some (.int .i64 r) ∧ z.cell? ⟨pb, 1, none⟩ = some (.int .i64 t)) (first | exact HSOF.out _ hb0 | exact HSOF.out _ (by assumption) | exact HSOF.out _ (below_drew hb0) | exact HSST.out _ _ (by assumption))
            (first
              | (go_at_call 135; have hzz : Below V.heap.size V _ := (by first | exact below_drew hb0 | exact hb0); refine (HCB.out _ hzz).mono ?_; rintro e w7 ⟨rfl, hb1⟩; have HB7 := below_trans hzz hb1; obtain ⟨o7, f7⟩ := HOLD.out _ HB7; clear hb1 hzz)
              | fail)
          rename_i hz
          clear hz
          have hT3 := (HT2.out.below HB7).set hr ht (B r t)
          have hB3 := (below_trans HB2.out HB7).setCell (p := ⟨g0 + 1 + r, t, none⟩) (show w.heap.size ≤ g0 + 1 + r by have := EG.out; omega) (.bool (B r t))
          generalize w7.setCell ⟨g0 + 1 + r, t, none⟩ (.bool (B r t)) = V9 at hT3 hB3 ⊢
          have HT3 := Lib.hid hT3
          have HB3 := Lib.hid hB3
          clear hT3 hB3 o7 f7 HB7 hb0 HSOF HSST HOLD HT2 HB2 HPB
          go_wp2_with fail
          go_roundw
          case rel =>
            refine ⟨k + 1, by omega, by go_num, HT3.out.congr fun r' t' hr' ht' => ?_, HB3.out⟩
            have hk2 := fill_num (r := r) (t := t) (r' := r') (t' := t') ht ht'
            rw [← HEK.out] at hk2
            by_cases e : r' = r ∧ t' = t
            · rw [if_pos e, decide_eq_true (hk2.2 (.inl e)), Bool.true_and, e.1, e.2]
            · rw [if_neg e]
              by_cases e2 : r' * l + t' < k
              · rw [decide_eq_true e2, decide_eq_true (hk2.2 (.inr e2))]
              · rw [decide_eq_false e2, decide_eq_false (fun h => (hk2.1 h).elim e e2)]
          case measure => simp [intOf]; omega
        · obtain rfl : k = N := by omega
          have hkk : ¬ (k : Int) < (k : Int) := by omega
          have HTE := Lib.hid (ht0.congr (X' := B) fun r t hr ht => by rw [decide_eq_true (HLN.out r t hr ht), Bool.true_and])
          clear ht0 hb
          go_wp2_with fail
          go_ret
          exact ⟨by rw [EG.out]; rfl, by rw [← EG.out]; exact HTE.out, HB.out⟩
set_option maxHeartbeats 8000000 in
set_option maxRecDepth 100000 in
theorem fill_M (w : World) (bc l n : Nat) (L : Nat → Nat → Nat → Int) (F : Nat → Nat → Nat) (b1 b2 b3 : Nat) (B : Nat → Nat → Bool) (hC : ChkR w bc l n L F) (hn : n ≤ 64) (hl : l ≤ 16)
    (hB : ∀ X, Below w.heap.size w X → ∀ r t : Nat, r < n → t < l → Calls Try.prog 139 #[.agg #[.int .i64 r, .int .i64 t], .pointer (some ⟨b1, 0, none⟩), .pointer (some ⟨b2, 0, none⟩), .pointer (some ⟨b3, 0, none⟩)] X fun e w' => e = .returned (.bool (B r t)) ∧ Below X.heap.size X w') :
    Calls Try.prog 108 #[.pointer (some ⟨bc, 0, none⟩), .func (.func 139) #[] #[.pointer (some ⟨b1, 0, none⟩), .pointer (some ⟨b2, 0, none⟩), .pointer (some ⟨b3, 0, none⟩)]] w fun e w' => e = .returned (.slice (some ⟨w.heap.size, 0, none⟩) n n) ∧ TruO w' w.heap.size l n B ∧ Below w.heap.size w w' := by
  obtain ⟨g4, o4, c4, c3, -⟩ := hC.loc
  have HC := Lib.hid hC
  have HBB := Lib.hid hB
  have hNl : n * l ≤ 1024 := Nat.mul_le_mul hn hl
  have hmk := fun w1 => run_make_row' (P := Try.prog) (w := w1) 114 65 (.slice none 0 0) 24 Try.underlying114 Try.infoBools rfl .i64 .i64 n (by omega) (by omega)
  clear hC hB
  go_enter Try.func108, Try.ntmps108
  go_upto_region 3 with (fail)
  have hrw := Blk.new w (madeCells #[.slice none 0 0] n) 65
  have hba := below_alloc w (.cells (madeCells #[.slice none 0 0] n) 65)
  have hs1 : (w.alloc (.cells (madeCells #[.slice none 0 0] n) 65)).heap.size = w.heap.size + 1 := by simp
  obtain ⟨g0, eg0⟩ : ∃ g, g = w.heap.size := ⟨_, rfl⟩
  rw [← eg0] at hrw hs1 ⊢
  rw [slcA_zero g0 l n] at hrw hba hs1 ⊢
  generalize w.alloc (.cells (slcA g0 l n 0) 65) = W at hrw hba hs1 ⊢
  have HRW := Lib.hid hrw
  have HBA := Lib.hid hba
  have HS1 := Lib.hid hs1
  have EG := Lib.hid eg0
  have hmk2 := fun w1 => run_make_row' (P := Try.prog) (w := w1) 65 4 (.bool false) 1 Try.underlying65 Try.infoBool rfl .i64 .i64 l (by omega) (by omega)
  clear hrw hba hs1 eg0 c3 hmk
  go_loopw [18] (fun iv wr => ∃ i : Nat, i ≤ n ∧ iv = .int .i64 i ∧ Blk wr g0 65 (slcA g0 l n i) ∧ (∀ r, r < i → Blk wr (g0 + 1 + r) 4 (boolA (fun _ => false) l)) ∧ wr.heap.size = g0 + 1 + i ∧ Below w.heap.size w wr) (fun iv _ => n - (intOf iv).toNat)
  case atStart => exact ⟨0, Nat.zero_le _, rfl, HRW.out, fun r hr => absurd hr (Nat.not_lt_zero r), HS1.out, HBA.out⟩
  case round =>
    clear HRW HBA HS1
    obtain ⟨i, hi, rfl, hbx, hrows, hsz, hb⟩ := hrel
    have HBX := Lib.hid hbx
    have HRO := Lib.hid hrows
    have HB := Lib.hid hb
    by_cases hlt : i < n
    · have hin : (i : Int) < (n : Int) := by omega
      have c2 := cell_below hb HC.out.c2
      have hba := below_alloc wr (.cells (madeCells #[.bool false] l) 4)
      have hnew := Blk.new wr (madeCells #[.bool false] l) 4
      have hs2 : (wr.alloc (.cells (madeCells #[.bool false] l) 4)).heap.size = wr.heap.size + 1 := by simp
      have x0 := (hbx.below hba).cell (slcA_get0 (g := g0) (l := l) (n := n) (i := i) hlt (Nat.lt_irrefl i))
      have f0 := (hbx.below hba).frozen (k := i)
      have HNW := Lib.hid hnew
      have HBA := Lib.hid hba
      have HS2 := Lib.hid hs2
      have HSZ := Lib.hid hsz
      clear hbx hrows hb hba hnew hs2 hsz
      go_wp2_with fail
      have hI := (HBX.out.below HBA.out).set i (.slice (some ⟨wr.heap.size, 0, none⟩) l l)
      have hR : ∀ r, r < i + 1 → Blk ((wr.alloc (.cells (madeCells #[.bool false] l) 4)).setCell ⟨g0, i, none⟩ (.slice (some ⟨wr.heap.size, 0, none⟩) l l)) (g0 + 1 + r) 4 (boolA (fun _ => false) l) := fun r hr => by
        by_cases e : r < i
        · exact ((HRO.out r e).below HBA.out).set_ne (by omega) _ _
        · obtain rfl : r = i := by omega
          have := HNW.out.set_ne (b' := g0) (by have := HSZ.out; omega) r (.slice (some ⟨wr.heap.size, 0, none⟩) l l)
          rw [madeCells_bool] at this ⊢
          rw [HSZ.out] at this ⊢
          exact this
      have hZ : ((wr.alloc (.cells (madeCells #[.bool false] l) 4)).setCell ⟨g0, i, none⟩ (.slice (some ⟨wr.heap.size, 0, none⟩) l l)).heap.size = g0 + 1 + (i + 1) := by
        have h1 : ((wr.alloc (.cells (madeCells #[.bool false] l) 4)).setCell ⟨g0, i, none⟩ (.slice (some ⟨wr.heap.size, 0, none⟩) l l)).heap.size = (wr.alloc (.cells (madeCells #[.bool false] l) 4)).heap.size := by simp [World.setCell]
        rw [h1, HS2.out, HSZ.out]; omega
      have hL := (below_trans HB.out HBA.out).setCell (p := ⟨g0, i, none⟩) (Nat.le_of_eq EG.out.symm) (.slice (some ⟨wr.heap.size, 0, none⟩) l l)
      rw [show (slcA g0 l n i).setIfInBounds i (.slice (some ⟨wr.heap.size, 0, none⟩) l l) = slcA g0 l n (i + 1) by rw [HSZ.out]; exact slcA_set] at hI
      have HI := Lib.hid hI
      have HRR := Lib.hid hR
      have HZ := Lib.hid hZ
      have HL := Lib.hid hL
      clear hI hR hZ hL
      go_roundw
      case rel => exact ⟨i + 1, by omega, by go_num, HI.out, HRR.out, HZ.out, HL.out⟩
      case measure => simp [intOf]; omega
    · obtain rfl : i = n := by omega
      have hin : ¬ (i : Int) < (i : Int) := by omega
      obtain ⟨gp, cp, q4, hpt⟩ := (HC.out.below hb).pt
      have HPT := Lib.hid hpt
      have hT : TruO wr g0 l i (fun r t => decide (r * l + t < 0) && B r t) := ⟨hbx, fun r hr => by
        have := hrows r hr
        rwa [boolA_congr (S' := fun t => decide (r * l + t < 0) && B r t) (fun t _ => by simp)] at this⟩
      have HT := Lib.hid hT
      obtain ⟨N, eN⟩ : ∃ N, N = i * l := ⟨_, rfl⟩
      rw [← eN] at q4 HPT hNl
      obtain ⟨wo, ewo⟩ : ∃ wo, wo = wr := ⟨_, rfl⟩
      rw [← ewo] at HPT HB HT q4
      have HPT2 : Hid (∀ X, Below wo.heap.size wo X → ∀ k, k < N → ∃ r t, r < i ∧ t < l ∧ k = r * l + t ∧ X.cell? ⟨gp, k * 2, none⟩ = some (.int .i64 r) ∧ X.cell? ⟨gp, k * 2 + 1, none⟩ = some (.int .i64 t)) := Lib.hid fun X hX k hk => by
        obtain ⟨r, t, h1, h2, h3, h4, h5⟩ := HPT.out k hk
        exact ⟨r, t, h1, h2, h3, cell_below hX h4, cell_below hX h5⟩
      have HPW : Hid (∀ X, Below w.heap.size w X → ∃ gp cp, X.cell? ⟨bc, 4, none⟩ = some (.slice (some ⟨gp, 0, none⟩) N cp)) := Lib.hid fun X hX => by
        obtain ⟨gp, cp, h1, -⟩ := (HC.out.below hX).pt
        exact ⟨gp, cp, by rw [eN]; exact h1⟩
      have HPX : Hid (∀ X, Below w.heap.size w X → ∀ k, k < N → ∃ r t, r < i ∧ t < l ∧ k = r * l + t ∧ X.cell? ⟨gp, k * 2, none⟩ = some (.int .i64 r) ∧ X.cell? ⟨gp, k * 2 + 1, none⟩ = some (.int .i64 t)) := Lib.hid fun X hX k hk => by
        obtain ⟨gp', cp', h1, hp'⟩ := (HC.out.below hX).pt
        obtain ⟨gp2, cp2, h2, hp2⟩ := HC.out.pt
        have e1 := (cell_below hX h2).symm.trans h1
        have e2 := (cell_below HB.out h2).symm.trans q4
        injection e1 with e1; injection e1 with e1; injection e1 with e1; injection e1 with e1
        injection e2 with e2; injection e2 with e2; injection e2 with e2; injection e2 with e2
        rw [eN] at hk
        rw [← e2, e1]
        exact hp' k hk
      have HLN : Hid (∀ r t, r < i → t < l → r * l + t < N) := Lib.hid fun r t hr ht => by
        have := Nat.mul_le_mul_right l (show r + 1 ≤ i from hr)
        rw [Nat.succ_mul] at this
        omega
      rw [ewo] at q4
      clear hbx hrows hpt hb hT hsz HPT HPT2 HPW HBX HRO eN hmk2
      go_upto_region 8 with (fail)
      clear q4
      rw [← ewo]
      clear ewo
      go_loopw [36] (fun kv wr => ∃ k : Nat, k ≤ N ∧ kv = .int .i64 k ∧ TruO wr g0 l i (fun r t => decide (r * l + t < k) && B r t) ∧ Below w.heap.size w wr) (fun kv _ => N - (intOf kv).toNat)
      case atStart => exact ⟨0, Nat.zero_le _, rfl, HT.out, HB.out⟩
      case round =>
        clear HT HB
        obtain ⟨k, hk, rfl, ht0, hb⟩ := hrel
        have HT := Lib.hid ht0
        have HB := Lib.hid hb
        by_cases hkl : k < N
        · have hkk : (k : Int) < (N : Int) := by omega
          obtain ⟨r, t, hr, ht, ek, p0, p1⟩ := HPX.out wr hb k hkl
          have HEK := Lib.hid ek
          clear ht0 hb ek
          go_upto_region 10 with (fail)
          have hba := below_alloc wr (.cells #[.int .i64 r, .int .i64 t] 26)
          have hpb := Blk.new wr #[.int .i64 r, .int .i64 t] 26
          obtain ⟨pb, epb⟩ : ∃ b, b = wr.heap.size := ⟨_, rfl⟩
          obtain ⟨V, eV⟩ : ∃ V2, V2 = wr.alloc (.cells #[.int .i64 r, .int .i64 t] 26) := ⟨_, rfl⟩
          rw [← eV] at hba hpb ⊢
          rw [← epb] at hpb ⊢
          have HT2 := Lib.hid (HT.out.below hba)
          have HB2 := Lib.hid (below_trans HB.out hba)
          have HPB := Lib.hid hpb
          have hb0 := Below.refl V.heap.size V
          have hr1 : (r : Int) < (i : Int) := by omega
          have ht1 : (t : Int) < (l : Int) := by omega
          obtain ⟨old, eold⟩ : ∃ b, b = (decide (r * l + t < k) && B r t) := ⟨_, rfl⟩
          have HSOF : Hid (∀ z, Below V.heap.size V z → (z.cell? ⟨g0, r, none⟩ = some (.slice (some ⟨g0 + 1 + r, 0, none⟩) l l) ∧ z.cell? ⟨pb, 0, none⟩ = some (.int .i64 r) ∧ z.cell? ⟨pb, 1, none⟩ = some (.int .i64 t))) := Lib.hid fun z h => ⟨(HT2.out.below h).box.cell (slcA_get hr hr), (HPB.out.below h).cell (k := 0) rfl, (HPB.out.below h).cell (k := 1) rfl⟩
          have HSST : Hid (∀ z v, Below V.heap.size V z → ((z.setCell ⟨g0 + 1 + r, t, none⟩ v).cell? ⟨g0, r, none⟩ = some (.slice (some ⟨g0 + 1 + r, 0, none⟩) l l) ∧ (z.setCell ⟨g0 + 1 + r, t, none⟩ v).cell? ⟨pb, 0, none⟩ = some (.int .i64 r) ∧ (z.setCell ⟨g0 + 1 + r, t, none⟩ v).cell? ⟨pb, 1, none⟩ = some (.int .i64 t))) := Lib.hid fun z v h => by
            have hz := HT2.out.below h
            have hpz := HPB.out.below h
            exact ⟨(hz.box.set_ne (by omega) t v).cell (slcA_get hr hr), (hpz.set_ne (hpz.ne (hz.row r hr) (by decide)) t v).cell (k := 0) rfl, (hpz.set_ne (hpz.ne (hz.row r hr) (by decide)) t v).cell (k := 1) rfl⟩
          have HOLD : Hid (∀ z, Below V.heap.size V z → z.cell? ⟨g0 + 1 + r, t, none⟩ = some (.bool old) ∧ z.frozen? ⟨g0 + 1 + r, t, none⟩ = false) := Lib.hid fun z h => by
            have hz := HT2.out.below h
            refine ⟨?_, (hz.row r hr).frozen⟩
            rw [eold]
            exact (hz.row r hr).cell (boolA_get ht)
          have HCB := Lib.hid (fun X (hX : Below V.heap.size V X) => HBB.out X (below_trans HB2.out hX) r t hr ht)
          clear hba hpb eV epb p0 p1 eold HT HB
          go_region_held3 (fun z => z.cell? ⟨g0, r, none⟩ = some (.slice (some ⟨g0 + 1 + r, 0, none⟩) l l) ∧ z.cell? ⟨pb, 0, none⟩ = some (.int .i64 r) ∧ z.cell? ⟨pb, 1, none⟩ = some (.int .i64 t)) (first | exact HSOF.out _ hb0 | exact HSOF.out _ (by assumption) | exact HSOF.out _ (below_drew hb0) | exact HSST.out _ _ (by assumption))
            (first
              | (go_at_call 139; have hzz : Below V.heap.size V _ := (by first | exact below_drew hb0 | exact hb0); refine (HCB.out _ hzz).mono ?_; rintro e w7 ⟨rfl, hb1⟩; have HB7 := below_trans hzz hb1; obtain ⟨o7, f7⟩ := HOLD.out _ HB7; clear hb1 hzz)
              | fail)
          rename_i hz
          clear hz
          have hT3 := (HT2.out.below HB7).set hr ht (B r t)
          have hB3 := (below_trans HB2.out HB7).setCell (p := ⟨g0 + 1 + r, t, none⟩) (show w.heap.size ≤ g0 + 1 + r by have := EG.out; omega) (.bool (B r t))
          generalize w7.setCell ⟨g0 + 1 + r, t, none⟩ (.bool (B r t)) = V9 at hT3 hB3 ⊢
          have HT3 := Lib.hid hT3
          have HB3 := Lib.hid hB3
          clear hT3 hB3 o7 f7 HB7 hb0 HSOF HSST HOLD HT2 HB2 HPB
          go_wp2_with fail
          go_roundw
          case rel =>
            refine ⟨k + 1, by omega, by go_num, HT3.out.congr fun r' t' hr' ht' => ?_, HB3.out⟩
            have hk2 := fill_num (r := r) (t := t) (r' := r') (t' := t') ht ht'
            rw [← HEK.out] at hk2
            by_cases e : r' = r ∧ t' = t
            · rw [if_pos e, decide_eq_true (hk2.2 (.inl e)), Bool.true_and, e.1, e.2]
            · rw [if_neg e]
              by_cases e2 : r' * l + t' < k
              · rw [decide_eq_true e2, decide_eq_true (hk2.2 (.inr e2))]
              · rw [decide_eq_false e2, decide_eq_false (fun h => (hk2.1 h).elim e e2)]
          case measure => simp [intOf]; omega
        · obtain rfl : k = N := by omega
          have hkk : ¬ (k : Int) < (k : Int) := by omega
          have HTE := Lib.hid (ht0.congr (X' := B) fun r t hr ht => by rw [decide_eq_true (HLN.out r t hr ht), Bool.true_and])
          clear ht0 hb
          go_wp2_with fail
          go_ret
          exact ⟨by rw [EG.out]; rfl, by rw [← EG.out]; exact HTE.out, HB.out⟩
set_option maxHeartbeats 8000000 in
set_option maxRecDepth 100000 in
theorem fill_B (w : World) (bc l n : Nat) (L : Nat → Nat → Nat → Int) (F : Nat → Nat → Nat) (b1 b2 b3 b4 : Nat) (B : Nat → Nat → Bool) (hC : ChkR w bc l n L F) (hn : n ≤ 64) (hl : l ≤ 16)
    (hB : ∀ X, Below w.heap.size w X → ∀ r t : Nat, r < n → t < l → Calls Try.prog 123 #[.agg #[.int .i64 r, .int .i64 t], .pointer (some ⟨b1, 0, none⟩), .pointer (some ⟨b2, 0, none⟩), .pointer (some ⟨b3, 0, none⟩), .pointer (some ⟨b4, 0, none⟩)] X fun e w' => e = .returned (.bool (B r t)) ∧ Below X.heap.size X w') :
    Calls Try.prog 108 #[.pointer (some ⟨bc, 0, none⟩), .func (.func 123) #[] #[.pointer (some ⟨b1, 0, none⟩), .pointer (some ⟨b2, 0, none⟩), .pointer (some ⟨b3, 0, none⟩), .pointer (some ⟨b4, 0, none⟩)]] w fun e w' => e = .returned (.slice (some ⟨w.heap.size, 0, none⟩) n n) ∧ TruO w' w.heap.size l n B ∧ Below w.heap.size w w' := by
  obtain ⟨g4, o4, c4, c3, -⟩ := hC.loc
  have HC := Lib.hid hC
  have HBB := Lib.hid hB
  have hNl : n * l ≤ 1024 := Nat.mul_le_mul hn hl
  have hmk := fun w1 => run_make_row' (P := Try.prog) (w := w1) 114 65 (.slice none 0 0) 24 Try.underlying114 Try.infoBools rfl .i64 .i64 n (by omega) (by omega)
  clear hC hB
  go_enter Try.func108, Try.ntmps108
  go_upto_region 3 with (fail)
  have hrw := Blk.new w (madeCells #[.slice none 0 0] n) 65
  have hba := below_alloc w (.cells (madeCells #[.slice none 0 0] n) 65)
  have hs1 : (w.alloc (.cells (madeCells #[.slice none 0 0] n) 65)).heap.size = w.heap.size + 1 := by simp
  obtain ⟨g0, eg0⟩ : ∃ g, g = w.heap.size := ⟨_, rfl⟩
  rw [← eg0] at hrw hs1 ⊢
  rw [slcA_zero g0 l n] at hrw hba hs1 ⊢
  generalize w.alloc (.cells (slcA g0 l n 0) 65) = W at hrw hba hs1 ⊢
  have HRW := Lib.hid hrw
  have HBA := Lib.hid hba
  have HS1 := Lib.hid hs1
  have EG := Lib.hid eg0
  have hmk2 := fun w1 => run_make_row' (P := Try.prog) (w := w1) 65 4 (.bool false) 1 Try.underlying65 Try.infoBool rfl .i64 .i64 l (by omega) (by omega)
  clear hrw hba hs1 eg0 c3 hmk
  go_loopw [18] (fun iv wr => ∃ i : Nat, i ≤ n ∧ iv = .int .i64 i ∧ Blk wr g0 65 (slcA g0 l n i) ∧ (∀ r, r < i → Blk wr (g0 + 1 + r) 4 (boolA (fun _ => false) l)) ∧ wr.heap.size = g0 + 1 + i ∧ Below w.heap.size w wr) (fun iv _ => n - (intOf iv).toNat)
  case atStart => exact ⟨0, Nat.zero_le _, rfl, HRW.out, fun r hr => absurd hr (Nat.not_lt_zero r), HS1.out, HBA.out⟩
  case round =>
    clear HRW HBA HS1
    obtain ⟨i, hi, rfl, hbx, hrows, hsz, hb⟩ := hrel
    have HBX := Lib.hid hbx
    have HRO := Lib.hid hrows
    have HB := Lib.hid hb
    by_cases hlt : i < n
    · have hin : (i : Int) < (n : Int) := by omega
      have c2 := cell_below hb HC.out.c2
      have hba := below_alloc wr (.cells (madeCells #[.bool false] l) 4)
      have hnew := Blk.new wr (madeCells #[.bool false] l) 4
      have hs2 : (wr.alloc (.cells (madeCells #[.bool false] l) 4)).heap.size = wr.heap.size + 1 := by simp
      have x0 := (hbx.below hba).cell (slcA_get0 (g := g0) (l := l) (n := n) (i := i) hlt (Nat.lt_irrefl i))
      have f0 := (hbx.below hba).frozen (k := i)
      have HNW := Lib.hid hnew
      have HBA := Lib.hid hba
      have HS2 := Lib.hid hs2
      have HSZ := Lib.hid hsz
      clear hbx hrows hb hba hnew hs2 hsz
      go_wp2_with fail
      have hI := (HBX.out.below HBA.out).set i (.slice (some ⟨wr.heap.size, 0, none⟩) l l)
      have hR : ∀ r, r < i + 1 → Blk ((wr.alloc (.cells (madeCells #[.bool false] l) 4)).setCell ⟨g0, i, none⟩ (.slice (some ⟨wr.heap.size, 0, none⟩) l l)) (g0 + 1 + r) 4 (boolA (fun _ => false) l) := fun r hr => by
        by_cases e : r < i
        · exact ((HRO.out r e).below HBA.out).set_ne (by omega) _ _
        · obtain rfl : r = i := by omega
          have := HNW.out.set_ne (b' := g0) (by have := HSZ.out; omega) r (.slice (some ⟨wr.heap.size, 0, none⟩) l l)
          rw [madeCells_bool] at this ⊢
          rw [HSZ.out] at this ⊢
          exact this
      have hZ : ((wr.alloc (.cells (madeCells #[.bool false] l) 4)).setCell ⟨g0, i, none⟩ (.slice (some ⟨wr.heap.size, 0, none⟩) l l)).heap.size = g0 + 1 + (i + 1) := by
        have h1 : ((wr.alloc (.cells (madeCells #[.bool false] l) 4)).setCell ⟨g0, i, none⟩ (.slice (some ⟨wr.heap.size, 0, none⟩) l l)).heap.size = (wr.alloc (.cells (madeCells #[.bool false] l) 4)).heap.size := by simp [World.setCell]
        rw [h1, HS2.out, HSZ.out]; omega
      have hL := (below_trans HB.out HBA.out).setCell (p := ⟨g0, i, none⟩) (Nat.le_of_eq EG.out.symm) (.slice (some ⟨wr.heap.size, 0, none⟩) l l)
      rw [show (slcA g0 l n i).setIfInBounds i (.slice (some ⟨wr.heap.size, 0, none⟩) l l) = slcA g0 l n (i + 1) by rw [HSZ.out]; exact slcA_set] at hI
      have HI := Lib.hid hI
      have HRR := Lib.hid hR
      have HZ := Lib.hid hZ
      have HL := Lib.hid hL
      clear hI hR hZ hL
      go_roundw
      case rel => exact ⟨i + 1, by omega, by go_num, HI.out, HRR.out, HZ.out, HL.out⟩
      case measure => simp [intOf]; omega
    · obtain rfl : i = n := by omega
      have hin : ¬ (i : Int) < (i : Int) := by omega
      obtain ⟨gp, cp, q4, hpt⟩ := (HC.out.below hb).pt
      have HPT := Lib.hid hpt
      have hT : TruO wr g0 l i (fun r t => decide (r * l + t < 0) && B r t) := ⟨hbx, fun r hr => by
        have := hrows r hr
        rwa [boolA_congr (S' := fun t => decide (r * l + t < 0) && B r t) (fun t _ => by simp)] at this⟩
      have HT := Lib.hid hT
      obtain ⟨N, eN⟩ : ∃ N, N = i * l := ⟨_, rfl⟩
      rw [← eN] at q4 HPT hNl
      obtain ⟨wo, ewo⟩ : ∃ wo, wo = wr := ⟨_, rfl⟩
      rw [← ewo] at HPT HB HT q4
      have HPT2 : Hid (∀ X, Below wo.heap.size wo X → ∀ k, k < N → ∃ r t, r < i ∧ t < l ∧ k = r * l + t ∧ X.cell? ⟨gp, k * 2, none⟩ = some (.int .i64 r) ∧ X.cell? ⟨gp, k * 2 + 1, none⟩ = some (.int .i64 t)) := Lib.hid fun X hX k hk => by
        obtain ⟨r, t, h1, h2, h3, h4, h5⟩ := HPT.out k hk
        exact ⟨r, t, h1, h2, h3, cell_below hX h4, cell_below hX h5⟩
      have HPW : Hid (∀ X, Below w.heap.size w X → ∃ gp cp, X.cell? ⟨bc, 4, none⟩ = some (.slice (some ⟨gp, 0, none⟩) N cp)) := Lib.hid fun X hX => by
        obtain ⟨gp, cp, h1, -⟩ := (HC.out.below hX).pt
        exact ⟨gp, cp, by rw [eN]; exact h1⟩
      have HPX : Hid (∀ X, Below w.heap.size w X → ∀ k, k < N → ∃ r t, r < i ∧ t < l ∧ k = r * l + t ∧ X.cell? ⟨gp, k * 2, none⟩ = some (.int .i64 r) ∧ X.cell? ⟨gp, k * 2 + 1, none⟩ = some (.int .i64 t)) := Lib.hid fun X hX k hk => by
        obtain ⟨gp', cp', h1, hp'⟩ := (HC.out.below hX).pt
        obtain ⟨gp2, cp2, h2, hp2⟩ := HC.out.pt
        have e1 := (cell_below hX h2).symm.trans h1
        have e2 := (cell_below HB.out h2).symm.trans q4
        injection e1 with e1; injection e1 with e1; injection e1 with e1; injection e1 with e1
        injection e2 with e2; injection e2 with e2; injection e2 with e2; injection e2 with e2
        rw [eN] at hk
        rw [← e2, e1]
        exact hp' k hk
      have HLN : Hid (∀ r t, r < i → t < l → r * l + t < N) := Lib.hid fun r t hr ht => by
        have := Nat.mul_le_mul_right l (show r + 1 ≤ i from hr)
        rw [Nat.succ_mul] at this
        omega
      rw [ewo] at q4
      clear hbx hrows hpt hb hT hsz HPT HPT2 HPW HBX HRO eN hmk2
      go_upto_region 8 with (fail)
      clear q4
      rw [← ewo]
      clear ewo
      go_loopw [36] (fun kv wr => ∃ k : Nat, k ≤ N ∧ kv = .int .i64 k ∧ TruO wr g0 l i (fun r t => decide (r * l + t < k) && B r t) ∧ Below w.heap.size w wr) (fun kv _ => N - (intOf kv).toNat)
      case atStart => exact ⟨0, Nat.zero_le _, rfl, HT.out, HB.out⟩
      case round =>
        clear HT HB
        obtain ⟨k, hk, rfl, ht0, hb⟩ := hrel
        have HT := Lib.hid ht0
        have HB := Lib.hid hb
        by_cases hkl : k < N
        · have hkk : (k : Int) < (N : Int) := by omega
          obtain ⟨r, t, hr, ht, ek, p0, p1⟩ := HPX.out wr hb k hkl
          have HEK := Lib.hid ek
          clear ht0 hb ek
          go_upto_region 10 with (fail)
          have hba := below_alloc wr (.cells #[.int .i64 r, .int .i64 t] 26)
          have hpb := Blk.new wr #[.int .i64 r, .int .i64 t] 26
          obtain ⟨pb, epb⟩ : ∃ b, b = wr.heap.size := ⟨_, rfl⟩
          obtain ⟨V, eV⟩ : ∃ V2, V2 = wr.alloc (.cells #[.int .i64 r, .int .i64 t] 26) := ⟨_, rfl⟩
          rw [← eV] at hba hpb ⊢
          rw [← epb] at hpb ⊢
          have HT2 := Lib.hid (HT.out.below hba)
          have HB2 := Lib.hid (below_trans HB.out hba)
          have HPB := Lib.hid hpb
          have hb0 := Below.refl V.heap.size V
          have hr1 : (r : Int) < (i : Int) := by omega
          have ht1 : (t : Int) < (l : Int) := by omega
          obtain ⟨old, eold⟩ : ∃ b, b = (decide (r * l + t < k) && B r t) := ⟨_, rfl⟩
          have HSOF : Hid (∀ z, Below V.heap.size V z → (z.cell? ⟨g0, r, none⟩ = some (.slice (some ⟨g0 + 1 + r, 0, none⟩) l l) ∧ z.cell? ⟨pb, 0, none⟩ = some (.int .i64 r) ∧ z.cell? ⟨pb, 1, none⟩ = some (.int .i64 t))) := Lib.hid fun z h => ⟨(HT2.out.below h).box.cell (slcA_get hr hr), (HPB.out.below h).cell (k := 0) rfl, (HPB.out.below h).cell (k := 1) rfl⟩
          have HSST : Hid (∀ z v, Below V.heap.size V z → ((z.setCell ⟨g0 + 1 + r, t, none⟩ v).cell? ⟨g0, r, none⟩ = some (.slice (some ⟨g0 + 1 + r, 0, none⟩) l l) ∧ (z.setCell ⟨g0 + 1 + r, t, none⟩ v).cell? ⟨pb, 0, none⟩ = some (.int .i64 r) ∧ (z.setCell ⟨g0 + 1 + r, t, none⟩ v).cell? ⟨pb, 1, none⟩ = some (.int .i64 t))) := Lib.hid fun z v h => by
            have hz := HT2.out.below h
            have hpz := HPB.out.below h
            exact ⟨(hz.box.set_ne (by omega) t v).cell (slcA_get hr hr), (hpz.set_ne (hpz.ne (hz.row r hr) (by decide)) t v).cell (k := 0) rfl, (hpz.set_ne (hpz.ne (hz.row r hr) (by decide)) t v).cell (k := 1) rfl⟩
          have HOLD : Hid (∀ z, Below V.heap.size V z → z.cell? ⟨g0 + 1 + r, t, none⟩ = some (.bool old) ∧ z.frozen? ⟨g0 + 1 + r, t, none⟩ = false) := Lib.hid fun z h => by
            have hz := HT2.out.below h
            refine ⟨?_, (hz.row r hr).frozen⟩
            rw [eold]
            exact (hz.row r hr).cell (boolA_get ht)
          have HCB := Lib.hid (fun X (hX : Below V.heap.size V X) => HBB.out X (below_trans HB2.out hX) r t hr ht)
          clear hba hpb eV epb p0 p1 eold HT HB
          go_region_held3 (fun z => z.cell? ⟨g0, r, none⟩ = some (.slice (some ⟨g0 + 1 + r, 0, none⟩) l l) ∧ z.cell? ⟨pb, 0, none⟩ = some (.int .i64 r) ∧ z.cell? ⟨pb, 1, none⟩ = some (.int .i64 t)) (first | exact HSOF.out _ hb0 | exact HSOF.out _ (by assumption) | exact HSOF.out _ (below_drew hb0) | exact HSST.out _ _ (by assumption))
            (first
              | (go_at_call 123; have hzz : Below V.heap.size V _ := (by first | exact below_drew hb0 | exact hb0); refine (HCB.out _ hzz).mono ?_; rintro e w7 ⟨rfl, hb1⟩; have HB7 := below_trans hzz hb1; obtain ⟨o7, f7⟩ := HOLD.out _ HB7; clear hb1 hzz)
              | fail)
          rename_i hz
          clear hz
          have hT3 := (HT2.out.below HB7).set hr ht (B r t)
          have hB3 := (below_trans HB2.out HB7).setCell (p := ⟨g0 + 1 + r, t, none⟩) (show w.heap.size ≤ g0 + 1 + r by have := EG.out; omega) (.bool (B r t))
          generalize w7.setCell ⟨g0 + 1 + r, t, none⟩ (.bool (B r t)) = V9 at hT3 hB3 ⊢
          have HT3 := Lib.hid hT3
          have HB3 := Lib.hid hB3
          clear hT3 hB3 o7 f7 HB7 hb0 HSOF HSST HOLD HT2 HB2 HPB
          go_wp2_with fail
          go_roundw
          case rel =>
            refine ⟨k + 1, by omega, by go_num, HT3.out.congr fun r' t' hr' ht' => ?_, HB3.out⟩
            have hk2 := fill_num (r := r) (t := t) (r' := r') (t' := t') ht ht'
            rw [← HEK.out] at hk2
            by_cases e : r' = r ∧ t' = t
            · rw [if_pos e, decide_eq_true (hk2.2 (.inl e)), Bool.true_and, e.1, e.2]
            · rw [if_neg e]
              by_cases e2 : r' * l + t' < k
              · rw [decide_eq_true e2, decide_eq_true (hk2.2 (.inr e2))]
              · rw [decide_eq_false e2, decide_eq_false (fun h => (hk2.1 h).elim e e2)]
          case measure => simp [intOf]; omega
        · obtain rfl : k = N := by omega
          have hkk : ¬ (k : Int) < (k : Int) := by omega
          have HTE := Lib.hid (ht0.congr (X' := B) fun r t hr ht => by rw [decide_eq_true (HLN.out r t hr ht), Bool.true_and])
          clear ht0 hb
          go_wp2_with fail
          go_ret
          exact ⟨by rw [EG.out]; rfl, by rw [← EG.out]; exact HTE.out, HB.out⟩
end Go.Proofs.Ytahaimecchdfeaa
