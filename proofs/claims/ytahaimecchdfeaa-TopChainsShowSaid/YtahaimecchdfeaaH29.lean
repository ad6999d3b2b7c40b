/-
  Texts of this claim, one after the other: what each proves is said at its head. No condition beyond those that its theorems name.
-/
import Derived.Test.YtahaimecchdfeaaProg
import Derived.Deep.DeepCutAuto
import Derived.Deep.RegionHeld3
import Derived.Laws.EntriesVeiled
import Derived.Test.YtahaimecchdfeaaH01
import Derived.Test.YtahaimecchdfeaaH02
import Derived.Test.YtahaimecchdfeaaH03
import Derived.Test.YtahaimecchdfeaaH09
import Derived.Test.YtahaimecchdfeaaH12
import Derived.Test.YtahaimecchdfeaaH15
import Derived.Test.YtahaimecchdfeaaH19
import Derived.Test.YtahaimecchdfeaaH22
import Derived.Test.YtahaimecchdfeaaH24
import Derived.Test.YtahaimecchdfeaaH27

/-
  Walks of package attack: Common.
-/
namespace Go.Proofs.Ytahaimecchdfeaa
open Go.RowKit

/-- A fact at a point, by its number. -/
def facK (F : Nat → Nat → Nat) (n : Nat) (l : Int) (fc k : Nat) : Bool := facB2 F (ptG (ptL n l.toNat) k) fc
set_option maxHeartbeats 4000000 in
theorem cm1_any (x : Value) (a f l : Int) (n : Nat) (T : Nat → Nat) (m : Nat → Nat → Nat) (L : Nat → Nat → Nat → Int) (K : Nat → Nat) (F : Nat → Nat → Nat) (W : World) (bx b1 b2 b3 g fc k k0 len cv : Nat) (hsp : SpaceOf W x a f l n T m L K F bx) (hk : k < n * l.toNat) (hk0 : k0 < n * l.toNat) (hfc : fc ≤ 8)
    (c1 : W.cell? ⟨b1, 0, none⟩ = some (.pointer (some ⟨bx, 0, none⟩))) (c2 : W.cell? ⟨b2, 0, none⟩ = some (.int .i64 fc)) (c3 : W.cell? ⟨b3, 0, none⟩ = some (.slice (some ⟨g, 0, none⟩) len cv)) (c4 : W.cell? ⟨g, 0, none⟩ = some (.int .i64 k0)) (hlen : 0 < len) :
    Calls Try.prog 48 #[.int .i64 k, .pointer (some ⟨b1, 0, none⟩), .pointer (some ⟨b2, 0, none⟩), .pointer (some ⟨b3, 0, none⟩)] W fun e w' => e = .returned (.bool (facK F n l fc k != facK F n l fc k0)) ∧ Below W.heap.size W w' := by
  have HH := Lib.hid (fun X (hX : Below W.heap.size W X) (i : Nat) (hi : i < n * l.toNat) => (hsp.below hX).holds (fc := fc) hi hfc)
  have HSOF := Lib.hid (fun (z : World) (h : Below W.heap.size W z) => (⟨h, cell_below h c1, cell_below h c2, cell_below h c3, cell_below h c4⟩ : Below W.heap.size W z ∧ z.cell? ⟨b1, 0, none⟩ = some (.pointer (some ⟨bx, 0, none⟩)) ∧ z.cell? ⟨b2, 0, none⟩ = some (.int .i64 fc) ∧ z.cell? ⟨b3, 0, none⟩ = some (.slice (some ⟨g, 0, none⟩) len cv) ∧ z.cell? ⟨g, 0, none⟩ = some (.int .i64 k0)))
  have hb0 := Below.refl W.heap.size W
  have hl1 : (0 : Int) < (len : Int) := by omega
  have tok1 : True := trivial
  clear c1 c2 c3 c4 hsp
  go_enter Try.func48, Try.ntmps48
  go_upto_region 1 with (fail)
  go_region_held3 (fun z => Below W.heap.size W z ∧ z.cell? ⟨b1, 0, none⟩ = some (.pointer (some ⟨bx, 0, none⟩)) ∧ z.cell? ⟨b2, 0, none⟩ = some (.int .i64 fc) ∧ z.cell? ⟨b3, 0, none⟩ = some (.slice (some ⟨g, 0, none⟩) len cv) ∧ z.cell? ⟨g, 0, none⟩ = some (.int .i64 k0)) (first | exact HSOF.out _ (by assumption) | exact HSOF.out _ (below_drew hb0) | exact HSOF.out _ (below_trans (And.left (by assumption)) (by assumption)))
    ((go_at_call 49; refine (HH.out _ (And.left (by assumption)) _ (by first | exact hk | exact hk0)).mono ?_; rintro e w7 ⟨rfl, hb1⟩; have HB7 := below_trans (And.left (by assumption)) hb1; clear hb1))
  all_goals (
    go_wp2_with fail
    go_ret
    exact ⟨rfl, And.left (by assumption : Below W.heap.size W _ ∧ _)⟩)
/-- The first place of a number with a property, or -1. -/
def ixB (ks : List Nat) (B : Nat → Bool) : Int := match ks.findIdx? B with | some k => (k : Int) | none => -1
theorem ixB_hit {ks : List Nat} {B : Nat → Bool} {j k : Nat} (hk : ks[j]? = some k) (hb : B k = true) (hm : ∀ i q, i < j → ks[i]? = some q → B q = false) : ixB ks B = j := by
  have h : ks.findIdx? B = some j := by
    rw [List.findIdx?_eq_some_iff_getElem]
    obtain ⟨h1, h2⟩ := List.getElem?_eq_some_iff.1 hk
    refine ⟨h1, by rw [h2]; exact hb, fun i hi => ?_⟩
    have := hm i _ hi (List.getElem?_eq_getElem (by omega))
    simpa using this
  unfold ixB; rw [h]
theorem ixB_none {ks : List Nat} {B : Nat → Bool} (hm : ∀ i q, i < ks.length → ks[i]? = some q → B q = false) : ixB ks B = -1 := by
  have h : ks.findIdx? B = none := by
    rw [List.findIdx?_eq_none_iff]
    intro q hq
    obtain ⟨i, hi, rfl⟩ := List.getElem_of_mem hq
    simpa using hm i _ hi (List.getElem?_eq_getElem hi)
  unfold ixB; rw [h]
theorem ixB_any (ks : List Nat) (B : Nat → Bool) : decide (0 ≤ ixB ks B) = ks.any B := by
  unfold ixB
  cases h : ks.findIdx? B with
  | some k =>
    rw [List.findIdx?_eq_some_iff_getElem] at h
    obtain ⟨h1, h2, _⟩ := h
    have : ks.any B = true := List.any_eq_true.2 ⟨_, List.getElem_mem h1, h2⟩
    rw [this]
    simp
  | none =>
    rw [List.findIdx?_eq_none_iff] at h
    have : ks.any B = false := by rw [List.any_eq_false]; intro q hq; simp [h q hq]
    rw [this]
    rfl
set_option maxHeartbeats 2000000 in
theorem cmIndex_any (W : World) (base b1 b2 b3 : Nat) (v : Value) (ks : List Nat) (B : Nat → Bool) (ho : OwnN W base v ks) (hlen : ks.length ≤ 65536)
    (hB : ∀ X, Below W.heap.size W X → ∀ k, k ∈ ks → Calls Try.prog 48 #[.int .i64 k, .pointer (some ⟨b1, 0, none⟩), .pointer (some ⟨b2, 0, none⟩), .pointer (some ⟨b3, 0, none⟩)] X fun e w' => e = .returned (.bool (B k)) ∧ Below X.heap.size X w') :
    Calls Try.prog 81 #[v, .func (.func 48) #[] #[.pointer (some ⟨b1, 0, none⟩), .pointer (some ⟨b2, 0, none⟩), .pointer (some ⟨b3, 0, none⟩)]] W fun e w' => e = .returned (.int .i64 (ixB ks B)) ∧ Below W.heap.size W w' := by
  have HO := Lib.hid ho
  obtain ⟨Av, cv, rfl⟩ := ho.shape
  obtain ⟨N, eN⟩ : ∃ N, N = ks.length := ⟨_, rfl⟩
  rw [← eN] at hlen HO ⊢
  have EN := Lib.hid eN
  have HBC := Lib.hid hB
  clear ho hB eN
  go_enter Try.func81, Try.ntmps81
  go_wp2
  go_loopw [8] (fun i wr => ∃ j : Nat, j ≤ N ∧ i = .int .i64 j ∧ Hid (∀ i q, i < j → ks[i]? = some q → B q = false) ∧ Below W.heap.size W wr) (fun i _ => N - (intOf i).toNat)
  case atStart => exact ⟨0, Nat.zero_le _, rfl, Lib.hid fun i _ h => absurd h (Nat.not_lt_zero _), Below.refl _ _⟩
  case round =>
    obtain ⟨j, hj, rfl, HF, hbl⟩ := hrel
    have HB := Lib.hid hbl
    by_cases hlt : j < N
    · have hjj : (j : Int) < (N : Int) := by omega
      obtain ⟨k, hk⟩ : ∃ k, ks[j]? = some k := ⟨_, List.getElem?_eq_getElem (by rw [← EN.out]; exact hlt)⟩
      obtain ⟨bv, cv', ev, c3⟩ := HO.out.at hk
      injection ev with ev1 ev2 ev3
      subst ev1
      have c3 := cell_below hbl c3
      have HC1 := Lib.hid (HBC.out wr hbl k (List.mem_of_getElem? hk))
      cases hb : B k
      · have HF2 : Hid (∀ i q, i < j + 1 → ks[i]? = some q → B q = false) := Lib.hid fun i q h hq => by
          rcases Nat.lt_succ_iff_lt_or_eq.1 h with h3 | rfl
          · exact HF.out i q h3 hq
          · rw [hk] at hq
            injection hq with hq
            subst hq
            exact hb
        rw [hb] at HC1
        clear hb hbl ev2 ev3 hk
        go_wp2_with (go_at_call 48; refine HC1.out.mono ?_; rintro e w1 ⟨rfl, hb1⟩; have HB := Lib.hid (HB.out.trans (hb1.mono HB.out.size)); clear hb1)
        go_roundw
        case rel => exact ⟨j + 1, by omega, by go_num, HF2, HB.out⟩
        case measure => simp [intOf]; omega
      · have HI := Lib.hid (ixB_hit hk hb HF.out)
        rw [hb] at HC1
        clear hb hbl ev2 ev3 hk
        go_wp2_with (go_at_call 48; refine HC1.out.mono ?_; rintro e w1 ⟨rfl, hb1⟩; have HB := Lib.hid (HB.out.trans (hb1.mono HB.out.size)); clear hb1)
        go_ret
        exact ⟨by rw [HI.out]; rfl, HB.out⟩
    · obtain rfl : j = N := by omega
      have hjj : ¬ (j : Int) < (j : Int) := by omega
      have HI := Lib.hid (ixB_none (ks := ks) (B := B) (by rw [← EN.out]; exact HF.out))
      clear hbl
      go_wp2
      go_ret
      exact ⟨by rw [HI.out]; rfl, HB.out⟩
theorem cmContains_any (W : World) (base b1 b2 b3 : Nat) (v : Value) (ks : List Nat) (B : Nat → Bool) (ho : OwnN W base v ks) (hlen : ks.length ≤ 65536)
    (hB : ∀ X, Below W.heap.size W X → ∀ k, k ∈ ks → Calls Try.prog 48 #[.int .i64 k, .pointer (some ⟨b1, 0, none⟩), .pointer (some ⟨b2, 0, none⟩), .pointer (some ⟨b3, 0, none⟩)] X fun e w' => e = .returned (.bool (B k)) ∧ Below X.heap.size X w') :
    Calls Try.prog 47 #[v, .func (.func 48) #[] #[.pointer (some ⟨b1, 0, none⟩), .pointer (some ⟨b2, 0, none⟩), .pointer (some ⟨b3, 0, none⟩)]] W fun e w' => e = .returned (.bool (ks.any B)) ∧ Below W.heap.size W w' := by
  have HI := Lib.hid (cmIndex_any W base b1 b2 b3 v ks B ho hlen hB)
  have HE := Lib.hid (ixB_any ks B)
  obtain ⟨Av, cv, rfl⟩ := ho.shape
  clear ho hB
  go_enter Try.func47, Try.ntmps47
  go_wp2_with (go_at_call 81; refine HI.out.mono ?_; rintro e w1 ⟨rfl, hb1⟩; have HB := Lib.hid hb1; clear hb1)
  go_ret
  exact ⟨by rw [← HE.out]; rfl, HB.out⟩

/-- The error of Common. -/
def comE (a f l : Int) (n : Nat) (T : Nat → Nat) (m : Nat → Nat → Nat) (K : Nat → Nat) (F : Nat → Nat → Nat) (r t fc : Int) : Nat :=
  if entE a f l n T m K F r t = 0 then (if 0 ≤ fc ∧ fc < f then 0 else 2) else entE a f l n T m K F r t
/-- What Common answers. -/
noncomputable def comV (a f l : Int) (n : Nat) (T : Nat → Nat) (m : Nat → Nat → Nat) (L : Nat → Nat → Nat → Int) (K : Nat → Nat) (F : Nat → Nat → Nat) (r t fc : Int) : Bool :=
  decide (comE a f l n T m K F r t fc = 0) && !(cmpL (akS a l n L) (n * l.toNat) (posP l r t)).any fun k => facK F n l fc.toNat k != facK F n l fc.toNat ((cmpL (akS a l n L) (n * l.toNat) (posP l r t)).getD 0 0)
set_option maxHeartbeats 4000000 in
set_option maxRecDepth 100000 in
theorem Common_any (x : Value) (a f l : Int) (n : Nat) (T : Nat → Nat) (m : Nat → Nat → Nat) (L : Nat → Nat → Nat → Int) (K : Nat → Nat) (F : Nat → Nat → Nat) (r t fc : Int) (w : World) (h : SysR w x a f l n T m L K F) (hn : n ≤ 65536) :
    Calls Try.prog 16 #[x, .agg #[.int .i64 r, .int .i64 t], .int .i64 fc] w fun e w' => e = .returned (.tuple #[.bool (comV a f l n T m L K F r t fc), .int .i64 (comE a f l n T m K F r t fc : Nat)]) ∧ Below w.heap.size w w' := by
  have HEN := Lib.hid (fun W (h : SysR W x a f l n T m L K F) => enter_any x a f l n T m L K F r t W h hn)
  obtain ⟨A, c, rfl, hR⟩ := h
  obtain ⟨V, hV⟩ : ∃ V, V = (w.alloc (.cells #[.int .i64 a, .int .i64 f, .int .i64 l, .slice A n c] 24)).alloc (.cells #[.int .i64 r, .int .i64 t] 26) := ⟨_, rfl⟩
  obtain ⟨k0, k1, hB0⟩ := two_boxes4 w _ _ _ _ V hV
  obtain ⟨W, hW⟩ : ∃ W, W = V.alloc (.cells #[.int .i64 fc] 3) := ⟨_, rfl⟩
  have hB1 := below_alloc V (.cells #[.int .i64 fc] 3)
  have k2 := Blk.new V #[.int .i64 fc] 3
  rw [← hW] at hB1 k2
  have k0 := k0.below hB1
  have k1 := k1.below hB1
  have hB := below_trans hB0 hB1
  have k2 : Blk W (w.heap.size + 1 + 1) 3 #[.int .i64 fc] := by rw [show w.heap.size + 1 + 1 = V.heap.size from by rw [hV]; simp]; exact k2
  have HB := Lib.hid hB
  have HK0 := Lib.hid k0
  have HK2 := Lib.hid k2
  have hEN := HEN.out W ⟨A, c, rfl, hR.below hB⟩
  have d0 := k0.cell (k := 0) rfl
  have d1 := k0.cell (k := 1) rfl
  have d2 := k0.cell (k := 2) rfl
  have d3 := k0.cell (k := 3) rfl
  have p0 := k1.cell (k := 0) rfl
  have p1 := k1.cell (k := 1) rfl
  unfold EnPost at hEN
  have HCE := Lib.hid (show comE a f l n T m K F r t fc = if entE a f l n T m K F r t = 0 then (if 0 ≤ fc ∧ fc < f then 0 else 2) else entE a f l n T m K F r t from rfl)
  have HCV := Lib.hid (show comV a f l n T m L K F r t fc = (decide (comE a f l n T m K F r t fc = 0) && !(cmpL (akS a l n L) (n * l.toNat) (posP l r t)).any fun k => facK F n l fc.toNat k != facK F n l fc.toNat ((cmpL (akS a l n L) (n * l.toNat) (posP l r t)).getD 0 0)) from rfl)
  obtain ⟨E, eE⟩ : ∃ E, E = entE a f l n T m K F r t := ⟨_, rfl⟩
  rw [← eE] at hEN HCE
  have HE1 := Lib.hid hEN
  have HW := Lib.hid hW
  have HV := Lib.hid hV
  clear hR hW hV k0 k1 k2 hB hB0 hB1 hEN HEN eE
  go_enter Try.func16, Try.ntmps16
  go_upto_region 1 with (fail)
  rw [← HV.out]
  rw [← HW.out]
  clear HV HW
  go_upto_region 2 with (go_at_call 41; refine HE1.out.mono ?_; rintro e w1 ⟨p, i, rfl, hb1, hok⟩; have HB := Lib.hid (below_trans HB.out hb1); have HK0 := Lib.hid (HK0.out.below hb1); have HK2 := Lib.hid (HK2.out.below hb1); have HOK := Lib.hid hok; clear hb1 hok)
  clear d0 d1 d2 d3 p0 p1 HE1 k0 k1
  have hba := below_alloc w1 (.cells #[.pointer p] 72)
  have hk3 := Blk.new w1 #[.pointer p] 72
  have HB := Lib.hid (below_trans HB.out hba)
  have HK0 := Lib.hid (HK0.out.below hba)
  have HK2 := Lib.hid (HK2.out.below hba)
  have HBA := Lib.hid hba
  obtain ⟨V1, eV1⟩ : ∃ V1, V1 = w1.alloc (.cells #[.pointer p] 72) := ⟨_, rfl⟩
  rw [← eV1] at hk3 HB HK0 HK2 HBA ⊢
  obtain ⟨b1, eb1⟩ : ∃ b, b = w1.heap.size := ⟨_, rfl⟩
  rw [← eb1] at hk3 ⊢
  have HK3 := Lib.hid hk3
  clear hba hk3 eV1 eb1
  by_cases hE : E = 0
  case neg =>
    have t1 : ((E : Int) != 0) = true := by rw [bne_iff_ne]; omega
    have hC : comE a f l n T m K F r t fc = E := by rw [HCE.out, if_neg hE]
    have HC := Lib.hid hC
    have HV2 : Hid (comV a f l n T m L K F r t fc = false) := Lib.hid (by rw [HCV.out, hC, decide_eq_false hE]; rfl)
    clear hE HOK hC HCE HCV
    go_wp2_with fail
    go_ret2
    exact ⟨by rw [HV2.out, HC.out]; rfl, HB.out⟩
  subst hE
  obtain ⟨rfl, hin, hck, bx, rfl, hsp⟩ := HOK.out rfl
  have hf8 : f ≤ 8 := by have := (chkE_ok hck).2.1; omega
  have hpos := inP_pos hin
  obtain ⟨i, ei⟩ : ∃ i, i = posP l r t := ⟨_, rfl⟩
  have ei2 : r.toNat * l.toNat + t.toNat = i := by rw [ei]; rfl
  rw [ei2]
  rw [← ei] at hpos HCV
  rw [if_pos rfl] at HCE
  have HSP := Lib.hid (hsp.below HBA.out)
  have hNl : n * l.toNat ≤ 1024 := by
    obtain ⟨-, -, hl, hn64, -, -, -, -⟩ := chkE_ok hck
    exact Nat.le_trans (Nat.mul_le_mul hn64 (show l.toNat ≤ 16 by omega)) (by decide)
  have g1 := HK0.out.cell (k := 1) rfl
  have g5 := HK2.out.cell (k := 0) rfl
  clear HOK hin hck hsp ei ei2
  by_cases hf0 : fc < 0
  · have e0 : decide (fc < 0) = true := decide_eq_true hf0
    have hC : comE a f l n T m K F r t fc = 2 := by rw [HCE.out, if_neg (by omega)]
    have HC := Lib.hid hC
    have HV2 : Hid (comV a f l n T m L K F r t fc = false) := Lib.hid (by rw [HCV.out, hC]; rfl)
    clear hf0 hC HCE HCV
    go_wp2_with fail
    first
      | (go_ret2; exact ⟨by rw [HV2.out, HC.out]; rfl, HB.out⟩)
      | (go_quiet (fail); go_wp2_with fail; go_ret2; exact ⟨by rw [HV2.out, HC.out]; rfl, below_drewN HB.out _⟩)
  have e0 : decide (fc < 0) = false := decide_eq_false hf0
  by_cases hf1 : f ≤ fc
  · have e1 : decide (f ≤ fc) = true := decide_eq_true hf1
    have hC : comE a f l n T m K F r t fc = 2 := by rw [HCE.out, if_neg (by omega)]
    have HC := Lib.hid hC
    have HV2 : Hid (comV a f l n T m L K F r t fc = false) := Lib.hid (by rw [HCV.out, hC]; rfl)
    clear hf0 hf1 hC HCE HCV
    go_wp2_with fail
    first
      | (go_ret2; exact ⟨by rw [HV2.out, HC.out]; rfl, HB.out⟩)
      | (go_quiet (fail); go_wp2_with fail; go_ret2; exact ⟨by rw [HV2.out, HC.out]; rfl, below_drewN HB.out _⟩)
  have hC : comE a f l n T m K F r t fc = 0 := by rw [HCE.out, if_pos (by omega)]
  rw [hC] at HCV
  obtain ⟨fk, rfl⟩ : ∃ fk : Nat, fc = fk := ⟨fc.toNat, by omega⟩
  have e1 : decide (f ≤ (fk : Int)) = false := decide_eq_false hf1
  have HC := Lib.hid hC
  rw [Int.toNat_natCast] at HCV
  have hcl := cmpL_len (akS a l n L) (n * l.toNat) i
  have hmem : ∀ k, k ∈ cmpL (akS a l n L) (n * l.toNat) i → k < n * l.toNat := fun k hk => (mem_cmpL.1 hk).1
  have hco := HSP.out.component hpos
  obtain ⟨ks, eks⟩ : ∃ ks, ks = cmpL (akS a l n L) (n * l.toNat) i := ⟨_, rfl⟩
  rw [← eks] at hcl hmem hco HCV
  have HCO := Lib.hid hco
  have hfk8 : fk ≤ 8 := by omega
  have b0 := HK3.out.cell (k := 0) rfl
  clear hf0 hf1 hC HCE eks hco
  obtain ⟨len, elen⟩ : ∃ q, q = ks.length := ⟨_, rfl⟩
  have ELN := Lib.hid elen
  clear elen
  go_upto_region 7 with (go_at_call 42; refine HCO.out.mono ?_; rintro e w2 ⟨v, rfl, hown, hb1⟩; obtain ⟨Av, cv, rfl⟩ := hown.shape; rw [← ELN.out] at hown ⊢; have HOW := Lib.hid hown; have HB2 := Lib.hid hb1; clear hb1 hown)
  clear b0 g1 g5 HCO
  have hba := below_alloc w2 (.cells #[.slice Av len cv] 75)
  have hk4 := Blk.new w2 #[.slice Av len cv] 75
  have hbV := below_trans HB2.out hba
  have HB := Lib.hid (below_trans HB.out hbV)
  have HK2 := Lib.hid (HK2.out.below hbV)
  have HK3 := Lib.hid (HK3.out.below hbV)
  have HSP := Lib.hid (HSP.out.below hbV)
  have HOW := Lib.hid (HOW.out.below hba)
  obtain ⟨V2, eV2⟩ : ∃ V2, V2 = w2.alloc (.cells #[.slice Av len cv] 75) := ⟨_, rfl⟩
  rw [← eV2] at hk4 HB HK2 HK3 HSP HOW ⊢
  obtain ⟨b3, eb3⟩ : ∃ b, b = w2.heap.size := ⟨_, rfl⟩
  rw [← eb3] at hk4 ⊢
  have b0 := hk4.cell (k := 0) rfl
  have hkc : ∀ X, Below V2.heap.size V2 X → ∀ k, k ∈ ks → Calls Try.prog 48 #[.int .i64 k, .pointer (some ⟨b1, 0, none⟩), .pointer (some ⟨w.heap.size + 1 + 1, 0, none⟩), .pointer (some ⟨b3, 0, none⟩)] X fun e w' => e = .returned (.bool (facK F n l fk k != facK F n l fk (ks.getD 0 0))) ∧ Below X.heap.size X w' := fun X hX k hk => by
    have hpos : 0 < ks.length := List.length_pos_of_mem hk
    obtain ⟨k0, hk0⟩ : ∃ k0, ks[0]? = some k0 := ⟨_, List.getElem?_eq_getElem hpos⟩
    have e0 : ks.getD 0 0 = k0 := by rw [List.getD_eq_getElem?_getD, hk0]; rfl
    obtain ⟨bv, cv', ev, c4⟩ := HOW.out.at hk0
    injection ev with ev1 ev2 ev3
    subst ev1
    rw [e0]
    exact cm1_any _ a f l n T m L K F X bx b1 (w.heap.size + 1 + 1) b3 bv fk k k0 len cv (HSP.out.below hX) (hmem k hk) (hmem k0 (List.mem_of_getElem? hk0)) hfk8 ((HK3.out.below hX).cell (k := 0) rfl) ((HK2.out.below hX).cell (k := 0) rfl) ((hk4.below hX).cell (k := 0) rfl) (cell_below hX c4) (by rw [ELN.out]; exact hpos)
  have HCT := Lib.hid (cmContains_any V2 _ b1 (w.heap.size + 1 + 1) b3 _ ks (fun k => facK F n l fk k != facK F n l fk (ks.getD 0 0)) HOW.out (by omega) hkc)
  obtain ⟨R, eR⟩ : ∃ R, R = ks.any fun k => facK F n l fk k != facK F n l fk (ks.getD 0 0) := ⟨_, rfl⟩
  rw [← eR] at HCT HCV
  have HV2 : Hid (comV a f l n T m L K F r t fk = !R) := Lib.hid (by rw [HCV.out]; rfl)
  clear hk4 hba hbV eV2 eb3 hkc eR HCV HK2 HK3 HB2
  go_wp2_with (go_at_call 47; refine HCT.out.mono ?_; rintro e w5 ⟨rfl, hb1⟩; have HB := Lib.hid (below_trans HB.out hb1); clear hb1)
  go_ret2
  exact ⟨by rw [HV2.out, HC.out]; rfl, HB.out⟩
end Go.Proofs.Ytahaimecchdfeaa
