/-
  Plain facts of layer 40: what satisfies the postulates; a table that satisfies all six is the table of its order.
-/
import Derived.Test.YtiifmdgcnpdibaaDoorBase
import Derived.Test.YtiifmdgcnpdibaaDoorLeast
import Derived.Test.YtiifmdgcnpdibaaDoorRkP
import Derived.Test.YtiifmdgcnpdibaaDoorRkQ
import Derived.Test.YtiifmdgcnpdibaaDoorPoP
import Derived.Test.YtiifmdgcnpdibaaDoorCtP
namespace Go.Proofs.YtiifmdgcnpdibaaDoor
open Go.RowKit

theorem bad_iff {i S b : Nat} {T : Nat → Nat} : ctBad i S b T = false ↔ ∀ x, x < S → ∀ y, y < ctLast S i → ctFit i S b T x y = true := by
  unfold ctBad failB
  rw [Bool.not_eq_false', allB_iff]
  exact ⟨fun h x hx => allB_iff.1 (h x hx), fun h x hx => allB_iff.2 (h x hx)⟩
/-- a within b, bit by bit. -/
def Sub (a b : Nat) : Prop := ∀ i, a.testBit i = true → b.testBit i = true
theorem sub_iff {a b : Nat} (ha : a < 18446744073709551616) (hb : b < 18446744073709551616) : (andNot a b == 0) = true ↔ Sub a b := by rw [beq_iff_eq]; exact andNot_eq_zero ha hb
theorem nsub_iff {a b : Nat} (ha : a < 18446744073709551616) (hb : b < 18446744073709551616) : (andNot a b != 0) = true ↔ ¬ Sub a b := by
  rw [bne_iff_ne]; exact not_congr (andNot_eq_zero ha hb)
theorem not_sub {a b : Nat} (h : ¬ Sub a b) : ∃ i, a.testBit i = true ∧ b.testBit i = false := by
  apply Classical.byContradiction
  intro hn
  apply h
  intro i hi
  cases hb : b.testBit i
  · exact absurd ⟨i, hi, hb⟩ hn
  · rfl
theorem bit_eq {a b : Nat} (h : ∀ i, a.testBit i = true ↔ b.testBit i = true) : a = b := by
  apply Nat.eq_of_testBit_eq
  intro i
  rw [Bool.eq_iff_iff]
  exact h i
def cntT (N a : Nat) : Nat := cntB N a.testBit
theorem cntT_lt {N a c : Nat} (h : ∀ v, a.testBit v = true → c.testBit v = true) {i : Nat} (hi : i < N) (h1 : a.testBit i = false) (h2 : c.testBit i = true) : cntT N a < cntT N c := cntB_lt (fun u _ hu => h u hu) hi h1 h2
theorem cntT_full {N a : Nat} (h : N ≤ cntT N a) (i : Nat) (hi : i < N) : a.testBit i = true := by
  cases hb : a.testBit i
  · have := cntB_lt (n := N) (p := a.testBit) (q := fun _ => true) (fun _ _ _ => rfl) hi hb rfl
    rw [cntB_all] at this
    unfold cntT at h
    omega
  · rfl
theorem leastOf (r : Nat → Nat) (p : Nat → Prop) (m : Nat) : ∀ v, p v → r v = m → ∃ v, p v ∧ ∀ w, p w → r v ≤ r w := by
  induction m using Nat.strongRecOn with
  | _ m ih =>
    intro v hv hm
    by_cases h : ∃ w, p w ∧ r w < r v
    · obtain ⟨w, hw, hlt⟩ := h
      exact ih (r w) (by omega) w hw rfl
    · refine ⟨v, hv, fun w hw => ?_⟩
      rcases Nat.lt_or_ge (r w) (r v) with h' | h'
      · exact absurd ⟨w, hw, h'⟩ h
      · exact h'
section
variable {N S : Nat}
theorem top_bit (hS : S = 2 ^ N) (i : Nat) : (S - 1).testBit i = decide (i < N) := by rw [hS]; exact Nat.testBit_two_pow_sub_one _ _
theorem bit_top {x i : Nat} (hS : S = 2 ^ N) (hx : x < S) (h : x.testBit i = true) : i < N := by
  apply Classical.byContradiction
  intro hi
  rw [Nat.testBit_lt_two_pow (Nat.lt_of_lt_of_le (hS ▸ hx) (Nat.pow_le_pow_right (by decide) (by omega)))] at h
  cases h
theorem cpl_bit (hS : S = 2 ^ N) (hN : N ≤ 8) {x i : Nat} (hx : x < S) : (cpl S x).testBit i = true ↔ i < N ∧ x.testBit i = false := by
  have h256 : S ≤ 256 := by rw [hS]; exact Nat.pow_le_pow_right (n := 2) (j := 8) (by decide) hN
  have h1 : 1 ≤ S := by rw [hS]; exact Nat.two_pow_pos N
  unfold cpl
  rw [testBit_andNot _ _ _ (by omega) (by omega), top_bit hS]
  simp
theorem cpl_cpl (hS : S = 2 ^ N) (hN : N ≤ 8) {x : Nat} (hx : x < S) : cpl S (cpl S x) = x := by
  have h1 : 1 ≤ S := by rw [hS]; exact Nat.two_pow_pos N
  apply bit_eq
  intro i
  rw [cpl_bit hS hN (cpl_lt S x h1)]
  constructor
  · rintro ⟨h1, h2⟩
    cases hb : x.testBit i
    · rw [(cpl_bit hS hN hx).2 ⟨h1, hb⟩] at h2; cases h2
    · rfl
  · intro h
    refine ⟨bit_top hS hx h, ?_⟩
    cases hb : (cpl S x).testBit i
    · rfl
    · have := ((cpl_bit hS hN hx).1 hb).2
      rw [h] at this; cases this
theorem idl_iff (_hS : S = 2 ^ N) {b x : Nat} (hb : b < 18446744073709551616) (hx : x < 18446744073709551616) : idl S b x = true ↔ ¬ Sub b x ∨ x = S - 1 := by
  unfold idl
  rw [Bool.or_eq_true, nsub_iff hb hx, beq_iff_eq]
theorem not_idl (hS : S = 2 ^ N) {b x : Nat} (hb : b < 18446744073709551616) (hx : x < 18446744073709551616) (h : idl S b x = false) : Sub b x ∧ x ≠ S - 1 := by
  have := mt (idl_iff hS hb hx).2 (by rw [h]; exact fun h => by cases h)
  constructor
  · apply Classical.byContradiction; exact fun h => this (.inl h)
  · exact fun h => this (.inr h)

/-- The shape of the contractions here: nothing is done, or something outside of the input is added. -/
structure Shape (S b : Nat) (T : Nat → Nat) : Prop where
  idle : ∀ x, x < S → idl S b x = true → T x = b
  add : ∀ x, x < S → idl S b x = false → ∃ g, T x = b ||| g ∧ (∀ i, g.testBit i = true → x.testBit i = false) ∧ g ≠ 0
/-- .. they satisfy the first four postulates. -/
theorem shape_four (hS : S = 2 ^ N) (hN : N ≤ 8) {b : Nat} (hb : b < S) {T : Nat → Nat} (hT : ∀ x, x < S → T x < S) (h : Shape S b T) : ∀ i, i < 4 → ctBad i S b T = false := by
  have h256 : S ≤ 256 := by rw [hS]; exact Nat.pow_le_pow_right (n := 2) (j := 8) (by decide) hN
  have hin : ∀ x, x < S → ctFit 0 S b T x 0 = true := fun x hx => by
    show (andNot b (T x) == 0) = true
    rw [sub_iff (by omega) (by have := hT x hx; omega)]
    cases hi : idl S b x
    · obtain ⟨g, e, _, _⟩ := h.add x hx hi
      intro i hbi
      rw [e, Nat.testBit_or, hbi]; rfl
    · rw [h.idle x hx hi]; exact fun _ h => h
  have h1 : ∀ x, x < S → ctFit 1 S b T x 0 = true := fun x hx => by
    show (andNot b x == 0 || T x == b) = true
    cases hs : (andNot b x == 0)
    · have hi : idl S b x = true := by unfold idl; simp only [bne, hs]; rfl
      rw [h.idle x hx hi]; simp
    · rfl
  have h2 : ∀ x, x < S → ctFit 2 S b T x 0 = true := fun x hx => by
    show (x == S - 1 || andNot (T x) x != 0) = true
    by_cases hx1 : x = S - 1
    · rw [hx1]; simp
    · rw [Bool.or_eq_true]
      refine .inr ((nsub_iff (by have := hT x hx; omega) (by omega)).2 fun hsub => ?_)
      cases hi : idl S b x
      · obtain ⟨g, e, hg, h0⟩ := h.add x hx hi
        obtain ⟨i, hi⟩ : ∃ i, g.testBit i = true := by
          apply Classical.byContradiction
          intro hn
          apply h0
          apply Nat.eq_of_testBit_eq
          intro i
          rw [Nat.zero_testBit]
          cases hgi : g.testBit i
          · rfl
          · exact absurd ⟨i, hgi⟩ hn
        have := hsub i (by rw [e, Nat.testBit_or, hi, Bool.or_true])
        rw [hg i hi] at this; cases this
      · have hn := (idl_iff hS (by omega) (by omega)).1 hi
        rw [h.idle x hx hi] at hsub
        rcases hn with hn | hn
        · exact hn hsub
        · exact hx1 hn
  have h3 : ∀ x, x < S → ctFit 3 S b T x 0 = true := fun x hx => by
    show (andNot (T x &&& x) b == 0) = true
    rw [sub_iff (Nat.lt_of_le_of_lt Nat.and_le_right (by omega)) (by omega)]
    intro i hi
    rw [Nat.testBit_and, Bool.and_eq_true] at hi
    cases hid : idl S b x
    · obtain ⟨g, e, hg, _⟩ := h.add x hx hid
      rw [e, Nat.testBit_or, Bool.or_eq_true] at hi
      rcases hi.1 with h' | h'
      · exact h'
      · rw [hg i h'] at hi; cases hi.2
    · rw [h.idle x hx hid] at hi; exact hi.1
  intro i hi
  rw [bad_iff]
  intro x hx y hy
  have hy0 : y = 0 := by unfold ctLast at hy; rw [if_pos hi] at hy; omega
  subst hy0
  have : i = 0 ∨ i = 1 ∨ i = 2 ∨ i = 3 := by omega
  rcases this with rfl | rfl | rfl | rfl
  · exact hin x hx
  · exact h1 x hx
  · exact h2 x hx
  · exact h3 x hx
theorem cpl_ne (hS : S = 2 ^ N) (hN : N ≤ 8) {x : Nat} (hx : x < S) (h : x ≠ S - 1) : cpl S x ≠ 0 := by
  intro h0
  apply h
  apply bit_eq
  intro i
  rw [top_bit hS, decide_eq_true_iff]
  constructor
  · exact bit_top hS hx
  · intro hi
    cases hb : x.testBit i
    · have := (cpl_bit hS hN hx).2 ⟨hi, hb⟩
      rw [h0, Nat.zero_testBit] at this; cases this
    · rfl
theorem ful_shape (hS : S = 2 ^ N) (hN : N ≤ 8) {b : Nat} (hb : b < S) : Shape S b (fulV S b) := by
  have h256 : S ≤ 256 := by rw [hS]; exact Nat.pow_le_pow_right (n := 2) (j := 8) (by decide) hN
  refine ⟨fun x _ hi => by unfold fulV; rw [if_pos hi], fun x hx hi => ?_⟩
  obtain ⟨_, hn⟩ := not_idl hS (by omega) (by omega) hi
  exact ⟨cpl S x, by unfold fulV; rw [if_neg (by rw [hi]; exact fun h => by cases h)], fun i h => ((cpl_bit hS hN hx).1 h).2, cpl_ne hS hN hx hn⟩
theorem brk_shape (hS : S = 2 ^ N) (hN : N ≤ 8) {b : Nat} {f : Nat → Int} (hb : b < S) : Shape S b (brk N S f b) := by
  have h256 : S ≤ 256 := by rw [hS]; exact Nat.pow_le_pow_right (n := 2) (j := 8) (by decide) hN
  have h1 : 1 ≤ S := by rw [hS]; exact Nat.two_pow_pos N
  refine ⟨fun x _ hi => by unfold brk; rw [if_pos hi], fun x hx hi => ?_⟩
  obtain ⟨_, hn⟩ := not_idl hS (by omega) (by omega) hi
  exact ⟨lst N f (cpl S x), by unfold brk; rw [if_neg (by rw [hi]; exact fun h => by cases h)], fun i h => ((cpl_bit hS hN hx).1 (lst_sub h)).2, lst_ne (hS ▸ cpl_lt S x h1) (cpl_ne hS hN hx hn)⟩
/-- The elements of the contraction by ranks. -/
theorem brk_bit (hS : S = 2 ^ N) (hN : N ≤ 8) {b x i : Nat} {f : Nat → Int} (hb : b < S) (hx : x < S) :
    (brk N S f b x).testBit i = true ↔ b.testBit i = true ∨ (Sub b x ∧ i < N ∧ x.testBit i = false ∧ ∀ w, w < N → x.testBit w = false → f i ≤ f w) := by
  have h256 : S ≤ 256 := by rw [hS]; exact Nat.pow_le_pow_right (n := 2) (j := 8) (by decide) hN
  cases hi : idl S b x
  · obtain ⟨hs, hn⟩ := not_idl hS (by omega) (by omega) hi
    have e : brk N S f b x = b ||| lst N f (cpl S x) := by unfold brk; rw [if_neg (by rw [hi]; exact fun h => by cases h)]
    rw [e, Nat.testBit_or, Bool.or_eq_true, lst_bit]
    refine or_congr Iff.rfl ?_
    rw [cpl_bit hS hN hx]
    exact ⟨fun ⟨a, b', c⟩ => ⟨hs, a, b'.2, fun w hw hxw => c w hw ((cpl_bit hS hN hx).2 ⟨hw, hxw⟩)⟩, fun ⟨_, a, b', c⟩ => ⟨a, ⟨a, b'⟩, fun w hw hxw => c w hw ((cpl_bit hS hN hx).1 hxw).2⟩⟩
  · have e : brk N S f b x = b := by unfold brk; rw [if_pos hi]
    rw [e]
    refine ⟨.inl, fun h => h.elim id fun ⟨hs, hiN, hxi, _⟩ => ?_⟩
    rcases (idl_iff hS (by omega) (by omega)).1 hi with h | h
    · exact absurd hs h
    · rw [h, top_bit hS, decide_eq_false_iff_not] at hxi
      exact absurd hiN hxi
/-- Contractions by ranks satisfy all six postulates, if the belief is that of the ranks. -/
theorem brk_six (hS : S = 2 ^ N) (hN : N ≤ 8) {b : Nat} {f : Nat → Int} {T : Nat → Nat} (hb : b < S) (hbel : b = lst N f (S - 1)) (hT : ∀ x, x < S → T x = brk N S f b x) : ∀ i, i < 6 → ctBad i S b T = false := by
  have h256 : S ≤ 256 := by rw [hS]; exact Nat.pow_le_pow_right (n := 2) (j := 8) (by decide) hN
  have hlt : ∀ x, x < S → T x < S := fun x hx => by rw [hT x hx]; exact brk_lt hS hb
  have hsh : Shape S b T := by
    have := brk_shape (f := f) hS hN hb
    exact ⟨fun x hx h => by rw [hT x hx]; exact this.idle x hx h, fun x hx h => by rw [hT x hx]; exact this.add x hx h⟩
  have hbit : ∀ x i, x < S → ((T x).testBit i = true ↔ b.testBit i = true ∨ (Sub b x ∧ i < N ∧ x.testBit i = false ∧ ∀ w, w < N → x.testBit w = false → f i ≤ f w)) := fun x i hx => by rw [hT x hx]; exact brk_bit hS hN hb hx
  have hbb : ∀ i, b.testBit i = true ↔ i < N ∧ ∀ w, w < N → f i ≤ f w := fun i => by
    rw [hbel, lst_bit]
    have ht : ∀ w, w < N → (S - 1).testBit w = true := fun w hw => by rw [top_bit hS]; exact decide_eq_true hw
    exact ⟨fun ⟨a, _, c⟩ => ⟨a, fun w hw => c w hw (ht w hw)⟩, fun ⟨a, c⟩ => ⟨a, ht i a, fun w hw _ => c w hw⟩⟩
  intro i hi
  by_cases h4 : i < 4
  · exact shape_four hS hN hb hlt hsh i h4
  · rw [bad_iff]
    intro x hx y hy
    have hy : y < S := by unfold ctLast at hy; rw [if_neg h4] at hy; exact hy
    have hxy : x &&& y < S := Nat.lt_of_le_of_lt Nat.and_le_left hx
    have hTx := hlt x hx
    have hTy := hlt y hy
    have hTxy := hlt _ hxy
    have h5 : i = 4 ∨ i = 5 := by omega
    rcases h5 with rfl | rfl
    · show (andNot (T (x &&& y)) (T x ||| T y) == 0) = true
      rw [sub_iff (by omega) (or_lt64 (by omega) (by omega))]
      intro v hv
      rw [Nat.testBit_or, Bool.or_eq_true]
      rcases (hbit _ v hxy).1 hv with hv | ⟨hs, hvN, hvx, hmin⟩
      · exact .inl ((hbit x v hx).2 (.inl hv))
      · have hbx : Sub b x := fun j hj => by have := hs j hj; rw [Nat.testBit_and, Bool.and_eq_true] at this; exact this.1
        have hby : Sub b y := fun j hj => by have := hs j hj; rw [Nat.testBit_and, Bool.and_eq_true] at this; exact this.2
        rw [Nat.testBit_and, Bool.and_eq_false_iff] at hvx
        rcases hvx with h | h
        · exact .inl ((hbit x v hx).2 (.inr ⟨hbx, hvN, h, fun w hw hxw => hmin w hw (by rw [Nat.testBit_and, hxw]; rfl)⟩))
        · exact .inr ((hbit y v hy).2 (.inr ⟨hby, hvN, h, fun w hw hyw => hmin w hw (by rw [Nat.testBit_and, hyw, Bool.and_false])⟩))
    · show (andNot (T (x &&& y)) x == 0 || andNot (T x) (T (x &&& y)) == 0) = true
      rw [Bool.or_eq_true, sub_iff (by omega) (by omega), sub_iff (by omega) (by omega)]
      by_cases hsx : Sub (T (x &&& y)) x
      · exact .inl hsx
      · right
        obtain ⟨v, hv, hvx⟩ := not_sub hsx
        intro u hu
        rcases (hbit x u hx).1 hu with hu | ⟨hs, huN, hux, hmin⟩
        · exact (hbit _ u hxy).2 (.inl hu)
        · rcases (hbit _ v hxy).1 hv with hv | ⟨hs2, hvN, _, hmin2⟩
          · rw [hs v hv] at hvx; cases hvx
          · refine (hbit _ u hxy).2 (.inr ⟨hs2, huN, by rw [Nat.testBit_and, hux]; rfl, fun w hw hwxy => ?_⟩)
            have h1 := hmin v hvN hvx
            have h2 := hmin2 w hw hwxy
            omega

/-! ### the order of a table -/
variable {b : Nat} {T : Nat → Nat}
theorem ordS_lt (hS : S = 2 ^ N) (hb : b < S) (hT : ∀ x, x < S → T x < S) (j : Nat) : ordS b T j < S := by
  induction j with
  | zero => exact hb
  | succ j ih =>
    unfold ordS
    have h1 : andNot (T (ordS b T j)) (ordS b T j) < S := Nat.lt_of_le_of_lt Nat.and_le_left (hT _ ih)
    rw [hS] at ih h1 ⊢
    exact Nat.or_lt_two_pow ih h1
theorem nxt_bit (hS : S = 2 ^ N) (hN : N ≤ 8) (hb : b < S) (hT : ∀ x, x < S → T x < S) (j i : Nat) : (andNot (T (ordS b T j)) (ordS b T j)).testBit i = true ↔ (T (ordS b T j)).testBit i = true ∧ (ordS b T j).testBit i = false := by
  have h256 : S ≤ 256 := by rw [hS]; exact Nat.pow_le_pow_right (n := 2) (j := 8) (by decide) hN
  have h1 := ordS_lt hS hb hT j
  have h2 := hT _ h1
  rw [testBit_andNot _ _ _ (by omega) (by omega)]
  simp
theorem ordS_succ (hS : S = 2 ^ N) (hN : N ≤ 8) (hb : b < S) (hT : ∀ x, x < S → T x < S) (j i : Nat) : (ordS b T (j + 1)).testBit i = true ↔ (ordS b T j).testBit i = true ∨ (T (ordS b T j)).testBit i = true := by
  show (ordS b T j ||| andNot (T (ordS b T j)) (ordS b T j)).testBit i = true ↔ _
  rw [Nat.testBit_or, Bool.or_eq_true, nxt_bit hS hN hb hT]
  cases h : (ordS b T j).testBit i <;> simp
/-- The rank says when an element comes in. -/
theorem ordR_iff (hS : S = 2 ^ N) (hN : N ≤ 8) (hb : b < S) (hT : ∀ x, x < S → T x < S) (m i : Nat) (hi : (ordS b T m).testBit i = true) (j : Nat) : ordR b T m i ≤ j ↔ (ordS b T j).testBit i = true := by
  induction m generalizing j with
  | zero =>
    have mono : ∀ j, (ordS b T j).testBit i = true := fun j => by
      induction j with
      | zero => exact hi
      | succ j ih => exact (ordS_succ hS hN hb hT j i).2 (.inl ih)
    exact ⟨fun _ => mono j, fun _ => Nat.zero_le _⟩
  | succ m ih =>
    have up : ∀ a d, (ordS b T a).testBit i = true → (ordS b T (a + d)).testBit i = true := fun a d h => by
      induction d with
      | zero => exact h
      | succ d ih => exact (ordS_succ hS hN hb hT (a + d) i).2 (.inl ih)
    unfold ordR
    by_cases hn : (andNot (T (ordS b T m)) (ordS b T m)).testBit i = true
    · rw [if_pos hn]
      have hnot := ((nxt_bit hS hN hb hT m i).1 hn).2
      constructor
      · intro hj
        have := up (m + 1) (j - (m + 1)) hi
        rwa [show m + 1 + (j - (m + 1)) = j from by omega] at this
      · intro hj
        rcases Nat.lt_or_ge j (m + 1) with h | h
        · have := up j (m - j) hj
          rw [show j + (m - j) = m from by omega, hnot] at this
          cases this
        · exact h
    · rw [if_neg hn]
      have hm : (ordS b T m).testBit i = true := by
        rcases (ordS_succ hS hN hb hT m i).1 hi with h | h
        · exact h
        · cases h2 : (ordS b T m).testBit i
          · exact absurd ((nxt_bit hS hN hb hT m i).2 ⟨h, h2⟩) hn
          · rfl
      exact ih hm j
theorem ord_bel (hS : S = 2 ^ N) (hN : N ≤ 8) (hb : b < S) (hb0 : b ≠ 0) (hT : ∀ x, x < S → T x < S) (hfull : ordS b T N = S - 1) : lst N (ordI b T N) (S - 1) = b := by
  have hin : ∀ i, i < N → (ordS b T N).testBit i = true := fun i hi => by rw [hfull, top_bit hS]; exact decide_eq_true hi
  have h0 : ∀ i, i < N → (ordR b T N i ≤ 0 ↔ b.testBit i = true) := fun i hi => ordR_iff hS hN hb hT N i (hin i hi) 0
  obtain ⟨v, hv⟩ : ∃ i, b.testBit i = true := by
    apply Classical.byContradiction
    intro hn
    apply hb0
    apply Nat.eq_of_testBit_eq
    intro i
    rw [Nat.zero_testBit]
    cases hgi : b.testBit i
    · rfl
    · exact absurd ⟨i, hgi⟩ hn
  have hvN := bit_top hS hb hv
  have hv0 := (h0 v hvN).2 hv
  apply bit_eq
  intro i
  rw [lst_bit]
  constructor
  · rintro ⟨hi, _, hmin⟩
    have := hmin v hvN (by rw [top_bit hS]; exact decide_eq_true hvN)
    unfold ordI at this
    exact (h0 i hi).1 (by omega)
  · intro hi
    have hiN := bit_top hS hb hi
    refine ⟨hiN, by rw [top_bit hS]; exact decide_eq_true hiN, fun w _ _ => ?_⟩
    have := (h0 i hiN).2 hi
    unfold ordI
    omega
theorem ordOk_iff {N S b : Nat} {T : Nat → Nat} : ordOk N S b T = true ↔ ordS b T N = S - 1 ∧ ∀ x, x < S → brk N S (ordI b T N) (lst N (ordI b T N) (S - 1)) x = T x := by
  unfold ordOk
  rw [Bool.and_eq_true, beq_iff_eq, allB_iff]
  simp only [beq_iff_eq]
/-- Where Order has ranks, all six postulates hold. -/
theorem ord_six (hS : S = 2 ^ N) (hN : N ≤ 8) (hb : b < S) (hb0 : b ≠ 0) (hT : ∀ x, x < S → T x < S) (h : ordOk N S b T = true) : ∀ i, i < 6 → ctBad i S b T = false := by
  obtain ⟨h1, h2⟩ := ordOk_iff.1 h
  have hbel := ord_bel hS hN hb hb0 hT h1
  rw [hbel] at h2
  exact brk_six hS hN hb hbel.symm fun x hx => (h2 x hx).symm
/-- .. and the other way. -/
theorem six_ord (hS : S = 2 ^ N) (hN : N ≤ 8) (hb : b < S) (hb0 : b ≠ 0) (hT : ∀ x, x < S → T x < S) (h : ∀ i, i < 6 → ctBad i S b T = false) : ordOk N S b T = true := by
  have h256 : S ≤ 256 := by rw [hS]; exact Nat.pow_le_pow_right (n := 2) (j := 8) (by decide) hN
  have h1S : 1 ≤ S := by rw [hS]; exact Nat.two_pow_pos N
  have f0 : ∀ x, x < S → Sub b (T x) := fun x hx => (sub_iff (by omega) (by have := hT x hx; omega)).1 (bad_iff.1 (h 0 (by decide)) x hx 0 (by unfold ctLast; simp))
  have f1 : ∀ x, x < S → Sub b x ∨ T x = b := fun x hx => by
    have := bad_iff.1 (h 1 (by decide)) x hx 0 (by unfold ctLast; simp)
    rcases Bool.or_eq_true _ _ ▸ this with h | h
    · exact .inl ((sub_iff (by omega) (by omega)).1 h)
    · exact .inr (beq_iff_eq.1 h)
  have f2 : ∀ x, x < S → x = S - 1 ∨ ¬ Sub (T x) x := fun x hx => by
    have := bad_iff.1 (h 2 (by decide)) x hx 0 (by unfold ctLast; simp)
    rcases Bool.or_eq_true _ _ ▸ this with h | h
    · exact .inl (beq_iff_eq.1 h)
    · exact .inr ((nsub_iff (by have := hT x hx; omega) (by omega)).1 h)
  have f3 : ∀ x i, x < S → (T x).testBit i = true → x.testBit i = true → b.testBit i = true := fun x i hx h1 h2 => by
    have := bad_iff.1 (h 3 (by decide)) x hx 0 (by unfold ctLast; simp)
    exact (sub_iff (Nat.lt_of_le_of_lt Nat.and_le_right (by omega)) (by omega)).1 this i (by rw [Nat.testBit_and, h1, h2]; rfl)
  have f4 : ∀ x y, x < S → y < S → ∀ i, (T (x &&& y)).testBit i = true → (T x).testBit i = true ∨ (T y).testBit i = true := fun x y hx hy i hi => by
    have := bad_iff.1 (h 4 (by decide)) x hx y (by unfold ctLast; simp; exact hy)
    have := (sub_iff (by have := hT _ (Nat.lt_of_le_of_lt (Nat.and_le_left (n := x) (m := y)) hx); omega) (or_lt64 (by have := hT x hx; omega) (by have := hT y hy; omega))).1 this i hi
    rwa [Nat.testBit_or, Bool.or_eq_true] at this
  have f5 : ∀ x y, x < S → y < S → Sub (T (x &&& y)) x ∨ Sub (T x) (T (x &&& y)) := fun x y hx hy => by
    have := bad_iff.1 (h 5 (by decide)) x hx y (by unfold ctLast; simp; exact hy)
    have hxy := hT _ (Nat.lt_of_le_of_lt (Nat.and_le_left (n := x) (m := y)) hx)
    rcases Bool.or_eq_true _ _ ▸ this with h | h
    · exact .inl ((sub_iff (by omega) (by omega)).1 h)
    · exact .inr ((sub_iff (by have := hT x hx; omega) (by omega)).1 h)
  have hsl := ordS_lt hS hb hT
  have hbs : ∀ j, Sub b (ordS b T j) := fun j => by
    induction j with
    | zero => exact fun _ h => h
    | succ j ih => exact fun i hi => (ordS_succ hS hN hb hT j i).2 (.inl (ih i hi))
  -- it grows until all are in
  have hgrow : ∀ j, ordS b T j = S - 1 ∨ ∃ i, i < N ∧ (ordS b T (j + 1)).testBit i = true ∧ (ordS b T j).testBit i = false := fun j => by
    rcases f2 _ (hsl j) with h | h
    · exact .inl h
    · obtain ⟨i, h1, h2⟩ := not_sub h
      exact .inr ⟨i, bit_top hS (hT _ (hsl j)) h1, (ordS_succ hS hN hb hT j i).2 (.inr h1), h2⟩
  have hstay : ∀ j, ordS b T j = S - 1 → ordS b T (j + 1) = S - 1 := fun j hj => by
    apply bit_eq
    intro i
    rw [ordS_succ hS hN hb hT, hj]
    refine ⟨fun h => h.elim id fun h => ?_, .inl⟩
    rw [top_bit hS]
    exact decide_eq_true (bit_top hS (hT _ (by omega)) h)
  have hcount : ∀ j, ordS b T j = S - 1 ∨ j ≤ cntT N (ordS b T j) := fun j => by
    induction j with
    | zero => exact .inr (Nat.zero_le _)
    | succ j ih =>
      rcases ih with h | h
      · exact .inl (hstay j h)
      · rcases hgrow j with h1 | ⟨i, hi, h1, h2⟩
        · exact .inl (hstay j h1)
        · right
          have := cntT_lt (N := N) (a := ordS b T j) (c := ordS b T (j + 1)) (fun v hv => (ordS_succ hS hN hb hT j v).2 (.inl hv)) hi h2 h1
          omega
  have hfull : ordS b T N = S - 1 := by
    rcases hcount N with h | h
    · exact h
    · have h2 := cntT_full (N := N) (a := ordS b T N) h
      apply bit_eq
      intro i
      rw [top_bit hS, decide_eq_true_iff]
      exact ⟨bit_top hS (hsl N), h2 i⟩
  have hin : ∀ i, i < N → (ordS b T N).testBit i = true := fun i hi => by rw [hfull, top_bit hS]; exact decide_eq_true hi
  have hrk : ∀ i j, i < N → (ordR b T N i ≤ j ↔ (ordS b T j).testBit i = true) := fun i j hi => ordR_iff hS hN hb hT N i (hin i hi) j
  have hbel := ord_bel hS hN hb hb0 hT hfull
  refine ordOk_iff.2 ⟨hfull, fun x hx => ?_⟩
  rw [hbel]
  apply bit_eq
  intro i
  rw [brk_bit hS hN hb hx]
  by_cases hsub : Sub b x
  · by_cases htop : x = S - 1
    · constructor
      · rintro (h | ⟨_, hi, hxi, _⟩)
        · exact f0 x hx i h
        · rw [htop, top_bit hS, decide_eq_false_iff_not] at hxi; exact absurd hi hxi
      · intro hi
        exact .inl (f3 x i hx hi (by rw [htop, top_bit hS]; exact decide_eq_true (bit_top hS (hT x hx) hi)))
    · -- the least rank outside of x
      obtain ⟨v, hv, hmin⟩ : ∃ v, (v < N ∧ x.testBit v = false) ∧ ∀ w, w < N → x.testBit w = false → ordR b T N v ≤ ordR b T N w := by
        obtain ⟨v0, hv0⟩ : ∃ v, v < N ∧ x.testBit v = false := by
          apply Classical.byContradiction
          intro hn
          apply htop
          apply bit_eq
          intro i
          rw [top_bit hS, decide_eq_true_iff]
          refine ⟨bit_top hS hx, fun hi => ?_⟩
          cases hb' : x.testBit i
          · exact absurd ⟨i, hi, hb'⟩ hn
          · rfl
        have := leastOf (fun v => ordR b T N v) (fun v => v < N ∧ x.testBit v = false) _ v0 hv0 rfl
        obtain ⟨v, h1, h2⟩ := this
        exact ⟨v, h1, fun w hw hxw => h2 w ⟨hw, hxw⟩⟩
      have hvb : b.testBit v = false := by
        cases hbv : b.testBit v
        · rfl
        · have := hsub v hbv; rw [hv.2] at this; cases this
      obtain ⟨j, hj⟩ : ∃ j, ordR b T N v = j + 1 := by
        cases hr : ordR b T N v
        · have := (hrk v 0 hv.1).1 (by omega)
          change b.testBit v = true at this
          rw [hvb] at this; cases this
        · exact ⟨_, rfl⟩
      have hsx : Sub (ordS b T j) x := fun w hw => by
        have hwN := bit_top hS (hsl j) hw
        cases hxw : x.testBit w
        · have h1 := hmin w hwN hxw
          have h2 := (hrk w j hwN).2 hw
          omega
        · rfl
      have hmeet : x &&& ordS b T j = ordS b T j := by
        apply bit_eq
        intro w
        rw [Nat.testBit_and, Bool.and_eq_true]
        exact ⟨fun h => h.2, fun h => ⟨hsx w h, h⟩⟩
      have hvn : (T (ordS b T j)).testBit v = true := by
        have h1 := (hrk v (j + 1) hv.1).1 (by omega)
        rcases (ordS_succ hS hN hb hT j v).1 h1 with h | h
        · have := (hrk v j hv.1).2 h; omega
        · exact h
      have hTx : Sub (T x) (T (ordS b T j)) := by
        rcases f5 x (ordS b T j) hx (hsl j) with h | h
        · rw [hmeet] at h
          have := h v hvn; rw [hv.2] at this; cases this
        · rwa [hmeet] at h
      constructor
      · rintro (h | ⟨_, hi, hxi, hmi⟩)
        · exact f0 x hx i h
        · have h1 := hmin i hi hxi
          have h2 := hmi v hv.1 hv.2
          unfold ordI at h2
          have hri : ordR b T N i = j + 1 := by omega
          have hit : (T (ordS b T j)).testBit i = true := by
            have h1 := (hrk i (j + 1) hi).1 (by omega)
            rcases (ordS_succ hS hN hb hT j i).1 h1 with h | h
            · have := (hrk i j hi).2 h; omega
            · exact h
          have hz : ordS b T j ||| cpl S x < S := by
            have h1 := hsl j
            have h2 := cpl_lt S x h1S
            rw [hS] at h1 h2 ⊢
            exact Nat.or_lt_two_pow (by exact h1) (by exact h2)
          have hxz : x &&& (ordS b T j ||| cpl S x) = ordS b T j := by
            apply bit_eq
            intro w
            rw [Nat.testBit_and, Nat.testBit_or, Bool.and_eq_true, Bool.or_eq_true, cpl_bit hS hN hx]
            constructor
            · rintro ⟨h1, h2 | h2⟩
              · exact h2
              · rw [h1] at h2; cases h2.2
            · exact fun h => ⟨hsx w h, .inl h⟩
          rcases f4 x (ordS b T j ||| cpl S x) hx hz i (by rw [hxz]; exact hit) with h | h
          · exact h
          · have hbi := f3 _ i hz h (by rw [Nat.testBit_or, (cpl_bit hS hN hx).2 ⟨hi, hxi⟩, Bool.or_true])
            have := hsub i hbi
            rw [hxi] at this; cases this
      · intro hi
        have hiN := bit_top hS (hT x hx) hi
        cases hbi : b.testBit i
        · right
          have hxi : x.testBit i = false := by
            cases hxi : x.testBit i
            · rfl
            · have := f3 x i hx hi hxi
              rw [hbi] at this; cases this
          refine ⟨hsub, hiN, hxi, fun w hw hxw => ?_⟩
          have h1 := (hrk i (j + 1) hiN).2 ((ordS_succ hS hN hb hT j i).2 (.inr (hTx i hi)))
          have h2 := hmin w hw hxw
          unfold ordI
          omega
        · exact .inl rfl
  · have e := (f1 x hx).resolve_left hsub
    rw [e]
    exact ⟨fun h => h.elim id fun h => absurd h.1 hsub, .inl⟩
end
end Go.Proofs.YtiifmdgcnpdibaaDoor
