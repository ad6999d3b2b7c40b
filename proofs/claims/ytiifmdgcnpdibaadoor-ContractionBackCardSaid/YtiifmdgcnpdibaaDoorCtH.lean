/-
  Walks: package contraction: Order.
-/
import Derived.Test.YtiifmdgcnpdibaaDoorProg
import Derived.Test.YtiifmdgcnpdibaaDoorBase
import Derived.Test.YtiifmdgcnpdibaaDoorRow
import Derived.Test.YtiifmdgcnpdibaaDoorRowU
import Derived.Test.YtiifmdgcnpdibaaDoorRowsOf
import Derived.Test.YtiifmdgcnpdibaaDoorLeast
import Derived.Test.YtiifmdgcnpdibaaDoorRkQ
import Derived.Test.YtiifmdgcnpdibaaDoorRkB
import Derived.Test.YtiifmdgcnpdibaaDoorRkC3
import Derived.Test.YtiifmdgcnpdibaaDoorPoP
import Derived.Test.YtiifmdgcnpdibaaDoorSlcU
import Derived.Test.YtiifmdgcnpdibaaDoorCtP
import Derived.Test.YtiifmdgcnpdibaaDoorCtQ
import Derived.Test.YtiifmdgcnpdibaaDoorCtA
import Derived.Test.YtiifmdgcnpdibaaDoorCtB
import Derived.Test.YtiifmdgcnpdibaaDoorCtC
import Derived.Test.YtiifmdgcnpdibaaDoorCtG
namespace Go.Proofs.YtiifmdgcnpdibaaDoor
open Go.RowKit

/-- A slice of m ints, and an error. -/
def SlcI (E m : Nat) (g : Nat → Int) (w : World) (e : Ending) (w' : World) : Prop :=
  ∃ A c, e = .returned (.tuple #[.slice A m c, .int .i64 (E : Nat)]) ∧ I64s w' A m g ∧ Below w.heap.size w w'
theorem ord_stop {b j : Nat} {T : Nat → Nat} (h : andNot (T (ordS b T j)) (ordS b T j) = 0) (d : Nat) : ordS b T (j + d) = ordS b T j ∧ ∀ v, ordR b T (j + d) v = ordR b T j v := by
  induction d with
  | zero => exact ⟨rfl, fun _ => rfl⟩
  | succ d ih =>
    constructor
    · show ordS b T (j + d) ||| andNot (T (ordS b T (j + d))) (ordS b T (j + d)) = _
      rw [ih.1, h, Nat.or_zero]
    · intro v
      show (if (andNot (T (ordS b T (j + d))) (ordS b T (j + d))).testBit v then j + d + 1 else ordR b T (j + d) v) = _
      rw [ih.1, h, Nat.zero_testBit]
      exact ih.2 v
theorem or_grows {s n : Nat} (h : ∀ i, n.testBit i = true → s.testBit i = false) (h0 : n ≠ 0) : s < s ||| n := by
  have hle : s ≤ s ||| n := Nat.left_le_or
  rcases Nat.lt_or_ge s (s ||| n) with h1 | h1
  · exact h1
  · exfalso
    have e : s ||| n = s := Nat.le_antisymm h1 hle
    apply h0
    apply Nat.eq_of_testBit_eq
    intro i
    rw [Nat.zero_testBit]
    cases hn : n.testBit i
    · rfl
    · have h2 := h i hn
      have : (s ||| n).testBit i = true := by rw [Nat.testBit_or, hn, Bool.or_true]
      rw [e, h2] at this; cases this
/-- What a step of Order does. -/
theorem ord_step {N S b : Nat} {T : Nat → Nat} (hS : S = 2 ^ N) (hN : N ≤ 8) (hb : b < S) (hT : ∀ x, x < S → T x < S) {j nx s : Nat} (es : s = ordS b T j) (en : nx = andNot (T s) s) (h0 : nx ≠ 0) (hj : j ≤ cntT N s) :
    s < s ||| nx ∧ s ||| nx = ordS b T (j + 1) ∧ j + 1 ≤ cntT N (s ||| nx) ∧ (∀ v, ordR b T (j + 1) v = if nx.testBit v then j + 1 else ordR b T j v) := by
  subst es
  subst en
  have hd : ∀ i, (andNot (T (ordS b T j)) (ordS b T j)).testBit i = true → (ordS b T j).testBit i = false := fun i hi => ((nxt_bit hS hN hb hT j i).1 hi).2
  refine ⟨or_grows hd h0, rfl, ?_, fun v => rfl⟩
  obtain ⟨i, hi⟩ : ∃ i, (andNot (T (ordS b T j)) (ordS b T j)).testBit i = true := by
    apply Classical.byContradiction
    intro hn
    apply h0
    apply Nat.eq_of_testBit_eq
    intro i
    rw [Nat.zero_testBit]
    cases hgi : (andNot (T (ordS b T j)) (ordS b T j)).testBit i
    · rfl
    · exact absurd ⟨i, hgi⟩ hn
  have hiN := bit_top hS (Nat.lt_of_le_of_lt Nat.and_le_left (hT _ (ordS_lt hS hb hT j))) hi
  have := cntT_lt (N := N) (a := ordS b T j) (c := ordS b T j ||| andNot (T (ordS b T j)) (ordS b T j)) (fun v hv => by rw [Nat.testBit_or, hv]; rfl) hiN (hd i hi) (by rw [Nat.testBit_or, hi, Bool.or_true])
  omega
theorem top_next {N S : Nat} {T : Nat → Nat} (hS : S = 2 ^ N) (hN : N ≤ 8) (hT : ∀ x, x < S → T x < S) : andNot (T (S - 1)) (S - 1) = 0 := by
  have h256 : S ≤ 256 := by rw [hS]; exact Nat.pow_le_pow_right (n := 2) (j := 8) (by decide) hN
  have h1 : 1 ≤ S := by rw [hS]; exact Nat.two_pow_pos N
  have := hT (S - 1) (by omega)
  rw [hS, andNot_mask (by rw [← hS]; omega) (by omega), ← hS]
  exact this
theorem ordR_le (b : Nat) (T : Nat → Nat) (j v : Nat) : ordR b T j v ≤ j := by
  induction j with
  | zero => exact Nat.le_refl _
  | succ j ih =>
    unfold ordR
    split
    · exact Nat.le_refl _
    · omega
def orM (n : Int) (b len : Nat) (T : Nat → Nat) : Nat := if orE n b len T = 0 then 2 ^ n.toNat else 0
def orF (n : Int) (b : Nat) (T : Nat → Nat) : Nat → Int := ordI b T (2 ^ n.toNat)
theorem orE_ok {k N S b : Nat} {T : Nat → Nat} (hN : N = 2 ^ k) (h0 : ctChk k b S T = 0) (hb : b ≠ 0) : orE k b S T = if ordOk N S b T then 0 else 9 := by
  unfold orE
  rw [if_pos h0, if_neg hb, Int.toNat_natCast, ← hN]
set_option maxHeartbeats 4000000 in
set_option maxRecDepth 100000 in
theorem Order_in (k N S b c : Nat) (A : Option Addr) (T : Nat → Nat) (w : World) (hT : U64s w A S T) (hk : k ≤ 3) (hN : N = 2 ^ k) (hS : S = 2 ^ N) (hb : b < S) (hb0 : b ≠ 0) (ht : tabErr S S T = 0) (h0 : ctChk k b S T = 0) :
    Calls Tryd.prog 29 #[.int .i64 k, .int .u64 b, .slice A S c] w (SlcI (if ordOk N S b T then 0 else 9) (if ordOk N S b T then N else 0) (ordI b T N) w) := by
  have hN8 : N ≤ 8 := by rw [hN]; exact Nat.le_trans (Nat.pow_le_pow_right (n := 2) (j := 3) (by decide) hk) (by decide)
  obtain ⟨v1, v2, v3, v4⟩ := two_val8 hN8 hS
  have hw := wrap_pow hN (by omega)
  have hC := ctChk_any k b S c A T w hT (by omega) (by omega)
  rw [h0] at hC
  have HC := Lib.hid hC
  have hTl := tab_lt ht
  have HA := Lib.hid (fun w => ctAll_any k N S w (by omega) hN hS)
  have hmk := fun w1 => run_make_row' (P := Tryd.prog) (w := w1) 32 3 (.int .i64 0) 8 Tryd.underlying32 Tryd.infoInt rfl .i64 .i64 N (by omega) (by omega)
  have hz : ((b : Int) == 0) = false := by rw [beq_eq_false_iff_ne]; omega
  have HT := Lib.hid hT
  have HTl := Lib.hid hTl
  have HN := Lib.hid hN
  have HS := Lib.hid hS
  have hr : ∀ j, j ≤ N → revErr k N (ordI b T j) = 0 := fun j hj => revErr_of (by omega) hN fun v _ => by unfold ordI; have := ordR_le b T j v; omega
  have hTE : tabE k N (ordI b T N) = 0 := by unfold tabE; rw [if_pos (hr N (Nat.le_refl _)), if_pos (by omega)]
  have hTM : ctM k N (ordI b T N) = S := by unfold ctM; rw [if_pos hTE, hS]
  have HTAB : Hid (∀ W B cc, I64s W B N (ordI b T N) → Calls Tryd.prog 21 #[.int .i64 k, .slice B N cc] W (SlcU 0 S (ctT N (ordI b T N)) W)) := Lib.hid fun W B cc hW => by
    have := ctTable_any k N cc B (ordI b T N) W hW (by omega)
    rwa [hTE, hTM] at this
  have HOK : Hid (ordS b T N = S - 1 → ordOk N S b T = eqU S S (ctT N (ordI b T N)) T) := Lib.hid fun h => by
    unfold ordOk eqU ctT
    rw [h, ← hS]
    simp
  have HNO : Hid (ordS b T N ≠ S - 1 → ordOk N S b T = false) := Lib.hid fun h => by
    unfold ordOk
    rw [beq_eq_false_iff_ne.2 h]; rfl
  have HFIN : Hid (∀ j, j ≤ N → ordS b T j = S - 1 → ordS b T N = S - 1 ∧ ∀ v, ordR b T N v = ordR b T j v) := Lib.hid fun j hj e => by
    have h1 := ord_stop (b := b) (j := j) (T := T) (by rw [e]; exact top_next hS hN8 hTl) (N - j)
    rw [show j + (N - j) = N from by omega] at h1
    exact ⟨h1.1.trans e, h1.2⟩
  have HSTK : Hid (∀ j, j ≤ N → ordS b T j ≠ S - 1 → andNot (T (ordS b T j)) (ordS b T j) = 0 → ordOk N S b T = false) := Lib.hid fun j hj e h => by
    have h1 := ord_stop (b := b) (j := j) (T := T) h (N - j)
    rw [show j + (N - j) = N from by omega] at h1
    exact HNO.out (by rw [h1.1]; exact e)
  have HSL := Lib.hid (fun j => ordS_lt (j := j) hS hb hTl)
  obtain ⟨E, eE⟩ : ∃ E : Nat, E = if ordOk N S b T then 0 else 9 := ⟨_, rfl⟩
  obtain ⟨M, eM⟩ : ∃ M : Nat, M = if ordOk N S b T then N else 0 := ⟨_, rfl⟩
  rw [← eE, ← eM]
  have HE := Lib.hid eE
  have HM := Lib.hid eM
  clear hC hT hTl hN hS h0 ht hr hTE hTM v1 v2 hb0 eE eM HNO
  go_enter Tryd.func29, Tryd.ntmps29
  go_upto_region 9 with (go_at_call 25; refine HC.out.mono ?_; rintro e w1 ⟨rfl, hb1⟩; have HB1 := Lib.hid hb1; clear hb1)
  have hrow := RowI.made w1 N 3
  have hbl := HB1.out.trans ((below_alloc w1 (.cells (madeCells #[.int .i64 0] N) 3)).mono HB1.out.size)
  have hsz := HB1.out.size
  clear hmk HB1
  generalize w1.heap.size = BB at hrow hsz ⊢
  generalize w1.alloc (.cells (madeCells #[.int .i64 0] N) 3) = W at hrow hbl ⊢
  have HW := Lib.hid hbl
  have HRo := Lib.hid hrow
  clear hrow hbl
  go_loopw [10, 11] (fun sv rv wr => ∃ j : Nat, sv = .int .u64 (ordS b T j : Nat) ∧ rv = .int .i64 ((j + 1 : Nat) : Int) ∧ Hid (j ≤ cntT N (ordS b T j)) ∧ RowI wr BB N (ordR b T j) ∧ Below w.heap.size w wr) (fun sv _ _ => S - (intOf sv).toNat)
  case atStart => exact ⟨0, rfl, rfl, Lib.hid (Nat.zero_le _), HRo.out, HW.out⟩
  case round =>
    clear HW HRo
    obtain ⟨j, rfl, rfl, HJ, hrow, hbl⟩ := hrel
    have hjN : j ≤ N := Nat.le_trans HJ.out (cntB_le _ _)
    have hsl := HSL.out j
    have hfin := HFIN.out j hjN
    have hstk := HSTK.out j hjN
    have hstep := fun nx (en : nx = andNot (T (ordS b T j)) (ordS b T j)) h => ord_step (N := N) (S := S) (b := b) (T := T) HS.out hN8 hb HTl.out (j := j) rfl en h HJ.out
    obtain ⟨s, es⟩ : ∃ s : Nat, s = ordS b T j := ⟨_, rfl⟩
    rw [← es] at hsl hfin hstk hstep ⊢
    have hTs := (HT.out.below hbl) s hsl
    have htl := HTl.out s hsl
    have HB := Lib.hid hbl
    have HRo := Lib.hid hrow
    clear hbl hrow es HJ
    by_cases hs : s = S - 1
    · have h1 : ((s : Int) != ((S - 1 : Nat) : Int)) = false := by rw [hs]; simp
      obtain ⟨hf1, hf2⟩ := hfin hs
      have hok := HOK.out hf1
      have hi64 : I64s wr (some ⟨BB, 0, none⟩) N (ordI b T N) := fun u hu => by
        refine ⟨BB, 0, rfl, ?_, ?_⟩
        · rw [Nat.zero_add]
          unfold ordI
          rw [hf2]
          exact (HRo.out u hu).1
        · unfold ordI
          have := ordR_le b T N u
          omega
      have HI := Lib.hid hi64
      have HTB := Lib.hid (HTAB.out wr _ N hi64)
      cases hq : eqU S S (ctT N (ordI b T N)) T
      · rw [hq] at hok
        have HE1 := Lib.hid (show E = 9 by rw [HE.out, hok]; rfl)
        have HM1 := Lib.hid (show M = 0 by rw [HM.out, hok]; rfl)
        have HQ := Lib.hid hq
        clear hfin hstk hstep hTs htl hs hf1 hf2 hok hi64 hq
        go_wp2_with (first | (go_at_call 42; refine (HA.out _).mono ?_; rintro e w' ⟨rfl, rfl⟩) | (go_at_call 21; refine HTB.out.mono ?_; rintro e w2 ⟨A2, c2, rfl, hu2, hb2⟩; have HU2 := Lib.hid hu2; have HB2 := Lib.hid hb2; clear hu2 hb2) | (go_at_call 58; refine (equalU_any _ _ _ _ _ _ _ _ _ HU2.out (HT.out.below (HB.out.trans (HB2.out.mono HB.out.size))) (by omega) (by omega)).mono ?_; rintro e w3 ⟨rfl, hb3⟩; rw [HQ.out]; have HB3 := Lib.hid hb3; clear hb3))
        go_ret2
        rw [HE1.out, HM1.out]
        exact ⟨none, 0, rfl, i64s_nil _ _ _, (HB.out.trans (HB2.out.mono HB.out.size)).trans (HB3.out.mono (HB.out.trans (HB2.out.mono HB.out.size)).size)⟩
      · rw [hq] at hok
        have HE1 := Lib.hid (show E = 0 by rw [HE.out, hok]; rfl)
        have HM1 := Lib.hid (show M = N by rw [HM.out, hok]; rfl)
        have HQ := Lib.hid hq
        clear hfin hstk hstep hTs htl hs hf1 hf2 hok hi64 hq
        go_wp2_with (first | (go_at_call 42; refine (HA.out _).mono ?_; rintro e w' ⟨rfl, rfl⟩) | (go_at_call 21; refine HTB.out.mono ?_; rintro e w2 ⟨A2, c2, rfl, hu2, hb2⟩; have HU2 := Lib.hid hu2; have HB2 := Lib.hid hb2; clear hu2 hb2) | (go_at_call 58; refine (equalU_any _ _ _ _ _ _ _ _ _ HU2.out (HT.out.below (HB.out.trans (HB2.out.mono HB.out.size))) (by omega) (by omega)).mono ?_; rintro e w3 ⟨rfl, hb3⟩; rw [HQ.out]; have HB3 := Lib.hid hb3; clear hb3))
        go_ret2
        rw [HE1.out, HM1.out]
        exact ⟨_, _, rfl, (HI.out.below HB2.out).below HB3.out, (HB.out.trans (HB2.out.mono HB.out.size)).trans (HB3.out.mono (HB.out.trans (HB2.out.mono HB.out.size)).size)⟩
    · have h1 : ((s : Int) != ((S - 1 : Nat) : Int)) = true := by rw [bne_iff_ne]; omega
      obtain ⟨b', off, rfl, hc, hl⟩ := hTs
      have han := bits_andNot (T s) s hl (by omega)
      obtain ⟨nx, en⟩ : ∃ nx, nx = andNot (T s) s := ⟨_, rfl⟩
      have hnl : nx < S := by rw [en]; exact Nat.lt_of_le_of_lt Nat.and_le_left htl
      rw [← en] at han
      have hsb : (s : Int) < (S : Int) := by omega
      by_cases hn0 : nx = 0
      · have hz2 : ((nx : Int) == 0) = true := by rw [hn0]; rfl
        have hno := hstk hs (by rw [← en]; exact hn0)
        have HE1 := Lib.hid (show E = 9 by rw [HE.out, hno]; rfl)
        have HM1 := Lib.hid (show M = 0 by rw [HM.out, hno]; rfl)
        clear hfin hstk hstep htl hs en hn0 hno
        go_wp2_with (go_at_call 42; refine (HA.out _).mono ?_; rintro e w' ⟨rfl, rfl⟩)
        go_ret2
        rw [HE1.out, HM1.out]
        exact ⟨none, 0, rfl, i64s_nil _ _ _, HB.out⟩
      · have hz2 : ((nx : Int) == 0) = false := by rw [beq_eq_false_iff_ne]; omega
        obtain ⟨g1, g2, g3, g4⟩ := hstep nx en hn0
        have hor : bits .or .u64 (s : Int) (nx : Int) = ((s ||| nx : Nat) : Int) := u64_or_nat _ _ (by omega) (by omega)
        have G := Lib.hid (show s < s ||| nx ∧ s ||| nx = ordS b T (j + 1) ∧ j + 1 ≤ cntT N (s ||| nx) from ⟨g1, g2, g3⟩)
        have G4 := Lib.hid g4
        have hzl : s ||| nx < S := by rw [g2]; exact HSL.out (j + 1)
        obtain ⟨z, ez⟩ : ∃ z, z = s ||| nx := ⟨_, rfl⟩
        rw [← ez] at hor hzl G
        clear hfin hstk hstep htl hs en hn0 g1 g2 g3 g4 ez
        obtain ⟨gg, hgg⟩ : ∃ gg : Nat → Nat → Nat, gg = fun v u => if u < v then ordR b T (j + 1) u else ordR b T j u := ⟨_, rfl⟩
        have GE := Lib.hid hgg
        have hg0 : Hid (RowI wr BB N (gg 0)) := Lib.hid (HRo.out.congr fun u hu => by rw [hgg]; dsimp only; rw [if_neg (Nat.not_lt_zero _)])
        clear hgg HRo
        go_wp2_with (go_at_call 42; refine (HA.out _).mono ?_; rintro e w' ⟨rfl, rfl⟩)
        go_loopw [45] (fun iv wr => ∃ v : Nat, v ≤ N ∧ iv = .int .i64 v ∧ RowI wr BB N (gg v) ∧ Below w.heap.size w wr) (fun iv _ => N - (intOf iv).toNat)
        case atStart => exact ⟨0, Nat.zero_le _, rfl, hg0.out, HB.out⟩
        case round =>
          clear HB hg0 hc
          obtain ⟨v, hv, rfl, hrow, hbl⟩ := hrel
          by_cases hlt : v < N
          · have hbit := bits_has' nx v (by omega) (by omega)
            have hg4 := G4.out v
            have HB := Lib.hid hbl
            cases hb : nx.testBit v
            · rw [hb] at hbit hg4
              have hbit' : (bits .and .u64 ((nx : Int) / 2 ^ v) 1 == 1) = false := hbit
              have hg5 : ordR b T (j + 1) v = ordR b T j v := hg4
              have HRo : Hid (RowI wr BB N (gg (v + 1))) := Lib.hid (hrow.congr fun u hu => by
                rw [GE.out]; dsimp only
                by_cases h2 : u < v
                · rw [if_pos h2, if_pos (by omega)]
                · rw [if_neg h2]
                  by_cases h3 : u = v
                  · subst h3; rw [if_pos (by omega), hg5]
                  · rw [if_neg (by omega)])
              clear hbit hg4 hg5 hrow hbl hb
              go_wp2_with fail
              go_roundw
              case rel => exact ⟨v + 1, by omega, by go_num, HRo.out, HB.out⟩
              case measure => simp [intOf]; omega
            · rw [hb] at hbit hg4
              have hbit' : (bits .and .u64 ((nx : Int) / 2 ^ v) 1 == 1) = true := hbit
              have hg5 : ordR b T (j + 1) v = j + 1 := hg4
              obtain ⟨hcv, hfv⟩ := hrow v hlt
              have HRo : Hid (RowI (wr.setCell ⟨BB, v, none⟩ (.int .i64 ((j + 1 : Nat) : Int))) BB N (gg (v + 1))) := Lib.hid ((hrow.set hlt).congr fun u hu => by
                rw [GE.out]; unfold upd; dsimp only
                by_cases h3 : u = v
                · subst h3; rw [if_pos rfl, if_pos (by omega), hg5]
                · rw [if_neg h3]
                  by_cases h2 : u < v
                  · rw [if_pos h2, if_pos (by omega)]
                  · rw [if_neg h2, if_neg (by omega)])
              clear hbit hg4 hg5 hrow hbl hb
              go_wp2_with fail
              go_roundw
              case rel => exact ⟨v + 1, by omega, by go_num, HRo.out, HB.out.setCell (p := ⟨BB, v, none⟩) hsz _⟩
              case measure => simp [intOf]; omega
          · obtain rfl : v = N := by omega
            have HRo : Hid (RowI wr BB v (ordR b T (j + 1))) := Lib.hid (hrow.congr fun u hu => by rw [GE.out]; dsimp only; rw [if_pos hu])
            have HB := Lib.hid hbl
            clear hrow hbl
            go_wp2_with fail
            go_roundw
            case rel => exact ⟨j + 1, by rw [G.out.2.1], by go_num, Lib.hid (by rw [← G.out.2.1]; exact G.out.2.2), HRo.out, HB.out⟩
            case measure =>
              have := G.out.1
              simp [intOf]
              omega
set_option maxHeartbeats 1000000 in
theorem Order_any (n : Int) (b len c : Nat) (A : Option Addr) (T : Nat → Nat) (w : World) (hT : U64s w A len T) (hlen : len ≤ 9223372036854775807) (hb : b < 18446744073709551616) :
    Calls Tryd.prog 29 #[.int .i64 n, .int .u64 b, .slice A len c] w (SlcI (orE n b len T) (orM n b len T) (orF n b T) w) := by
  by_cases h0 : ctChk n b len T = 0
  · obtain ⟨k, rfl, hk, hl, hbS, ht⟩ := ctChk_ok h0
    by_cases hb0 : b = 0
    · have hE : orE k b len T = 11 := by unfold orE; rw [if_pos h0, if_pos hb0]
      have hM : orM k b len T = 0 := by unfold orM; rw [hE]; rfl
      rw [hE, hM]
      have HC := Lib.hid (ctChk_any k b len c A T w hT hlen hb)
      rw [h0] at HC
      have hz : ((b : Int) == 0) = true := by rw [hb0]; rfl
      clear hE hM hT h0 ht hl hbS hb0
      go_enter Tryd.func29, Tryd.ntmps29
      go_wp2_with (go_at_call 25; refine HC.out.mono ?_; rintro e w1 ⟨rfl, hb1⟩; have HB1 := Lib.hid hb1; clear hb1)
      go_ret2
      exact ⟨none, 0, rfl, i64s_nil _ _ _, HB1.out⟩
    · subst hl
      have h := Order_in k (2 ^ k) _ b c A T w hT hk rfl rfl hbS hb0 ht h0
      have hE := orE_ok (k := k) rfl h0 hb0
      have hM : orM k b (2 ^ 2 ^ k) T = if ordOk (2 ^ k) (2 ^ 2 ^ k) b T then 2 ^ k else 0 := by
        unfold orM
        rw [hE, Int.toNat_natCast]
        cases ordOk (2 ^ k) (2 ^ 2 ^ k) b T <;> rfl
      rw [hE, hM]
      exact h
  · have hE : orE n b len T = ctChk n b len T := by unfold orE; rw [if_neg h0]
    have hM : orM n b len T = 0 := by unfold orM; rw [if_neg (by rw [hE]; exact h0)]
    rw [hE, hM]
    have HC := Lib.hid (ctChk_any n b len c A T w hT hlen hb)
    obtain ⟨E, eE⟩ : ∃ E, E = ctChk n b len T := ⟨_, rfl⟩
    rw [← eE] at HC h0 ⊢
    have hne : ((E : Int) != 0) = true := by rw [bne_iff_ne]; omega
    clear eE hE hM hT
    go_enter Tryd.func29, Tryd.ntmps29
    go_wp2_with (go_at_call 25; refine HC.out.mono ?_; rintro e w1 ⟨rfl, hb1⟩; have HB1 := Lib.hid hb1; clear hb1)
    go_ret2
    exact ⟨none, 0, rfl, i64s_nil _ _ _, HB1.out⟩
end Go.Proofs.YtiifmdgcnpdibaaDoor
