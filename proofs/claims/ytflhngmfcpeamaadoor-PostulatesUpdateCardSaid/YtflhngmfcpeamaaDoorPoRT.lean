/-
  Walks: the reference of layer 43: least, Table, Faithful.
-/
import Derived.Test.YtflhngmfcpeamaaDoorProg
import Derived.Test.YtflhngmfcpeamaaDoorBase
import Derived.Test.YtflhngmfcpeamaaDoorRow
import Derived.Test.YtflhngmfcpeamaaDoorRowU
import Derived.Test.YtflhngmfcpeamaaDoorRowsOf
import Derived.Test.YtflhngmfcpeamaaDoorLeast
import Derived.Test.YtflhngmfcpeamaaDoorPoA
import Derived.Test.YtflhngmfcpeamaaDoorPoB
import Derived.Test.YtflhngmfcpeamaaDoorPoE
import Derived.Test.YtflhngmfcpeamaaDoorPoM
import Derived.Test.YtflhngmfcpeamaaDoorPoT
import Derived.Test.YtflhngmfcpeamaaDoorPoRA
import Derived.Test.YtflhngmfcpeamaaDoorPoRB
namespace Go.Proofs.YtflhngmfcpeamaaDoor
open Go.RowKit

def smB (x : Nat) (f : Nat → Int) (v w : Nat) : Bool := !(x.testBit w && decide (f w < f v))
def smallB (x : Nat) (f : Nat → Int) (N v : Nat) : Bool := x.testBit v && allB N (smB x f v)
theorem small_tab (x : Nat) (f : Nat → Int) (N : Nat) : mkSet N (smallB x f N) = tabF f N x := by
  apply Nat.eq_of_testBit_eq
  intro v
  rw [Bool.eq_iff_iff, testBit_mkSet, tabF_bit, Bool.and_eq_true, decide_eq_true_eq]
  unfold smallB
  rw [Bool.and_eq_true, allB_iff]
  constructor
  · rintro ⟨h1, h2, h3⟩
    refine ⟨h1, h2, fun w hw hwx => ?_⟩
    have := h3 w hw
    unfold smB at this
    rw [hwx] at this
    have h4 : ¬ f w < f v := by simpa using this
    omega
  · rintro ⟨h1, h2, h3⟩
    refine ⟨h1, h2, fun w hw => ?_⟩
    unfold smB
    cases hx : x.testBit w
    · rfl
    · have := h3 w hw hx
      rw [decide_eq_false (by omega)]; rfl
theorem mkSet_add {p : Nat → Bool} {v : Nat} (h : p v = true) : mkSet (v + 1) p = mkSet v p + 2 ^ v := by
  have h2 := Nat.two_pow_add_eq_or_of_lt (mkSet_lt v p) 1
  rw [Nat.mul_one] at h2
  rw [mkSet_succ_yes h, Nat.or_comm, ← h2, Nat.add_comm]
set_option maxHeartbeats 2000000 in
theorem rleast_any (A : Option Addr) (n c x : Nat) (f : Nat → Int) (w : World) (hx : I64s w A n f) (hn : n ≤ 8) (hs : x < 18446744073709551616) :
    Calls Tryd.prog 40 #[.int .u64 x, .slice A n c] w fun e w' => e = .returned (.int .u64 (tabF f n x)) ∧ Below w.heap.size w w' := by
  have HX := Lib.hid hx
  clear hx
  go_enter Tryd.func40, Tryd.ntmps40
  go_wp2
  go_loopw [5, 11] (fun sv iv wr => ∃ v : Nat, v ≤ n ∧ iv = .int .i64 v ∧ sv = .int .u64 (mkSet v (smallB x f n) : Nat) ∧ Below w.heap.size w wr) (fun _ iv _ => n - (intOf iv).toNat)
  case atStart => exact ⟨0, Nat.zero_le _, rfl, rfl, Below.refl _ _⟩
  case round =>
    obtain ⟨v, hv, rfl, rfl, hbl⟩ := hrel
    have HB := Lib.hid hbl
    clear hbl
    obtain ⟨ms, ems⟩ : ∃ ms : Nat, ms = mkSet v (smallB x f n) := ⟨_, rfl⟩
    have hmsl : ms < 2 ^ v := by rw [ems]; exact mkSet_lt _ _
    have hms256 : ms < 256 := Nat.lt_of_lt_of_le hmsl (Nat.pow_le_pow_right (n := 2) (i := v) (j := 8) (by decide) (by omega))
    have HMS := Lib.hid ems
    rw [← ems]
    clear ems hmsl
    by_cases hlt : v < n
    · obtain ⟨P, eP⟩ : ∃ P : Nat, P = 2 ^ v := ⟨_, rfl⟩
      have hPl : P < 256 := by rw [eP]; exact Nat.pow_lt_pow_right (n := 8) (by decide) (by omega)
      obtain ⟨E, eE⟩ : ∃ E : Nat, E = x &&& P := ⟨_, rfl⟩
      have hand : bits .and .u64 (x : Int) (P : Int) = (E : Int) := by rw [u64_and_nat _ _ hs (by omega), eE]
      have hE : ((E : Int) == 0) = !x.testBit v := by rw [eq0_nat, eE, ← bit_and eP]; simp [bne]
      have HP := Lib.hid eP
      clear eE
      cases hb : x.testBit v
      · rw [hb] at hE
        have hE' : ((E : Int) == 0) = true := hE
        have HNO := Lib.hid (mkSet_succ_no (k := v) (p := smallB x f n) (by unfold smallB; rw [hb]; rfl))
        clear hb hE eP
        go_wp2_with (go_at_call 33; refine (rbit_any v P _ (by omega) HP.out).mono ?_; rintro e w' ⟨rfl, rfl⟩)
        go_roundw
        case rel => exact ⟨v + 1, by omega, by go_num, by rw [HNO.out, HMS.out], HB.out⟩
        case measure => simp [intOf]; omega
      · rw [hb] at hE
        have hE' : ((E : Int) == 0) = false := hE
        have HBV := Lib.hid hb
        clear hb hE eP
        go_wp2_with (go_at_call 33; refine (rbit_any v P _ (by omega) HP.out).mono ?_; rintro e w' ⟨rfl, rfl⟩)
        go_loopw [7, 21] (fun sv iv wr => ∃ u : Nat, u ≤ n ∧ iv = .int .i64 u ∧ sv = .bool (allB u (smB x f v)) ∧ Below w.heap.size w wr) (fun _ iv _ => n - (intOf iv).toNat)
        case atStart => exact ⟨0, Nat.zero_le _, rfl, rfl, HB.out⟩
        case round =>
          clear HB
          obtain ⟨u, hu, rfl, rfl, hbl⟩ := hrel
          by_cases hltu : u < n
          · obtain ⟨b, off, rfl, hcv, hv1, hv2⟩ := (HX.out.below hbl) v hlt
            obtain ⟨b', off', e', hcu, hu1, hu2⟩ := (HX.out.below hbl) u hltu
            injection e' with e'
            injection e' with e1 e2
            subst e1 e2
            have HB := Lib.hid hbl
            obtain ⟨Q, eQ⟩ : ∃ Q : Nat, Q = 2 ^ u := ⟨_, rfl⟩
            have hQl : Q < 256 := by rw [eQ]; exact Nat.pow_lt_pow_right (n := 8) (by decide) (by omega)
            obtain ⟨D, eD⟩ : ∃ D : Nat, D = x &&& Q := ⟨_, rfl⟩
            have handu : bits .and .u64 (x : Int) (Q : Int) = (D : Int) := by rw [u64_and_nat _ _ hs (by omega), eD]
            have hD : ((D : Int) != 0) = x.testBit u := by rw [ne0_nat, eD, bit_and eQ]
            have HQ := Lib.hid eQ
            have hvb : (v : Int) < (n : Int) := by omega
            have hub : (u : Int) < (n : Int) := by omega
            have hsu : allB (u + 1) (smB x f v) = (allB u (smB x f v) && smB x f v u) := allB_succ _ _
            have hsm : smB x f v u = !(x.testBit u && decide (f u < f v)) := rfl
            obtain ⟨l0, el0⟩ : ∃ l0, l0 = allB u (smB x f v) := ⟨_, rfl⟩
            obtain ⟨l1, el1⟩ : ∃ l1, l1 = allB (u + 1) (smB x f v) := ⟨_, rfl⟩
            obtain ⟨fu, efu⟩ : ∃ fu, fu = f u := ⟨_, rfl⟩
            obtain ⟨fv, efv⟩ : ∃ fv, fv = f v := ⟨_, rfl⟩
            rw [hsm, ← efu, ← efv, ← el0, ← el1] at hsu
            rw [← efv] at hcv hv1 hv2
            rw [← efu] at hcu hu1 hu2
            rw [← el0]
            have HL1 := Lib.hid el1
            clear hsm el0 el1 efu efv eD eQ hbl
            cases hbu : x.testBit u
            · rw [hbu] at hD
              have H1 := Lib.hid (show l1 = l0 by rw [hsu, hbu]; simp)
              clear hsu hbu
              go_wp2_with fail
              go_quiet ((go_at_call 33; exact rbit_quiet u Q _ _ (by omega) HQ.out))
              go_wp2_with fail
              go_roundw
              case rel => exact ⟨u + 1, by omega, by go_num, by rw [← HL1.out, H1.out], below_drewN HB.out _⟩
              case measure => simp [intOf]; omega
            · rw [hbu] at hD
              by_cases hf : fu < fv
              · have hf' : decide (fu < fv) = true := decide_eq_true hf
                have H1 := Lib.hid (show l1 = false by rw [hsu, hbu, hf']; simp)
                clear hsu hbu hf
                go_wp2_with fail
                go_quiet ((go_at_call 33; exact rbit_quiet u Q _ _ (by omega) HQ.out))
                go_wp2_with fail
                go_roundw
                case rel => exact ⟨u + 1, by omega, by go_num, by rw [← HL1.out, H1.out], below_drewN HB.out _⟩
                case measure => simp [intOf]; omega
              · have hf' : decide (fu < fv) = false := decide_eq_false hf
                have H1 := Lib.hid (show l1 = l0 by rw [hsu, hbu, hf']; simp)
                clear hsu hbu hf
                go_wp2_with fail
                go_quiet ((go_at_call 33; exact rbit_quiet u Q _ _ (by omega) HQ.out))
                go_wp2_with fail
                go_roundw
                case rel => exact ⟨u + 1, by omega, by go_num, by rw [← HL1.out, H1.out], below_drewN HB.out _⟩
                case measure => simp [intOf]; omega
          · obtain rfl : u = n := by omega
            have HB := Lib.hid hbl
            have hsv : smallB x f u v = allB u (smB x f v) := by unfold smallB; rw [HBV.out]; rfl
            obtain ⟨l0, el0⟩ : ∃ l0, l0 = allB u (smB x f v) := ⟨_, rfl⟩
            rw [← el0] at hsv ⊢
            clear el0 hbl
            cases l0
            · have HNO := Lib.hid (mkSet_succ_no hsv)
              clear hsv
              go_wp2_with fail
              go_roundw
              case rel => exact ⟨v + 1, by omega, by go_num, by rw [HNO.out, HMS.out], HB.out⟩
              case measure => simp [intOf]; omega
            · have HYE := Lib.hid (show mkSet (v + 1) (smallB x f u) = ms + P by rw [mkSet_add hsv, HMS.out, HP.out])
              clear hsv
              go_wp2_with (go_at_call 33; refine (rbit_any v P _ (by omega) HP.out).mono ?_; rintro e w' ⟨rfl, rfl⟩)
              go_roundw
              case rel => exact ⟨v + 1, by omega, by go_num, by rw [HYE.out]; go_num, HB.out⟩
              case measure => simp [intOf]; omega
    · obtain rfl : v = n := by omega
      have HF := Lib.hid (show ms = tabF f v x by rw [HMS.out, small_tab])
      go_wp2_with fail
      go_ret
      exact ⟨by rw [HF.out]; rfl, HB.out⟩

/-! ### Table -/
theorem rTable_err (n : Int) (A : Option Addr) (len c : Nat) (w : World) (he : tblErr n len ≠ 0) :
    Calls Tryd.prog 23 #[.int .i64 n, .slice A len c] w fun e w' => e = .returned (.tuple #[.slice none 0 0, .int .i64 (tblErr n len : Nat)]) ∧ Below w.heap.size w w' := by
  by_cases h0 : n < 0
  · have hd1 : decide (n < 0) = true := decide_eq_true h0
    have HE := Lib.hid (show tblErr n len = 2 from if_neg (by omega))
    clear he h0
    go_enter Tryd.func23, Tryd.ntmps23
    go_wp2
    go_ret2
    exact ⟨by rw [HE.out]; rfl, Below.refl _ _⟩
  · have hd1 : decide (n < 0) = false := decide_eq_false h0
    by_cases h3 : 3 < n
    · have hd2 : decide (3 < n) = true := decide_eq_true h3
      have HE := Lib.hid (show tblErr n len = 2 from if_neg (by omega))
      clear he h0 h3
      go_enter Tryd.func23, Tryd.ntmps23
      go_wp2
      go_ret2
      exact ⟨by rw [HE.out]; rfl, Below.refl _ _⟩
    · have hd2 : decide (3 < n) = false := decide_eq_false h3
      obtain ⟨k, rfl⟩ : ∃ k : Nat, n = k := ⟨n.toNat, by omega⟩
      have hk : k ≤ 3 := by omega
      obtain ⟨N, hN⟩ : ∃ N, N = 2 ^ k := ⟨_, rfl⟩
      obtain ⟨S, hS⟩ : ∃ S, S = 2 ^ N := ⟨_, rfl⟩
      have hne : len ≠ N := fun h => he (by unfold tblErr; rw [if_pos (by omega), if_pos (by rw [h, hN]; rfl)])
      have h1 : ((len : Int) != (N : Int)) = true := by rw [bne_iff_ne]; omega
      have HE := Lib.hid (show tblErr k len = 3 by unfold tblErr; rw [if_pos (by omega), if_neg (by rw [show (2:Nat) ^ (k : Int).toNat = N from hN.symm]; exact hne)])
      have HN := Lib.hid hN
      have HS := Lib.hid hS
      clear he h0 h3 hne hN hS
      go_enter Tryd.func23, Tryd.ntmps23
      go_wp2_with (go_at_call 32; refine (rsets_below k N S _ hk HN.out HS.out).mono ?_; rintro e w1 ⟨rfl, hst⟩; have HB := Lib.hid hst; clear hst)
      go_ret2
      exact ⟨by rw [HE.out]; rfl, HB.out⟩
/-- A table that a call has made, as it reads. -/
def TabRead (S : Nat) (T : Nat → Nat) (w : World) (e : Ending) (w' : World) : Prop :=
  ∃ A c, e = .returned (.tuple #[.slice A S c, .int .i64 0]) ∧ U64s w' A S T ∧ Below w.heap.size w w'
set_option maxHeartbeats 2000000 in
theorem rTable_in (k N S c : Nat) (A : Option Addr) (f : Nat → Int) (w : World) (hx : I64s w A N f) (hk : k ≤ 3) (hN : N = 2 ^ k) (hS : S = 2 ^ N) :
    Calls Tryd.prog 23 #[.int .i64 k, .slice A N c] w (TabRead S (tabF f N) w) := by
  have hS2 := sets_le hk (by rw [hS, hN] : S = 2 ^ 2 ^ k)
  have hN8 : N ≤ 8 := by rw [hN]; exact Nat.le_trans (Nat.pow_le_pow_right (by decide) hk) (by decide)
  have hd1 : decide ((k : Int) < 0) = false := by simp
  have hd2 : decide (3 < (k : Int)) = false := decide_eq_false (by omega)
  have HX := Lib.hid hx
  have HN := Lib.hid hN
  have HS := Lib.hid hS
  clear hx hN hS
  obtain ⟨i0, hi, hz0, hz1, hz2⟩ := info_parts Tryd.infoU64
  go_enter Tryd.func23, Tryd.ntmps23
  go_wp2_with (go_at_call 32; refine (rsets_below k N S _ hk HN.out HS.out).mono ?_; rintro e w1 ⟨rfl, hst⟩; have HB := Lib.hid hst; clear hst)
  have HB0 := Lib.hid HB.out
  have hb0 := HB.out.size
  clear HB
  go_loopw [8, 9] (fun o i wr => ∃ u : Nat, u ≤ S ∧ i = .int .i64 u ∧ wr.ownsRow w1.heap.size 22 1 o u (u64L (tabF f N) u) ∧ Below w1.heap.size w1 wr) (fun _ i _ => S - (intOf i).toNat)
  case atStart => exact ⟨0, Nat.zero_le _, rfl, World.ownsRow_nil _ _ _ _, Below.refl _ _⟩
  case round =>
    obtain ⟨u, hu, rfl, hown, hbl⟩ := hrel
    by_cases hult : u < S
    · have hcall := Lib.hid (rleast_any A N c u f wr (HX.out.below (HB0.out.trans (hbl.mono HB0.out.size))) hN8 (by omega))
      have HO := Lib.hid hown
      have HBL := Lib.hid hbl
      clear hown hbl
      go_wp2_with fail
      refine hcall.out.mono ?_
      rintro e w2 ⟨rfl, hst⟩
      have hown := own_below HO.out hst (Nat.le_refl _)
      have hbl := HBL.out.trans (hst.mono HBL.out.size)
      have hsz1 := hbl.size
      clear hst
      go_wp2_with (at_builtin; refine wpList_append_own _ rfl _ _ 23 rfl w1.heap.size 22 i0 (.int .u64 0) 1 8 Tryd.underlying23 hi hz0 hz1 hz2 rfl (by decide) _ _ _ rfl (hown.alloc _) ⟨w2.heap.size, 0, none⟩ 1 1 [.int .u64 (tabF f N u : Nat)] rfl rfl (cell_one_new _ _ _) (one_oneCell rfl) (by unfold maxLen; omega) (by omega) (by simp; omega) ?_; intro v' w3 hown' hgrow _)
      go_roundw
      case rel => exact ⟨u + 1, by omega, by go_num, by rw [u64L_succ]; exact hown', (hbl.alloc hsz1 _).grown hgrow (by simp; omega) (fun k hk => (hown.lt k hk).1)⟩
      case measure => simp [intOf]; omega
    · obtain rfl : u = S := by omega
      obtain ⟨A2, c2, rfl, hu64, _⟩ := own_u64s hown (fun x hx => Nat.lt_of_lt_of_le (tabF_lt f N x) (by rw [← HS.out]; omega))
      have HU := Lib.hid hu64
      have HB := Lib.hid (HB0.out.trans (hbl.mono HB0.out.size))
      clear hown hbl hu64
      go_wp2_with fail
      go_ret2
      exact ⟨_, _, rfl, HU.out, HB.out⟩

/-! ### Faithful -/
set_option maxHeartbeats 1000000 in
theorem rFaithful_any (n : Int) (kb len c : Nat) (A : Option Addr) (f : Nat → Int) (w : World) (hx : I64s w A len f) (_hkb : kb < 18446744073709551616) :
    Calls Tryd.prog 26 #[.int .i64 n, .int .u64 kb, .slice A len c] w fun e w' => e = .returned (.bool (faithB n kb len f)) ∧ Below w.heap.size w w' := by
  have HX := Lib.hid hx
  clear hx
  by_cases h0 : n < 0
  · have hd1 : decide (n < 0) = true := decide_eq_true h0
    have HE := Lib.hid (show faithB n kb len f = false by unfold faithB; rw [show tblErr n len = 2 from if_neg (by omega)]; rfl)
    clear h0
    go_enter Tryd.func26, Tryd.ntmps26
    go_wp2
    go_ret
    exact ⟨by rw [HE.out]; rfl, Below.refl _ _⟩
  · have hd1 : decide (n < 0) = false := decide_eq_false h0
    by_cases h3 : 3 < n
    · have hd2 : decide (3 < n) = true := decide_eq_true h3
      have HE := Lib.hid (show faithB n kb len f = false by unfold faithB; rw [show tblErr n len = 2 from if_neg (by omega)]; rfl)
      clear h0 h3
      go_enter Tryd.func26, Tryd.ntmps26
      go_wp2
      go_ret
      exact ⟨by rw [HE.out]; rfl, Below.refl _ _⟩
    · have hd2 : decide (3 < n) = false := decide_eq_false h3
      obtain ⟨k, rfl⟩ : ∃ k : Nat, n = k := ⟨n.toNat, by omega⟩
      have hk : k ≤ 3 := by omega
      obtain ⟨N, hN⟩ : ∃ N, N = 2 ^ k := ⟨_, rfl⟩
      obtain ⟨S, hS⟩ : ∃ S, S = 2 ^ N := ⟨_, rfl⟩
      have hSk : S = 2 ^ 2 ^ k := by rw [hS, hN]
      have hS2 := sets_le hk hSk
      have hN8 : N ≤ 8 := by rw [hN]; exact Nat.le_trans (Nat.pow_le_pow_right (by decide) hk) (by decide)
      have HN := Lib.hid hN
      have HS := Lib.hid hS
      by_cases hb : kb < S
      · have hd3 : decide (S ≤ kb) = false := decide_eq_false (by omega)
        by_cases hlN : len = N
        · have h1 : ((len : Int) != (N : Int)) = false := by rw [hlN]; simp
          have hE : faithB k kb len f = (kb == 0 || kb == tabF f N (S - 1)) := by
            unfold faithB
            rw [show tblErr k len = 0 by unfold tblErr; rw [if_pos (by omega), if_pos (by rw [hlN, hN]; rfl)], show setsZ k = S from hSk.symm, show (2:Nat) ^ (k : Int).toNat = N from hN.symm, decide_eq_true hb]
            rfl
          have hSm : (S : Int) - 1 = ((S - 1 : Nat) : Int) := by omega
          cases hk0 : (kb == 0)
          · have hk0' : ((kb : Int) == 0) = false := by rw [eq0_nat, hk0]
            rw [hk0, Bool.false_or, show (kb == tabF f N (S - 1)) = (tabF f N (S - 1) == kb) from Bool.beq_comm ..] at hE
            have HE := Lib.hid hE
            have hLE := Lib.hid (fun w (h : I64s w A len f) => rleast_any A len c (S - 1) f w h (by omega) (by omega))
            subst hlN
            clear hE h0 h3 hk0 hN hS hSk hb
            go_enter Tryd.func26, Tryd.ntmps26
            go_wp2_with (first | (go_at_call 32; refine (rsets_below k len S _ hk HN.out HS.out).mono ?_; rintro e w1 ⟨rfl, hst⟩; have HB := Lib.hid hst; clear hst) | (go_at_call 40; refine (hLE.out _ (HX.out.below HB.out)).mono ?_; rintro e w2 ⟨rfl, hst⟩; have HB := Lib.hid (HB.out.trans (hst.mono HB.out.size)); clear hst))
            go_ret
            exact ⟨by rw [HE.out, ← eq_nat]; rfl, HB.out⟩
          · have hk0' : ((kb : Int) == 0) = true := by rw [eq0_nat, hk0]
            rw [hk0] at hE
            have HE := Lib.hid hE
            clear hE h0 h3 hk0 hN hS hSk hlN hb
            go_enter Tryd.func26, Tryd.ntmps26
            go_wp2_with (first | (go_at_call 32; refine (rsets_below k N S _ hk HN.out HS.out).mono ?_; rintro e w1 ⟨rfl, hst⟩; have HB := Lib.hid hst; clear hst))
            go_ret
            exact ⟨by rw [HE.out]; rfl, HB.out⟩
        · have h1 : ((len : Int) != (N : Int)) = true := by rw [bne_iff_ne]; omega
          have HE := Lib.hid (show faithB k kb len f = false by unfold faithB; rw [show tblErr k len = 3 by unfold tblErr; rw [if_pos (by omega), if_neg (by rw [show (2:Nat) ^ (k : Int).toNat = N from hN.symm]; exact hlN)]]; rfl)
          clear h0 h3 hN hS hSk hlN hb
          go_enter Tryd.func26, Tryd.ntmps26
          go_wp2_with (first | (go_at_call 32; refine (rsets_below k N S _ hk HN.out HS.out).mono ?_; rintro e w1 ⟨rfl, hst⟩; have HB := Lib.hid hst; clear hst))
          go_ret
          exact ⟨by rw [HE.out]; rfl, HB.out⟩
      · have hd3 : decide (S ≤ kb) = true := decide_eq_true (by omega)
        have HE := Lib.hid (show faithB k kb len f = false by unfold faithB; rw [show setsZ k = S from hSk.symm, decide_eq_false hb, Bool.and_false]; rfl)
        clear h0 h3 hN hS hSk hb
        go_enter Tryd.func26, Tryd.ntmps26
        go_wp2_with (first | (go_at_call 32; refine (rsets_below k N S _ hk HN.out HS.out).mono ?_; rintro e w1 ⟨rfl, hst⟩; have HB := Lib.hid hst; clear hst))
        go_ret
        exact ⟨by rw [HE.out]; rfl, HB.out⟩
end Go.Proofs.YtflhngmfcpeamaaDoor
