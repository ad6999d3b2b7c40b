/-
  Walks: ranked; the laws RevisionPostulates, RevisionOrdered, RevisionSame.
-/
import Derived.Test.YtnilfpcipclagaaProg
import Derived.Test.YtnilfpcipclagaaBase
import Derived.Test.YtnilfpcipclagaaRow
import Derived.Test.YtnilfpcipclagaaRowsOf
import Derived.Test.YtnilfpcipclagaaOpenW
import Derived.Test.YtnilfpcipclagaaTail
import Derived.Test.YtnilfpcipclagaaLeast
import Derived.Test.YtnilfpcipclagaaRkP
import Derived.Test.YtnilfpcipclagaaRkQ
import Derived.Test.YtnilfpcipclagaaRkA
import Derived.Test.YtnilfpcipclagaaRkB
import Derived.Test.YtnilfpcipclagaaRkD
import Derived.Test.YtnilfpcipclagaaRkC
import Derived.Test.YtnilfpcipclagaaRkR
import Derived.Test.YtnilfpcipclagaaRkT
import Derived.Test.YtnilfpcipclagaaRkU
import Derived.Test.YtnilfpcipclagaaRkK
import Derived.Test.YtnilfpcipclagaaRkL
namespace Go.Proofs.Ytnilfpcipclagaa
open Go.RowKit

/-! ### small kinds -/
theorem ofInt_u8 (a : Nat) (ha : a < 256) : (BitVec.ofInt 8 (a : Int)).toNat = a := by
  rw [BitVec.ofInt_natCast, BitVec.toNat_ofNat]; exact Nat.mod_eq_of_lt (by omega)
theorem u8_and (a b : Nat) (ha : a < 256) (hb : b < 256) : bits .and .u8 (a : Int) (b : Int) = ((a &&& b : Nat) : Int) := by
  have hx : a &&& b < 256 := Nat.lt_of_le_of_lt Nat.and_le_left ha
  show IntKind.u8.wrap ((BitVec.ofInt 8 (a : Int) &&& BitVec.ofInt 8 (b : Int)).toNat : Int) = _
  rw [BitVec.toNat_and, ofInt_u8 a ha, ofInt_u8 b hb]
  show ((a &&& b : Nat) : Int) % 256 = _
  omega
theorem ofInt_u16 (a : Nat) (ha : a < 65536) : (BitVec.ofInt 16 (a : Int)).toNat = a := by
  rw [BitVec.ofInt_natCast, BitVec.toNat_ofNat]; exact Nat.mod_eq_of_lt (by omega)
theorem u16_and (a b : Nat) (ha : a < 65536) (hb : b < 65536) : bits .and .u16 (a : Int) (b : Int) = ((a &&& b : Nat) : Int) := by
  have hx : a &&& b < 65536 := Nat.lt_of_le_of_lt Nat.and_le_left ha
  show IntKind.u16.wrap ((BitVec.ofInt 16 (a : Int) &&& BitVec.ofInt 16 (b : Int)).toNat : Int) = _
  rw [BitVec.toNat_and, ofInt_u16 a ha, ofInt_u16 b hb]
  show ((a &&& b : Nat) : Int) % 65536 = _
  omega
theorem mod2_test (s v : Nat) : (((s / 2 ^ v &&& 1 : Nat) : Int) == 1) = s.testBit v := by
  rw [Nat.and_one_is_mod, Nat.testBit_eq_decide_div_mod_eq]
  by_cases h : s / 2 ^ v % 2 = 1
  · rw [h]; rfl
  · have h0 : s / 2 ^ v % 2 = 0 := by omega
    rw [h0]; rfl
theorem u8_has (s v : Nat) (hs : s < 256) : (bits .and .u8 ((s : Int) / 2 ^ v) 1 == 1) = s.testBit v := by
  have hlt : s / 2 ^ v < 256 := Nat.lt_of_le_of_lt (Nat.div_le_self _ _) hs
  rw [natCast_shr, show (1 : Int) = ((1 : Nat) : Int) from rfl, u8_and _ _ hlt (by decide)]
  exact mod2_test s v
theorem u16_has (s v : Nat) (hs : s < 65536) : (bits .and .u16 ((s : Int) / 2 ^ v) 1 == 1) = s.testBit v := by
  have hlt : s / 2 ^ v < 65536 := Nat.lt_of_le_of_lt (Nat.div_le_self _ _) hs
  rw [natCast_shr, show (1 : Int) = ((1 : Nat) : Int) from rfl, u16_and _ _ hlt (by decide)]
  exact mod2_test s v

/-! ### ranked -/
def rkF (n : Nat) (f : Nat → Nat) (v : Nat) : Nat := if v < n then f v else 0
set_option maxHeartbeats 2000000 in
theorem ranked_any (k N n c : Nat) (A : Option Addr) (f : Nat → Nat) (w : World) (hx : U8s w A n f) (hn : n ≤ 9223372036854775807) (hk : k ≤ 4) (hN : N = 2 ^ k) :
    Calls Try.prog 34 #[.int .i64 k, .slice A n c] w (RdPost0 N (rkF n f) w) := by
  have hw := wrap_pow hN (by omega)
  have hN16 := pow_le16 hN hk
  have HX := Lib.hid hx
  clear hx hN
  obtain ⟨i0, hi, hz0, hz1, hz2⟩ := info_parts Try.infoInt
  go_enter Try.func34, Try.ntmps34
  go_wp2
  go_loopw [5, 6] (fun o iv wr => ∃ v : Nat, v ≤ N ∧ iv = .int .i64 v ∧ wr.ownsRow w.heap.size 3 1 o v (i64L (rkF n f) v) ∧ Below w.heap.size w wr) (fun _ iv _ => N - (intOf iv).toNat)
  case atStart => exact ⟨0, Nat.zero_le _, rfl, World.ownsRow_nil _ _ _ _, Below.refl _ _⟩
  case round =>
    obtain ⟨v, hv, rfl, hown, hbl⟩ := hrel
    have hsz1 := hbl.size
    by_cases hlt : v < N
    · by_cases hvn : v < n
      · obtain ⟨b, off, rfl, hcx, hx1⟩ := HX.out.below hbl v hvn
        have HS := Lib.hid (show rkF n f v = f v from if_pos hvn)
        obtain ⟨x, ex⟩ : ∃ x, x = f v := ⟨_, rfl⟩
        rw [← ex] at hcx hx1 HS
        have hvb : decide ((v : Int) < (n : Int)) = true := decide_eq_true (by omega)
        clear ex
        go_wp2_with (at_builtin; refine wpList_append_own _ rfl _ _ 22 rfl w.heap.size 3 i0 (.int .i64 0) 1 8 Try.underlying22 hi hz0 hz1 hz2 rfl (by decide) _ _ _ rfl (hown.alloc _) ⟨_, 0, none⟩ 1 1 [.int .i64 x] rfl rfl (cell_one_new _ _ _) (one_oneCell rfl) (by unfold maxLen; omega) (by omega) (by simp; omega) ?_; intro v' w3 hown' hgrow _)
        go_roundw
        case rel => exact ⟨v + 1, by omega, by go_num, by rw [i64L_succ, HS.out]; exact hown', (hbl.alloc hsz1 _).grown hgrow (by simp; omega) (fun k hk => (hown.lt k hk).1)⟩
        case measure => simp [intOf]; omega
      · have HS := Lib.hid (show rkF n f v = 0 from if_neg hvn)
        have hvb : decide ((v : Int) < (n : Int)) = false := decide_eq_false (by omega)
        go_wp2_with (at_builtin; refine wpList_append_own _ rfl _ _ 22 rfl w.heap.size 3 i0 (.int .i64 0) 1 8 Try.underlying22 hi hz0 hz1 hz2 rfl (by decide) _ _ _ rfl (hown.alloc _) ⟨_, 0, none⟩ 1 1 [.int .i64 0] rfl rfl (cell_one_new _ _ _) (one_oneCell rfl) (by unfold maxLen; omega) (by omega) (by simp; omega) ?_; intro v' w3 hown' hgrow _)
        go_roundw
        case rel => exact ⟨v + 1, by omega, by go_num, by rw [i64L_succ, HS.out]; exact hown', (hbl.alloc hsz1 _).grown hgrow (by simp; omega) (fun k hk => (hown.lt k hk).1)⟩
        case measure => simp [intOf]; omega
    · obtain rfl : v = N := by omega
      have hle : ∀ u, u < v → rkF n f u < 256 := fun u hu => by
        unfold rkF
        by_cases h : u < n
        · rw [if_pos h]; obtain ⟨_, _, _, _, h⟩ := HX.out u h; exact h
        · rw [if_neg h]; decide
      obtain ⟨A2, c2, rfl, hi64⟩ := own_i64s hown (fun u hu => by have := hle u hu; omega)
      have HI := Lib.hid hi64
      have HB := Lib.hid hbl
      clear hown hbl hi64 hle hsz1
      go_wp2_with fail
      go_ret
      exact ⟨_, _, rfl, HI.out, HB.out⟩
theorem rkF_lt {w : World} {A : Option Addr} {n : Nat} {f : Nat → Nat} (hx : U8s w A n f) (u : Nat) : rkF n f u < 256 := by
  unfold rkF
  by_cases h : u < n
  · rw [if_pos h]; obtain ⟨_, _, _, _, h⟩ := hx u h; exact h
  · rw [if_neg h]; decide
/-- Ranks below 256, as numbers. -/
def gI (g : Nat → Nat) : Nat → Int := fun u => (g u : Int)
/-- Ranks of three facts that a call has made. -/
def Rk3 (N : Nat) (g : Nat → Nat) (w : World) (e : Ending) (w' : World) : Prop :=
  ∃ A c, e = .returned (.slice A N c) ∧ I64s w' A N (gI g) ∧ Below w.heap.size w w'
theorem ranked3 (n c : Nat) (A : Option Addr) (f : Nat → Nat) (w : World) (hx : U8s w A n f) (hn : n ≤ 9223372036854775807) :
    Calls Try.prog 34 #[.int .i64 3, .slice A n c] w (Rk3 8 (rkF n f) w) := ranked_any 3 8 n c A f w hx hn (by decide) (by decide)
theorem ranked4 (n c : Nat) (A : Option Addr) (f : Nat → Nat) (w : World) (hx : U8s w A n f) (hn : n ≤ 9223372036854775807) :
    Calls Try.prog 34 #[.int .i64 4, .slice A n c] w (Rk3 16 (rkF n f) w) := ranked_any 4 16 n c A f w hx hn (by decide) (by decide)
theorem err3 {g : Nat → Nat} (hg : ∀ u, g u < 256) : revErr (3 : Nat) 8 (gI g) = 0 := revErr_of (by decide) (by decide) fun i _ => by have := hg i; unfold gI; omega
theorem err4 {g : Nat → Nat} (hg : ∀ u, g u < 256) : revErr (4 : Nat) 16 (gI g) = 0 := revErr_of (by decide) (by decide) fun i _ => by have := hg i; unfold gI; omega
theorem bel3 (c : Nat) (A : Option Addr) (f : Nat → Int) (w : World) (h : I64s w A 8 f) (hr : revErr (3 : Nat) 8 f = 0) :
    Calls Try.prog 21 #[.int .i64 3, .slice A 8 c] w fun e w' => e = .returned (.tuple #[.int .u64 (lst 8 f 255 : Nat), .int .i64 0]) ∧ w = w' := by
  have h := Belief_any (3 : Nat) 8 c A f w h (by decide)
  rw [hr, show belV (3 : Nat) 8 f = lst 8 f 255 from if_pos hr] at h; exact h
theorem rev3 (c s : Nat) (A : Option Addr) (f : Nat → Int) (w : World) (h : I64s w A 8 f) (hr : revErr (3 : Nat) 8 f = 0) (hs : s < 256) :
    Calls Try.prog 23 #[.int .i64 3, .slice A 8 c, .int .u64 s] w fun e w' => e = .returned (.tuple #[.int .u64 (lst 8 f s : Nat), .int .i64 0]) ∧ w = w' := by
  have h := Revise_any (3 : Nat) 8 c s A f w h (by decide) (by omega)
  have he : rvsErr (3 : Nat) 8 f s = 0 := by unfold rvsErr; rw [if_pos hr, if_pos (by omega)]
  rw [he, show rvsV (3 : Nat) 8 f s = lst 8 f s from if_pos he] at h; exact h
theorem rev4 (c s : Nat) (A : Option Addr) (f : Nat → Int) (w : World) (h : I64s w A 16 f) (hr : revErr (4 : Nat) 16 f = 0) (hs : s < 65536) :
    Calls Try.prog 23 #[.int .i64 4, .slice A 16 c, .int .u64 s] w fun e w' => e = .returned (.tuple #[.int .u64 (lst 16 f s : Nat), .int .i64 0]) ∧ w = w' := by
  have h := Revise_any (4 : Nat) 16 c s A f w h (by decide) (by omega)
  have he : rvsErr (4 : Nat) 16 f s = 0 := by unfold rvsErr; rw [if_pos hr, if_pos (by omega)]
  rw [he, show rvsV (4 : Nat) 16 f s = lst 16 f s from if_pos he] at h; exact h
theorem can3 (c : Nat) (A : Option Addr) (f : Nat → Int) (w : World) (h : I64s w A 8 f) (hr : revErr (3 : Nat) 8 f = 0) :
    Calls Try.prog 16 #[.int .i64 3, .slice A 8 c] w fun e w' => ∃ A2 c2, e = .returned (.tuple #[.slice A2 8 c2, .int .i64 0]) ∧ I64s w' A2 8 (gI (canF 8 f)) ∧ Below w.heap.size w w' := by
  have h := Canonical_slc (3 : Nat) 8 c A f w h (by decide)
  rw [hr] at h; exact h
theorem lst_lt8 (f : Nat → Int) (s : Nat) : lst 8 f s < 18446744073709551616 := Nat.lt_trans (lst_lt 8 f s) (by decide)

set_option maxHeartbeats 8000000 in
theorem postulates_core (n c x y : Nat) (A : Option Addr) (f : Nat → Nat) (w : World) (hl : U8s w A n f) (hn : n ≤ 9223372036854775807) (hx : x < 256) (hy : y < 256) :
    Calls Try.prog 7 #[.slice A n c, .int .u8 x, .int .u8 y] w fun e w' => e = .returned (.bool true) ∧ Below w.heap.size w w' := by
  have HB := Lib.hid (Below.refl w.heap.size w)
  have HRK := Lib.hid (ranked3 n c A f w hl hn)
  have hr := err3 (rkF_lt hl)
  obtain ⟨g, eg⟩ : ∃ g, g = rkF n f := ⟨_, rfl⟩
  rw [← eg] at HRK hr
  have HR := Lib.hid hr
  have hxy := u8_and x y hx hy
  obtain ⟨z, ez⟩ : ∃ z, z = x &&& y := ⟨_, rfl⟩
  rw [← ez] at hxy
  have hz : z < 256 := by rw [ez]; exact Nat.lt_of_le_of_lt Nat.and_le_left hx
  obtain ⟨B, eB⟩ : ∃ B, B = lst 8 (gI g) 255 := ⟨_, rfl⟩
  obtain ⟨S, eS⟩ : ∃ S, S = lst 8 (gI g) x := ⟨_, rfl⟩
  obtain ⟨U, eU⟩ : ∃ U, U = lst 8 (gI g) z := ⟨_, rfl⟩
  obtain ⟨D, eD⟩ : ∃ D, D = B &&& x := ⟨_, rfl⟩
  obtain ⟨F, eF⟩ : ∃ F, F = S &&& y := ⟨_, rfl⟩
  have hB0 : ((B : Int) == 0) = false := by
    have : B ≠ 0 := by rw [eB]; exact lst_bel_ne 8 (gI g) (by decide)
    rw [beq_eq_false_iff_ne]; omega
  have hSx : bits .andNot .u64 (S : Int) (x : Int) = 0 := by
    rw [bits_andNot S x (by rw [eS]; exact lst_lt8 _ _) (by omega), (andNot_eq_zero (by rw [eS]; exact lst_lt8 _ _) (by omega)).2 (fun i hi => by rw [eS] at hi; exact lst_sub hi)]; rfl
  have hBx : bits .and .u64 (B : Int) (x : Int) = (D : Int) := by rw [u64_and_nat _ _ (by rw [eB]; exact lst_lt8 _ _) (by omega), eD]
  have hSy : bits .and .u64 (S : Int) (y : Int) = (F : Int) := by rw [u64_and_nat _ _ (by rw [eS]; exact lst_lt8 _ _) (by omega), eF]
  have hS0 : x ≠ 0 → S ≠ 0 := fun h => by rw [eS]; exact lst_ne (by omega) h
  have hSD : D ≠ 0 → S = D := fun h => by
    rw [eD, eB] at h
    rw [eS, eD, eB]; exact lst_full (by omega) h
  have hUF : F ≠ 0 → U = F := fun h => by
    rw [eF, eS] at h
    rw [eU, eF, eS, ez]; exact lst_inter h
  have HC1 := Lib.hid (fun W A c (h : I64s W A 8 (gI g)) => bel3 c A (gI g) W h HR.out)
  have HC2 := Lib.hid (fun W A c (h : I64s W A 8 (gI g)) => rev3 c x A (gI g) W h HR.out hx)
  have HC3 := Lib.hid (fun W A c (h : I64s W A 8 (gI g)) => rev3 c z A (gI g) W h HR.out hz)
  rw [← eB] at HC1
  rw [← eS] at HC2
  rw [← eU] at HC3
  clear hl hr eg ez eB eS eU eD eF
  have hx0 : ((x : Int) != 0) = false ∨ (((x : Int) != 0) = true ∧ ((S : Int) == 0) = false) := by
    by_cases h : x = 0
    · left; rw [h]; rfl
    · right; have := hS0 h
      exact ⟨by rw [bne_iff_ne]; omega, by rw [beq_eq_false_iff_ne]; omega⟩
  have hD : ((D : Int) != 0) = false ∨ (((D : Int) != 0) = true ∧ ((S : Int) != (D : Int)) = false) := by
    by_cases h : D = 0
    · left; rw [h]; rfl
    · right; have := hSD h
      exact ⟨by rw [bne_iff_ne]; omega, by rw [this]; simp⟩
  have hF : ((F : Int) == 0) = true ∨ (((F : Int) == 0) = false ∧ ((U : Int) == (F : Int)) = true) := by
    by_cases h : F = 0
    · left; rw [h]; rfl
    · right; have := hUF h
      exact ⟨by rw [beq_eq_false_iff_ne]; omega, by rw [this]; simp⟩
  have HX0 := Lib.hid hx0
  have HD := Lib.hid hD
  have HF := Lib.hid hF
  clear hS0 hSD hUF hx0 hD hF
  go_enter Try.func7, Try.ntmps7
  go_wp2_with fail
  refine HRK.out.mono ?_
  rintro e w1 ⟨A1, c1, rfl, hi, hst⟩
  have HB := Lib.hid (HB.out.trans (hst.mono HB.out.size))
  have HI := Lib.hid hi
  clear hi hst
  go_wp2_with fail
  refine (HC1.out _ _ _ HI.out).mono ?_
  rintro e w' ⟨rfl, rfl⟩
  go_wp2_with fail
  refine (HC2.out _ _ _ HI.out).mono ?_
  rintro e w' ⟨rfl, rfl⟩
  go_wp2_with fail
  refine (HC3.out _ _ _ HI.out).mono ?_
  rintro e w' ⟨rfl, rfl⟩
  rcases HX0.out with h1 | ⟨h1, h2⟩
  all_goals rcases HD.out with h3 | ⟨h3, h4⟩
  all_goals rcases HF.out with h5 | ⟨h5, h6⟩
  all_goals go_wp2_with (go_at_call 15; refine (awake_any _).mono ?_; rintro e w2 ⟨rfl, hst⟩; have HB := Lib.hid (HB.out.trans (hst.mono HB.out.size)); clear hst)
  all_goals go_ret
  all_goals exact ⟨rfl, HB.out⟩

set_option maxHeartbeats 8000000 in
theorem ordered_core (n c x y : Nat) (A : Option Addr) (f : Nat → Nat) (w : World) (hl : U8s w A n f) (hn : n ≤ 9223372036854775807) (hx : x < 256) (hy : y < 256) :
    Calls Try.prog 8 #[.slice A n c, .int .u8 x, .int .u8 y] w fun e w' => e = .returned (.bool true) ∧ Below w.heap.size w w' := by
  have HB := Lib.hid (Below.refl w.heap.size w)
  have HRK := Lib.hid (ranked4 n c A f w hl hn)
  have hr := err4 (rkF_lt hl)
  have hgl := Lib.hid (rkF_lt hl)
  obtain ⟨g, eg⟩ : ∃ g, g = rkF n f := ⟨_, rfl⟩
  rw [← eg] at HRK hr hgl
  have HR := Lib.hid hr
  obtain ⟨u, eu⟩ : ∃ u, u = x % 16 := ⟨_, rfl⟩
  obtain ⟨v, ev⟩ : ∃ v, v = y % 16 := ⟨_, rfl⟩
  have hu : u < 16 := by omega
  have hv : v < 16 := by omega
  have hxu : (x : Int) % 16 = (u : Int) := by omega
  have hyv : (y : Int) % 16 = (v : Int) := by omega
  obtain ⟨P, hP⟩ : ∃ P : Nat, P = 2 ^ u := ⟨_, rfl⟩
  obtain ⟨Q, hQ⟩ : ∃ Q : Nat, Q = 2 ^ v := ⟨_, rfl⟩
  have hPl : P < 65536 := by rw [hP]; exact Nat.pow_lt_pow_right (n := 16) (by decide) hu
  have hQl : Q < 65536 := by rw [hQ]; exact Nat.pow_lt_pow_right (n := 16) (by decide) hv
  have hsP := shl_one hP (by omega)
  have hsQ := shl_one hQ (by omega)
  have hor : bits .or .u64 (P : Int) (Q : Int) = ((P ||| Q : Nat) : Int) := u64_or_nat _ _ (by omega) (by omega)
  obtain ⟨O, eO⟩ : ∃ O, O = P ||| Q := ⟨_, rfl⟩
  rw [← eO] at hor
  have hOl : O < 65536 := by rw [eO]; exact Nat.or_lt_two_pow (n := 16) hPl hQl
  obtain ⟨S, eS⟩ : ∃ S, S = lst 16 (gI g) O := ⟨_, rfl⟩
  have hSl : S < 18446744073709551616 := by rw [eS]; exact Nat.lt_trans (lst_lt _ _ _) (by decide)
  obtain ⟨p1, p2⟩ := lst_pair (f := gI g) hu hv
  rw [← hP, ← hQ, ← eO, ← eS] at p1 p2
  obtain ⟨a, ea⟩ : ∃ a, a = g u := ⟨_, rfl⟩
  obtain ⟨b, eb⟩ : ∃ b, b = g v := ⟨_, rfl⟩
  have ha : a < 256 := by rw [ea]; exact hgl.out u
  have hb : b < 256 := by rw [eb]; exact hgl.out v
  obtain ⟨b1, e1⟩ : ∃ b1, b1 = decide ((a : Int) ≤ (b : Int)) := ⟨_, rfl⟩
  obtain ⟨b2, e2⟩ : ∃ b2, b2 = decide ((b : Int) ≤ (a : Int)) := ⟨_, rfl⟩
  have hbit1 := bits_has' S u hSl (by omega)
  have hbit2 := bits_has' S v hSl (by omega)
  rw [p1, show decide (gI g u ≤ gI g v) = b1 by rw [e1, ea, eb]; rfl] at hbit1
  rw [p2, show decide (gI g v ≤ gI g u) = b2 by rw [e2, ea, eb]; rfl] at hbit2
  have HC := Lib.hid (fun W A c (h : I64s W A 16 (gI g)) => rev4 c O A (gI g) W h HR.out hOl)
  rw [← eS] at HC
  have hcu : ∀ (W : World) (A : Option Addr), I64s W A 16 (gI g) → ∃ bb off, A = some ⟨bb, off, none⟩ ∧ W.cell? ⟨bb, off + u, none⟩ = some (.int .i64 a) ∧ W.cell? ⟨bb, off + v, none⟩ = some (.int .i64 b) := fun W A h => by
    obtain ⟨bb, off, rfl, h1, -⟩ := h u hu
    obtain ⟨bb2, off2, e, h2, -⟩ := h v hv
    injection e with e
    injection e with e1 e2
    subst e1 e2
    exact ⟨bb, off, rfl, by rw [ea]; exact h1, by rw [eb]; exact h2⟩
  have HCU := Lib.hid hcu
  have E1 := Lib.hid e1
  have E2 := Lib.hid e2
  clear hl hr eg eu ev hP hQ eO eS p1 p2 ea eb hcu hgl e1 e2
  go_enter Try.func8, Try.ntmps8
  go_wp2_with fail
  refine HRK.out.mono ?_
  rintro e w1 ⟨A1, c1, rfl, hi, hst⟩
  have HB := Lib.hid (HB.out.trans (hst.mono HB.out.size))
  have HI := Lib.hid hi
  clear hi hst
  go_wp2_with fail
  refine (HC.out _ _ _ HI.out).mono ?_
  rintro e w' ⟨rfl, rfl⟩
  obtain ⟨bb, off, rfl, hca, hcb⟩ := HCU.out _ _ HI.out
  go_wp2_with fail
  have e1 := E1.out
  have e2 := E2.out
  cases b1
  · cases b2
    · have : ¬ (a : Int) ≤ (b : Int) := by rw [← decide_eq_false_iff_not]; exact e1.symm
      have : ¬ (b : Int) ≤ (a : Int) := by rw [← decide_eq_false_iff_not]; exact e2.symm
      omega
    · have h1 : decide (a ≤ b) = false := by have := e1.symm; simpa using this
      have h2 : decide (b ≤ a) = true := by have := e2.symm; simpa using this
      clear e1 e2
      refine wp_region_quiet_tail 39 (by kernel_rfl) (by kernel_rfl) ?_
      simp only [List.take_succ_cons, List.take_zero, List.drop_succ_cons, List.drop_zero]
      repeat (go_big_quiet_step (fail))
      refine wpQuiet_nil ?_
      generalize hV : w1.drew = V
      have HB : Hid (Below w.heap.size w V) := by rw [← hV]; exact Lib.hid (below_drewN HB.out 1)
      clear hV hca hcb
      go_wp2_with (go_at_call 15; refine (awake_any _).mono ?_; rintro e w2 ⟨rfl, hst⟩; have HB := Lib.hid (HB.out.trans (hst.mono HB.out.size)); clear hst)
      go_ret
      exact ⟨rfl, HB.out⟩
  · cases b2
    · have h1 : decide (a ≤ b) = true := by have := e1.symm; simpa using this
      have h2 : decide (b ≤ a) = false := by have := e2.symm; simpa using this
      clear e1 e2
      refine wp_region_quiet_tail 39 (by kernel_rfl) (by kernel_rfl) ?_
      simp only [List.take_succ_cons, List.take_zero, List.drop_succ_cons, List.drop_zero]
      repeat (go_big_quiet_step (fail))
      refine wpQuiet_nil ?_
      generalize hV : w1.drew = V
      have HB : Hid (Below w.heap.size w V) := by rw [← hV]; exact Lib.hid (below_drewN HB.out 1)
      clear hV hca hcb
      go_wp2_with (go_at_call 15; refine (awake_any _).mono ?_; rintro e w2 ⟨rfl, hst⟩; have HB := Lib.hid (HB.out.trans (hst.mono HB.out.size)); clear hst)
      go_ret
      exact ⟨rfl, HB.out⟩
    · have h1 : decide (a ≤ b) = true := by have := e1.symm; simpa using this
      have h2 : decide (b ≤ a) = true := by have := e2.symm; simpa using this
      clear e1 e2
      refine wp_region_quiet_tail 39 (by kernel_rfl) (by kernel_rfl) ?_
      simp only [List.take_succ_cons, List.take_zero, List.drop_succ_cons, List.drop_zero]
      repeat (go_big_quiet_step (fail))
      refine wpQuiet_nil ?_
      generalize hV : w1.drew = V
      have HB : Hid (Below w.heap.size w V) := by rw [← hV]; exact Lib.hid (below_drewN HB.out 1)
      clear hV hca hcb
      go_wp2_with (go_at_call 15; refine (awake_any _).mono ?_; rintro e w2 ⟨rfl, hst⟩; have HB := Lib.hid (HB.out.trans (hst.mono HB.out.size)); clear hst)
      go_ret
      exact ⟨rfl, HB.out⟩

set_option maxHeartbeats 8000000 in
theorem same_core (n c x : Nat) (A : Option Addr) (f : Nat → Nat) (w : World) (hl : U8s w A n f) (hn : n ≤ 9223372036854775807) (hx : x < 256) :
    Calls Try.prog 9 #[.slice A n c, .int .u8 x] w fun e w' => e = .returned (.bool true) ∧ Below w.heap.size w w' := by
  have HB := Lib.hid (Below.refl w.heap.size w)
  have HRK := Lib.hid (ranked3 n c A f w hl hn)
  have hr := err3 (rkF_lt hl)
  obtain ⟨g, eg⟩ : ∃ g, g = rkF n f := ⟨_, rfl⟩
  rw [← eg] at HRK hr
  have HR := Lib.hid hr
  obtain ⟨h, eh⟩ : ∃ h, h = canF 8 (gI g) := ⟨_, rfl⟩
  have hrc : revErr (3 : Nat) 8 (gI h) = 0 := revErr_of (by decide) (by decide) fun i hi => by
    have := canF_lt (f := gI g) hi
    unfold gI; rw [eh]; omega
  have HRC := Lib.hid hrc
  obtain ⟨X, eX⟩ : ∃ X, X = lst 8 (gI g) x := ⟨_, rfl⟩
  have hXY : lst 8 (gI h) x = X := by rw [eX, eh]; exact least_can
  have HC1 := Lib.hid (fun W A c (h : I64s W A 8 (gI g)) => can3 c A (gI g) W h HR.out)
  rw [← eh] at HC1
  have HC2 := Lib.hid (fun W A c (h2 : I64s W A 8 (gI h)) => can3 c A (gI h) W h2 HRC.out)
  have HC3 := Lib.hid (fun W A c (h : I64s W A 8 (gI g)) => rev3 c x A (gI g) W h HR.out hx)
  have HC4 := Lib.hid (fun W A c (h2 : I64s W A 8 (gI h)) => rev3 c x A (gI h) W h2 HRC.out hx)
  rw [← eX] at HC3
  rw [hXY] at HC4
  have HEQ : Hid (eqI 8 8 (gI h) (gI (canF 8 (gI h))) = true) := Lib.hid (eqI_iff.2 ⟨rfl, fun i hi => by
    unfold gI
    rw [show canF 8 (fun u => (h u : Int)) i = canF 8 (fun u => (canF 8 (gI g) u : Int)) i by rw [eh], canF_idem hi, eh]⟩)
  clear hl hr eg eh hrc eX hXY
  go_enter Try.func9, Try.ntmps9
  go_wp2_with fail
  refine HRK.out.mono ?_
  rintro e w1 ⟨A1, c1, rfl, hi, hst⟩
  have HB := Lib.hid (HB.out.trans (hst.mono HB.out.size))
  have HI := Lib.hid hi
  clear hi hst
  go_wp2_with fail
  refine (HC1.out _ _ _ HI.out).mono ?_
  rintro e w2 ⟨A2, c2, rfl, hi, hst⟩
  have HB := Lib.hid (HB.out.trans (hst.mono HB.out.size))
  have HI := Lib.hid (HI.out.below hst)
  have HJ := Lib.hid hi
  clear hi hst
  go_wp2_with fail
  refine (HC2.out _ _ _ HJ.out).mono ?_
  rintro e w3 ⟨A3, c3, rfl, hi, hst⟩
  have HB := Lib.hid (HB.out.trans (hst.mono HB.out.size))
  have HI := Lib.hid (HI.out.below hst)
  have HJ := Lib.hid (HJ.out.below hst)
  have hs := same_any A2 A3 8 8 c2 c3 _ _ w3 HJ.out hi (by decide) (by decide)
  rw [HEQ.out] at hs
  have HS := Lib.hid hs
  clear hi hst hs
  go_wp2_with fail
  refine (HC3.out _ _ _ HI.out).mono ?_
  rintro e w' ⟨rfl, rfl⟩
  go_wp2_with fail
  refine (HC4.out _ _ _ HJ.out).mono ?_
  rintro e w' ⟨rfl, rfl⟩
  go_wp2_with (first | (go_at_call 20; refine HS.out.mono ?_; rintro e w2 ⟨rfl, hst⟩; have HB := Lib.hid (HB.out.trans (hst.mono HB.out.size)); clear hst) | (go_at_call 15; refine (awake_any _).mono ?_; rintro e w2 ⟨rfl, hst⟩; have HB := Lib.hid (HB.out.trans (hst.mono HB.out.size)); clear hst))
  go_ret
  exact ⟨rfl, HB.out⟩
end Go.Proofs.Ytnilfpcipclagaa
