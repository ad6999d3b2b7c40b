/-
  Walks: the laws RevisionChecks, RevisionRevises, RevisionTables, RevisionDalal.
-/
import Derived.Test.YtnilfpcipclagaaProg
import Derived.Test.YtnilfpcipclagaaBase
import Derived.Test.YtnilfpcipclagaaRow
import Derived.Test.YtnilfpcipclagaaRowU
import Derived.Test.YtnilfpcipclagaaLeast
import Derived.Test.YtnilfpcipclagaaRkP
import Derived.Test.YtnilfpcipclagaaRkQ
import Derived.Test.YtnilfpcipclagaaRkA
import Derived.Test.YtnilfpcipclagaaRkB
import Derived.Test.YtnilfpcipclagaaRkD
import Derived.Test.YtnilfpcipclagaaRkC
import Derived.Test.YtnilfpcipclagaaRkR
import Derived.Test.YtnilfpcipclagaaRkT
import Derived.Test.YtnilfpcipclagaaRkU
import Derived.Test.YtnilfpcipclagaaRkK
namespace Go.Proofs.Ytnilfpcipclagaa
open Go.RowKit

/-- A slice of m ints, and an error. -/
def SlcPost (E m : Nat) (g : Nat → Nat) (w : World) (e : Ending) (w' : World) : Prop :=
  ∃ A c, e = .returned (.tuple #[.slice A m c, .int .i64 (E : Nat)]) ∧ I64s w' A m (fun u => (g u : Int)) ∧ Below w.heap.size w w'
def cM (E len : Nat) : Nat := if E = 0 then len else 0
theorem cM_le (E len : Nat) : cM E len ≤ len := by unfold cM; split <;> omega
theorem slc_can {E N : Nat} {g : Nat → Nat} {w w' : World} {e : Ending} (h0 : E = 0) (hg : ∀ k, k < N → g k ≤ 1000) (h : CanPost N g w e w') : SlcPost E (cM E N) g w e w' := by
  obtain ⟨B, rfl, hr, -, hb⟩ := h
  subst h0
  refine ⟨some ⟨B, 0, none⟩, N, rfl, fun u hu => ?_, hb⟩
  have hu' : u < N := hu
  have := hg u hu'
  exact ⟨B, 0, rfl, by rw [Nat.zero_add]; exact (hr u hu').1, by dsimp only; omega, by dsimp only; omega⟩
theorem slc_rd {E N : Nat} {g : Nat → Nat} {w w' : World} {e : Ending} (h0 : E = 0) (h : RdPost N g w e w') : SlcPost E (cM E N) g w e w' := by
  obtain ⟨A, c, rfl, hr, hb⟩ := h
  subst h0
  exact ⟨A, c, rfl, hr, hb⟩
theorem slc_err {E N : Nat} {g : Nat → Nat} {w w' : World} {e : Ending} (h0 : E ≠ 0) (h : e = .returned (.tuple #[.slice none 0 0, .int .i64 (E : Nat)]) ∧ Below w.heap.size w w') : SlcPost E (cM E N) g w e w' := by
  obtain ⟨rfl, hb⟩ := h
  have e0 : cM E N = 0 := if_neg h0
  rw [e0]
  exact ⟨none, 0, rfl, i64s_nil _ _ _, hb⟩
theorem below_of_eq {w w' : World} (h : w = w') : Below w.heap.size w w' := by subst h; exact Below.refl _ _
theorem Canonical_slc (n : Int) (len c : Nat) (A : Option Addr) (f : Nat → Int) (w : World) (hx : I64s w A len f) (hlen : len ≤ 9223372036854775807) :
    Calls Try.prog 16 #[.int .i64 n, .slice A len c] w (SlcPost (revErr n len f) (cM (revErr n len f) len) (canF len f) w) := by
  by_cases h0 : revErr n len f = 0
  · obtain ⟨k, rfl, hk, hN, -⟩ := revErr_ok h0
    have hl := pow_le16 hN hk
    exact (Canonical_in k len c A f w hx hk hN h0).mono fun e w' h => slc_can h0 (fun u hu => by have := canF_lt (f := f) hu; omega) h
  · exact (Canonical_err n len c A f w hx hlen h0).mono fun e w' h => slc_err h0 ⟨h.1, below_of_eq h.2⟩
theorem rCanonical_slc (n : Int) (len c : Nat) (A : Option Addr) (f : Nat → Int) (w : World) (hx : I64s w A len f) (hlen : len ≤ 9223372036854775807) :
    Calls Try.prog 17 #[.int .i64 n, .slice A len c] w (SlcPost (revErr n len f) (cM (revErr n len f) len) (canF len f) w) := by
  by_cases h0 : revErr n len f = 0
  · obtain ⟨k, rfl, hk, hN, -⟩ := revErr_ok h0
    exact (rCanonical_in k len c A f w hx hk hN h0).mono fun e w' h => slc_rd h0 h
  · exact (rCanonical_err n len c A f w hx hlen h0).mono fun e w' h => slc_err h0 ⟨h.1, below_of_eq h.2⟩
theorem Iterate_slc (n : Int) (len c s : Nat) (A : Option Addr) (f : Nat → Int) (w : World) (hx : I64s w A len f) (hlen : len ≤ 9223372036854775807) (hs : s < 18446744073709551616) :
    Calls Try.prog 25 #[.int .i64 n, .slice A len c, .int .u64 s] w (SlcPost (rvsErr n len f s) (cM (rvsErr n len f s) len) (iterF len s f) w) := by
  by_cases h0 : rvsErr n len f s = 0
  · obtain ⟨h1, h2⟩ := rvsErr_ok h0
    obtain ⟨k, rfl, hk, hN, -⟩ := revErr_ok h1
    have hl := pow_le16 hN hk
    exact (Iterate_in k len c s A f w hx hk hN h1 h2).mono fun e w' h => slc_can h0 (fun u hu => by have := iter_lt (s := s) (f := f) hu; omega) h
  · exact (Iterate_err n len c s A f w hx hlen hs h0).mono fun e w' h => slc_err h0 ⟨h.1, below_of_eq h.2⟩
theorem rIterate_slc (n : Int) (len c s : Nat) (A : Option Addr) (f : Nat → Int) (w : World) (hx : I64s w A len f) (hlen : len ≤ 9223372036854775807) (hs : s < 18446744073709551616) :
    Calls Try.prog 26 #[.int .i64 n, .slice A len c, .int .u64 s] w (SlcPost (rvsErr n len f s) (cM (rvsErr n len f s) len) (iterF len s f) w) := by
  by_cases h0 : rvsErr n len f s = 0
  · obtain ⟨h1, h2⟩ := rvsErr_ok h0
    obtain ⟨k, rfl, hk, hN, -⟩ := revErr_ok h1
    exact (rIterate_in k len c s A f w hx hk hN h1 h2).mono fun e w' h => slc_rd h0 h
  · exact (rIterate_err n len c s A f w hx hlen hs h0).mono fun e w' h => slc_err h0 h
def dLen (n : Int) : Nat := 2 ^ n.toNat
theorem Distances_slc (n : Int) (b : Nat) (w : World) (hb : b < 18446744073709551616) :
    Calls Try.prog 30 #[.int .i64 n, .int .u64 b] w (SlcPost (distErr n b) (cM (distErr n b) (dLen n)) (distF (dLen n) b) w) := by
  by_cases h0 : distErr n b = 0
  · obtain ⟨k, rfl, hk, hbk⟩ := distErr_ok h0
    refine (Distances_in k (dLen k) b w hk rfl hbk hb).mono fun e w' h => slc_can h0 (fun u _ => by have := distF_le (dLen k) b u; omega) ⟨_, h.1, h.2.1, Nat.le_refl _, h.2.2⟩
  · exact (Distances_err n b w hb h0).mono fun e w' h => slc_err h0 ⟨h.1, below_of_eq h.2⟩
theorem rDistances_slc (n : Int) (b : Nat) (w : World) (hb : b < 18446744073709551616) :
    Calls Try.prog 31 #[.int .i64 n, .int .u64 b] w (SlcPost (distErr n b) (cM (distErr n b) (dLen n)) (distF (dLen n) b) w) := by
  by_cases h0 : distErr n b = 0
  · obtain ⟨k, rfl, hk, hbk⟩ := distErr_ok h0
    exact (rDistances_in k (dLen k) b w hk rfl hbk hb).mono fun e w' h => slc_rd h0 h
  · exact (rDistances_err n b w hb h0).mono fun e w' h => slc_err h0 ⟨h.1, below_of_eq h.2⟩
/-- A slice of m uint64s, and an error. -/
def SluPost (E m : Nat) (g : Nat → Nat) (w : World) (e : Ending) (w' : World) : Prop :=
  ∃ A c, e = .returned (.tuple #[.slice A m c, .int .i64 (E : Nat)]) ∧ U64s w' A m g ∧ Below w.heap.size w w'
theorem tabE_ok {n : Int} {len : Nat} {f : Nat → Int} (h : tabE n len f = 0) : ∃ k : Nat, n = k ∧ k ≤ 3 ∧ len = 2 ^ k ∧ revErr n len f = 0 := by
  unfold tabE at h
  by_cases h1 : revErr n len f = 0
  · rw [if_pos h1] at h
    obtain ⟨k, rfl, hk, hN, -⟩ := revErr_ok h1
    by_cases h3 : (k : Int) ≤ 3
    · exact ⟨k, rfl, by omega, hN, h1⟩
    · rw [if_neg h3] at h; cases h
  · rw [if_neg h1] at h; exact absurd h h1
theorem lst_lt64 {N : Nat} {f : Nat → Int} (hN : N ≤ 8) (x : Nat) : lst N f x < 18446744073709551616 := Nat.lt_trans (lst_lt N f x) (pow_lt64 (by omega))
theorem Table_slu (n : Int) (len c : Nat) (A : Option Addr) (f : Nat → Int) (w : World) (hx : I64s w A len f) (hlen : len ≤ 9223372036854775807) :
    Calls Try.prog 27 #[.int .i64 n, .slice A len c] w (SluPost (tabE n len f) (cM (tabE n len f) (2 ^ len)) (lst len f) w) := by
  by_cases h0 : tabE n len f = 0
  · obtain ⟨k, rfl, hk, hN, hr⟩ := tabE_ok h0
    have hN8 : len ≤ 8 := by rw [hN]; exact Nat.le_trans (Nat.pow_le_pow_right (by decide) hk) (by decide)
    refine (Table_in k len (2 ^ len) c A f w hx hk hN rfl hr).mono ?_
    rintro e w' ⟨B, rfl, hrow, hb⟩
    rw [h0]
    exact ⟨_, _, rfl, hrow.u64s fun x _ => lst_lt64 hN8 x, hb⟩
  · refine (Table_err n len c A f w hx hlen h0).mono ?_
    rintro e w' ⟨rfl, rfl⟩
    rw [show cM (tabE n len f) (2 ^ len) = 0 from if_neg h0]
    exact ⟨_, _, rfl, u64s_nil _ _ _, Below.refl _ _⟩
theorem rTable_slu (n : Int) (len c : Nat) (A : Option Addr) (f : Nat → Int) (w : World) (hx : I64s w A len f) (hlen : len ≤ 9223372036854775807) :
    Calls Try.prog 28 #[.int .i64 n, .slice A len c] w (SluPost (tabE n len f) (cM (tabE n len f) (2 ^ len)) (lst len f) w) := by
  by_cases h0 : tabE n len f = 0
  · obtain ⟨k, rfl, hk, hN, hr⟩ := tabE_ok h0
    refine (rTable_in k len (2 ^ len) c A f w hx hk hN rfl hr).mono ?_
    rintro e w' ⟨A2, c2, rfl, hu, hb⟩
    rw [h0]
    exact ⟨_, _, rfl, hu, hb⟩
  · refine (rTable_err n len c A f w hx hlen h0).mono ?_
    rintro e w' ⟨rfl, rfl⟩
    rw [show cM (tabE n len f) (2 ^ len) = 0 from if_neg h0]
    exact ⟨_, _, rfl, u64s_nil _ _ _, Below.refl _ _⟩
theorem same_yes (A B : Option Addr) (n c d : Nat) (f : Nat → Int) (w : World) (hA : I64s w A n f) (hB : I64s w B n f) (hn : n ≤ 9223372036854775807) :
    Calls Try.prog 20 #[.slice A n c, .slice B n d] w fun e w' => e = .returned (.bool true) ∧ Below w.heap.size w w' := by
  have h := same_any A B n n c d f f w hA hB hn hn
  rw [eqI_iff.2 ⟨rfl, fun _ _ => rfl⟩] at h; exact h
theorem sameU_yes (A B : Option Addr) (n c d : Nat) (f : Nat → Nat) (w : World) (hA : U64s w A n f) (hB : U64s w B n f) (hn : n ≤ 9223372036854775807) :
    Calls Try.prog 29 #[.slice A n c, .slice B n d] w fun e w' => e = .returned (.bool true) ∧ Below w.heap.size w w' := by
  have h := sameU_any A B n n c d f f w hA hB hn hn
  rw [eqU_iff.2 ⟨rfl, fun _ _ => rfl⟩] at h; exact h

set_option maxHeartbeats 4000000 in
theorem checks_core (n : Int) (len c : Nat) (A : Option Addr) (f : Nat → Int) (w : World) (hx : I64s w A len f) :
    Calls Try.prog 3 #[.int .i64 n, .slice A len c] w fun e w' => e = .returned (.bool true) ∧ Below w.heap.size w w' := by
  have HB := Lib.hid (Below.refl w.heap.size w)
  by_cases h40 : 40 < len
  · have hd : decide (40 < (len : Int)) = true := decide_eq_true (by omega)
    clear h40 hx
    go_enter Try.func3, Try.ntmps3
    go_wp2_with (go_at_call 15; refine (awake_any _).mono ?_; rintro e w2 ⟨rfl, hst⟩; have HB := Lib.hid (HB.out.trans (hst.mono HB.out.size)); clear hst)
    go_ret
    exact ⟨rfl, HB.out⟩
  · have hd : decide (40 < (len : Int)) = false := decide_eq_false (by omega)
    have hlen : len ≤ 40 := by omega
    obtain ⟨E, eE⟩ : ∃ E, E = revErr n len f := ⟨_, rfl⟩
    have hm := cM_le E len
    have HC1 := Lib.hid (fun W (h : I64s W A len f) => Canonical_slc n len c A f W h (by omega))
    have HC2 := Lib.hid (fun W (h : I64s W A len f) => rCanonical_slc n len c A f W h (by omega))
    have HK1 := Lib.hid (fun W (h : I64s W A len f) => revCheck_any n len c A f W h (by omega))
    have HK2 := Lib.hid (fun W (h : I64s W A len f) => rCheck_any n len c A f W h (by omega))
    rw [← eE] at HC1 HC2 HK1 HK2
    have HX := Lib.hid hx
    have HM := Lib.hid hm
    clear h40 hx eE hm
    generalize cM E len = m at HC1 HC2 HM
    go_enter Try.func3, Try.ntmps3
    go_wp2_with fail
    refine (HC1.out _ HX.out).mono ?_
    rintro e w1 ⟨A1, c1, rfl, hi, hst⟩
    have HX := Lib.hid (HX.out.below hst)
    have HB := Lib.hid (HB.out.trans (hst.mono HB.out.size))
    have HI1 := Lib.hid hi
    clear hi hst
    go_wp2_with fail
    refine (HC2.out _ HX.out).mono ?_
    rintro e w2 ⟨A2, c2, rfl, hi, hst⟩
    have HX := Lib.hid (HX.out.below hst)
    have HB := Lib.hid (HB.out.trans (hst.mono HB.out.size))
    have HS := Lib.hid (same_yes A1 A2 m c1 c2 _ w2 (HI1.out.below hst) hi (by have := HM.out; omega))
    clear hi hst HI1
    go_wp2_with (first | (go_at_call 18; refine (HK1.out _ HX.out).mono ?_; rintro e w' ⟨rfl, rfl⟩) | (go_at_call 19; refine (HK2.out _ HX.out).mono ?_; rintro e w' ⟨rfl, rfl⟩) | (go_at_call 20; refine (HS.out).mono ?_; rintro e w2 ⟨rfl, hst⟩; have HX := Lib.hid (HX.out.below hst); have HB := Lib.hid (HB.out.trans (hst.mono HB.out.size)); clear hst) | (go_at_call 15; refine (awake_any _).mono ?_; rintro e w2 ⟨rfl, hst⟩; have HB := Lib.hid (HB.out.trans (hst.mono HB.out.size)); clear hst))
    go_ret
    exact ⟨rfl, HB.out⟩

set_option maxHeartbeats 8000000 in
theorem revises_core (n : Int) (len c s : Nat) (A : Option Addr) (f : Nat → Int) (w : World) (hx : I64s w A len f) (hs : s < 18446744073709551616) :
    Calls Try.prog 4 #[.int .i64 n, .slice A len c, .int .u64 s] w fun e w' => e = .returned (.bool true) ∧ Below w.heap.size w w' := by
  have HB := Lib.hid (Below.refl w.heap.size w)
  by_cases h40 : 40 < len
  · have hd : decide (40 < (len : Int)) = true := decide_eq_true (by omega)
    clear h40 hx
    go_enter Try.func4, Try.ntmps4
    go_wp2_with (go_at_call 15; refine (awake_any _).mono ?_; rintro e w2 ⟨rfl, hst⟩; have HB := Lib.hid (HB.out.trans (hst.mono HB.out.size)); clear hst)
    go_ret
    exact ⟨rfl, HB.out⟩
  · have hd : decide (40 < (len : Int)) = false := decide_eq_false (by omega)
    have hlen : len ≤ 40 := by omega
    have HB1 := Lib.hid (fun W (h : I64s W A len f) => Belief_any n len c A f W h (by omega))
    have HB2 := Lib.hid (fun W (h : I64s W A len f) => rBelief_any n len c A f W h (by omega))
    have HR1 := Lib.hid (fun W (h : I64s W A len f) => Revise_any n len c s A f W h (by omega) hs)
    have HR2 := Lib.hid (fun W (h : I64s W A len f) => rRevise_any n len c s A f W h (by omega) hs)
    have HI1 := Lib.hid (fun W (h : I64s W A len f) => Iterate_slc n len c s A f W h (by omega) hs)
    have HI2 := Lib.hid (fun W (h : I64s W A len f) => rIterate_slc n len c s A f W h (by omega) hs)
    obtain ⟨E, eE⟩ : ∃ E, E = revErr n len f := ⟨_, rfl⟩
    obtain ⟨V, eV⟩ : ∃ V, V = belV n len f := ⟨_, rfl⟩
    obtain ⟨E2, eE2⟩ : ∃ E, E = rvsErr n len f s := ⟨_, rfl⟩
    obtain ⟨V2, eV2⟩ : ∃ V, V = rvsV n len f s := ⟨_, rfl⟩
    have hm := cM_le E2 len
    rw [← eE, ← eV] at HB1 HB2
    rw [← eE2, ← eV2] at HR1 HR2
    rw [← eE2] at HI1 HI2
    have HX := Lib.hid hx
    have HM := Lib.hid hm
    clear h40 hx eE hm eV eE2 eV2
    generalize cM E2 len = m at HI1 HI2 HM
    go_enter Try.func4, Try.ntmps4
    go_wp2_with (first | (go_at_call 21; refine (HB1.out _ HX.out).mono ?_; rintro e w' ⟨rfl, rfl⟩) | (go_at_call 22; refine (HB2.out _ HX.out).mono ?_; rintro e w2 ⟨rfl, hst⟩; have HX := Lib.hid (HX.out.below hst); have HB := Lib.hid (HB.out.trans (hst.mono HB.out.size)); clear hst) | (go_at_call 23; refine (HR1.out _ HX.out).mono ?_; rintro e w' ⟨rfl, rfl⟩) | (go_at_call 24; refine (HR2.out _ HX.out).mono ?_; rintro e w2 ⟨rfl, hst⟩; have HX := Lib.hid (HX.out.below hst); have HB := Lib.hid (HB.out.trans (hst.mono HB.out.size)); clear hst))
    refine (HI1.out _ HX.out).mono ?_
    rintro e w1 ⟨A1, c1, rfl, hi, hst⟩
    have HX := Lib.hid (HX.out.below hst)
    have HB := Lib.hid (HB.out.trans (hst.mono HB.out.size))
    have HJ := Lib.hid hi
    clear hi hst
    go_wp2_with fail
    refine (HI2.out _ HX.out).mono ?_
    rintro e w2 ⟨A2, c2, rfl, hi, hst⟩
    have HX := Lib.hid (HX.out.below hst)
    have HB := Lib.hid (HB.out.trans (hst.mono HB.out.size))
    have HS := Lib.hid (same_yes A1 A2 m c1 c2 _ w2 (HJ.out.below hst) hi (by have := HM.out; omega))
    clear hi hst HJ
    go_wp2_with (first | (go_at_call 20; refine (HS.out).mono ?_; rintro e w2 ⟨rfl, hst⟩; have HX := Lib.hid (HX.out.below hst); have HB := Lib.hid (HB.out.trans (hst.mono HB.out.size)); clear hst) | (go_at_call 15; refine (awake_any _).mono ?_; rintro e w2 ⟨rfl, hst⟩; have HB := Lib.hid (HB.out.trans (hst.mono HB.out.size)); clear hst))
    go_ret
    exact ⟨rfl, HB.out⟩

set_option maxHeartbeats 4000000 in
theorem tables_core (n : Int) (len c : Nat) (A : Option Addr) (f : Nat → Int) (w : World) (hx : I64s w A len f) :
    Calls Try.prog 5 #[.int .i64 n, .slice A len c] w fun e w' => e = .returned (.bool true) ∧ Below w.heap.size w w' := by
  have HB := Lib.hid (Below.refl w.heap.size w)
  by_cases h40 : 40 < len
  · have hd : decide (40 < (len : Int)) = true := decide_eq_true (by omega)
    clear h40 hx
    go_enter Try.func5, Try.ntmps5
    go_wp2_with (go_at_call 15; refine (awake_any _).mono ?_; rintro e w2 ⟨rfl, hst⟩; have HB := Lib.hid (HB.out.trans (hst.mono HB.out.size)); clear hst)
    go_ret
    exact ⟨rfl, HB.out⟩
  · have hd : decide (40 < (len : Int)) = false := decide_eq_false (by omega)
    have hlen : len ≤ 40 := by omega
    obtain ⟨E, eE⟩ : ∃ E, E = tabE n len f := ⟨_, rfl⟩
    have hm : cM E (2 ^ len) ≤ 9223372036854775807 := Nat.le_trans (cM_le E _) (Nat.le_trans (Nat.pow_le_pow_right (n := 2) (by decide) hlen) (by decide))
    have HC1 := Lib.hid (fun W (h : I64s W A len f) => Table_slu n len c A f W h (by omega))
    have HC2 := Lib.hid (fun W (h : I64s W A len f) => rTable_slu n len c A f W h (by omega))
    rw [← eE] at HC1 HC2
    have HX := Lib.hid hx
    have HM := Lib.hid hm
    clear h40 hx eE hm
    generalize cM E (2 ^ len) = m at HC1 HC2 HM
    go_enter Try.func5, Try.ntmps5
    go_wp2_with fail
    refine (HC1.out _ HX.out).mono ?_
    rintro e w1 ⟨A1, c1, rfl, hi, hst⟩
    have HX := Lib.hid (HX.out.below hst)
    have HB := Lib.hid (HB.out.trans (hst.mono HB.out.size))
    have HI1 := Lib.hid hi
    clear hi hst
    go_wp2_with fail
    refine (HC2.out _ HX.out).mono ?_
    rintro e w2 ⟨A2, c2, rfl, hi, hst⟩
    have HX := Lib.hid (HX.out.below hst)
    have HB := Lib.hid (HB.out.trans (hst.mono HB.out.size))
    have HS := Lib.hid (sameU_yes A1 A2 m c1 c2 _ w2 (HI1.out.below hst) hi HM.out)
    clear hi hst HI1
    go_wp2_with (first | (go_at_call 29; refine (HS.out).mono ?_; rintro e w2 ⟨rfl, hst⟩; have HX := Lib.hid (HX.out.below hst); have HB := Lib.hid (HB.out.trans (hst.mono HB.out.size)); clear hst) | (go_at_call 15; refine (awake_any _).mono ?_; rintro e w2 ⟨rfl, hst⟩; have HB := Lib.hid (HB.out.trans (hst.mono HB.out.size)); clear hst))
    go_ret
    exact ⟨rfl, HB.out⟩

set_option maxHeartbeats 4000000 in
theorem dalal_core (n : Int) (b s : Nat) (w : World) (hb : b < 18446744073709551616) (hs : s < 18446744073709551616) :
    Calls Try.prog 6 #[.int .i64 n, .int .u64 b, .int .u64 s] w fun e w' => e = .returned (.bool true) ∧ Below w.heap.size w w' := by
  have HB := Lib.hid (Below.refl w.heap.size w)
  have HD1 := Lib.hid (fun W => Distances_slc n b W hb)
  have HD2 := Lib.hid (fun W => rDistances_slc n b W hb)
  have HR1 := Lib.hid (fun W => Dalal_any n b s W hb hs)
  have HR2 := Lib.hid (fun W => rDalal_any n b s W hb hs)
  obtain ⟨E, eE⟩ : ∃ E, E = distErr n b := ⟨_, rfl⟩
  obtain ⟨E2, eE2⟩ : ∃ E, E = dalErr n b s := ⟨_, rfl⟩
  obtain ⟨V2, eV2⟩ : ∃ V, V = dalV n b s := ⟨_, rfl⟩
  have hm : cM E (dLen n) ≤ 9223372036854775807 := by
    unfold cM
    split
    · rename_i h
      obtain ⟨k, rfl, hk, -⟩ := distErr_ok (by rw [← eE]; exact h : distErr n b = 0)
      have := pow_le16 (N := dLen k) rfl hk
      omega
    · omega
  rw [← eE] at HD1 HD2
  rw [← eE2, ← eV2] at HR1 HR2
  have HM := Lib.hid hm
  clear eE hm eE2 eV2
  generalize cM E (dLen n) = m at HD1 HD2 HM
  go_enter Try.func6, Try.ntmps6
  go_wp2_with fail
  refine (HD1.out _).mono ?_
  rintro e w1 ⟨A1, c1, rfl, hi, hst⟩
  have HB := Lib.hid (HB.out.trans (hst.mono HB.out.size))
  have HJ := Lib.hid hi
  clear hi hst
  go_wp2_with fail
  refine (HD2.out _).mono ?_
  rintro e w2 ⟨A2, c2, rfl, hi, hst⟩
  have HB := Lib.hid (HB.out.trans (hst.mono HB.out.size))
  have HJ := Lib.hid (HJ.out.below hst)
  have HK := Lib.hid hi
  clear hi hst
  go_wp2_with fail
  refine (HR1.out _).mono ?_
  rintro e w3 ⟨rfl, hst⟩
  have HB := Lib.hid (HB.out.trans (hst.mono HB.out.size))
  have HJ := Lib.hid (HJ.out.below hst)
  have HK := Lib.hid (HK.out.below hst)
  clear hst
  go_wp2_with fail
  refine (HR2.out _).mono ?_
  rintro e w4 ⟨rfl, hst⟩
  have HB := Lib.hid (HB.out.trans (hst.mono HB.out.size))
  have HS := Lib.hid (same_yes A1 A2 m c1 c2 _ w4 (HJ.out.below hst) (HK.out.below hst) HM.out)
  clear hst HJ HK
  go_wp2_with (first | (go_at_call 20; refine HS.out.mono ?_; rintro e w2 ⟨rfl, hst⟩; have HB := Lib.hid (HB.out.trans (hst.mono HB.out.size)); clear hst) | (go_at_call 15; refine (awake_any _).mono ?_; rintro e w2 ⟨rfl, hst⟩; have HB := Lib.hid (HB.out.trans (hst.mono HB.out.size)); clear hst))
  go_ret
  exact ⟨rfl, HB.out⟩
end Go.Proofs.Ytnilfpcipclagaa
