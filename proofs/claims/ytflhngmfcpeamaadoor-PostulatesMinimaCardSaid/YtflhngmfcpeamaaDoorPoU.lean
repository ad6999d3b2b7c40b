/-
  Walks: package postulates: the postulates of update.
-/
import Derived.Test.YtflhngmfcpeamaaDoorProg
import Derived.Test.YtflhngmfcpeamaaDoorBase
import Derived.Test.YtflhngmfcpeamaaDoorRow
import Derived.Test.YtflhngmfcpeamaaDoorPoP
import Derived.Test.YtflhngmfcpeamaaDoorPoA
import Derived.Test.YtflhngmfcpeamaaDoorPoB
namespace Go.Proofs.YtflhngmfcpeamaaDoor
open Go.RowKit

theorem U64s.head {w : World} {A : Option Addr} {n : Nat} {f : Nat → Nat} (h : U64s w A n f) (hn : 0 < n) :
    ∃ b off, A = some ⟨b, off, none⟩ ∧ ∀ k, k < n → w.cell? ⟨b, off + k, none⟩ = some (.int .u64 (f k)) ∧ f k < 18446744073709551616 := by
  obtain ⟨b, off, rfl, _⟩ := h 0 hn
  refine ⟨b, off, rfl, fun k hk => ?_⟩
  obtain ⟨b', off', e, h1, h2⟩ := h k hk
  injection e with e; injection e with e1 e2; subst e1 e2
  exact ⟨h1, h2⟩
theorem Mat.head {w : World} {A : Option Addr} {n : Nat} {R : Nat → Option Addr} {m c : Nat → Nat} {F : Nat → Nat → Nat} (h : Mat w A n R m c F) (hn : 0 < n) :
    ∃ b off, A = some ⟨b, off, none⟩ ∧ ∀ k, k < n → w.cell? ⟨b, off + k, none⟩ = some (.slice (R k) (m k) (c k)) ∧ m k ≤ 9223372036854775807 ∧ U64s w (R k) (m k) (F k) := by
  obtain ⟨b, off, rfl, _⟩ := h 0 hn
  refine ⟨b, off, rfl, fun k hk => ?_⟩
  obtain ⟨b', off', e, h1, h2, h3⟩ := h k hk
  injection e with e; injection e with e1 e2; subst e1 e2
  exact ⟨h1, h2, h3⟩
/-- Tables of S rows of S entries: what the walk wants at row k. -/
theorem rows_at {w : World} {A : Option Addr} {S : Nat} {R : Nat → Option Addr} {c : Nat → Nat} {F : Nat → Nat → Nat} (h : Mat w A S R (fun _ => S) c F) (hn : 0 < S) :
    ∃ b off, A = some ⟨b, off, none⟩ ∧ ∀ k, k < S → ∃ rb ro, w.cell? ⟨b, off + k, none⟩ = some (.slice (some ⟨rb, ro, none⟩) S (c k)) ∧ ∀ x, x < S → w.cell? ⟨rb, ro + x, none⟩ = some (.int .u64 (F k x)) ∧ F k x < 18446744073709551616 := by
  obtain ⟨b, off, rfl, h1⟩ := h.head hn
  refine ⟨b, off, rfl, fun k hk => ?_⟩
  obtain ⟨h2, _, h3⟩ := h1 k hk
  obtain ⟨rb, ro, e, h4⟩ := h3.head hn
  rw [e] at h2
  exact ⟨rb, ro, h2, h4⟩

def popc (x : Nat) : Nat := x % 2 + x / 2 % 2 + x / 4 % 2 + x / 8 % 2
theorem ones64_any (x : Nat) (w : World) (hx : x < 16) :
    Calls Tryd.prog 77 #[.int .u64 x] w fun e w' => e = .returned (.int .i64 (popc x : Nat)) ∧ w = w' := by
  have H : Hid (x = 0 ∨ x = 1 ∨ x = 2 ∨ x = 3 ∨ x = 4 ∨ x = 5 ∨ x = 6 ∨ x = 7 ∨ x = 8 ∨ x = 9 ∨ x = 10 ∨ x = 11 ∨ x = 12 ∨ x = 13 ∨ x = 14 ∨ x = 15) := by
    show x = 0 ∨ _; omega
  clear hx
  go_enter Tryd.func77, Tryd.ntmps77
  go_wp2
  go_ret
  refine ⟨ret_int ?_, rfl⟩
  rcases H.out with rfl | rfl | rfl | rfl | rfl | rfl | rfl | rfl | rfl | rfl | rfl | rfl | rfl | rfl | rfl | rfl <;> decide +kernel

/-- Postulate i (0 to 7) of the tables F holds for the beliefs k, l at x and y. -/
def upFit (i : Nat) (F : Nat → Nat → Nat) (k l x y : Nat) : Bool := match i with
  | 0 => andNot (F k x) x == 0
  | 1 => andNot k x != 0 || F k x == k
  | 2 => (k == 0 || x == 0) || F k x != 0
  | 3 => true
  | 4 => andNot (F k x &&& y) (F k (x &&& y)) == 0
  | 5 => (andNot (F k x) y != 0 || andNot (F k y) x != 0) || F k x == F k y
  | 6 => popc k != 1 || andNot (F k x &&& F k y) (F k (x ||| y)) == 0
  | _ => F (k ||| l) x == (F k x ||| F l x)

variable (k l x y S c : Nat) (A : Option Addr) (R : Nat → Option Addr) (cc : Nat → Nat) (F : Nat → Nat → Nat) (w : World)

theorem up1_any (hM : Mat w A S R (fun _ => S) cc F) (hk : k < S) (hx : x < S) (hS : S ≤ 16) :
    Calls Tryd.prog 70 #[.slice A S c, .int .u64 k, .int .u64 l, .int .u64 x, .int .u64 y] w fun e w' => e = .returned (.bool (upFit 0 F k l x y)) ∧ w = w' := by
  obtain ⟨b, off, rfl, hr⟩ := rows_at hM (by omega)
  obtain ⟨rb, ro, hc, hr1⟩ := hr k hk
  obtain ⟨hcx, hl⟩ := hr1 x hx
  have ha := bits_andNot (F k x) x hl (by omega)
  have HF := Lib.hid (show upFit 0 F k l x y = (andNot (F k x) x == 0) from rfl)
  clear hM hr hr1
  go_enter Tryd.func70, Tryd.ntmps70
  go_wp2
  go_ret
  exact ⟨by rw [HF.out, ← eq0_nat]; rfl, rfl⟩
theorem up2_any (hM : Mat w A S R (fun _ => S) cc F) (hk : k < S) (hx : x < S) (hS : S ≤ 16) :
    Calls Tryd.prog 71 #[.slice A S c, .int .u64 k, .int .u64 l, .int .u64 x, .int .u64 y] w fun e w' => e = .returned (.bool (upFit 1 F k l x y)) ∧ w = w' := by
  obtain ⟨b, off, rfl, hr⟩ := rows_at hM (by omega)
  obtain ⟨rb, ro, hc, hr1⟩ := hr k hk
  obtain ⟨hcx, hl⟩ := hr1 x hx
  obtain ⟨E, eE⟩ : ∃ E, E = andNot k x := ⟨_, rfl⟩
  have ha := bits_andNot k x (by omega) (by omega)
  have hF : upFit 1 F k l x y = (E != 0 || F k x == k) := by rw [eE]; rfl
  rw [← eE] at ha
  clear hM hr hr1 eE
  cases h1 : (E != 0)
  · have h1' : ((E : Int) != 0) = false := by rw [ne0_nat, h1]
    rw [h1] at hF
    have HF := Lib.hid hF
    clear hF
    go_enter Tryd.func71, Tryd.ntmps71
    go_wp2
    go_ret
    exact ⟨by rw [HF.out, Bool.false_or, ← eq_nat]; rfl, rfl⟩
  · have h1' : ((E : Int) != 0) = true := by rw [ne0_nat, h1]
    rw [h1] at hF
    have HF := Lib.hid hF
    clear hF
    go_enter Tryd.func71, Tryd.ntmps71
    go_wp2
    go_ret
    exact ⟨by rw [HF.out]; rfl, rfl⟩
theorem up3_any (hM : Mat w A S R (fun _ => S) cc F) (hk : k < S) (hx : x < S) (hS : S ≤ 16) :
    Calls Tryd.prog 72 #[.slice A S c, .int .u64 k, .int .u64 l, .int .u64 x, .int .u64 y] w fun e w' => e = .returned (.bool (upFit 2 F k l x y)) ∧ w = w' := by
  obtain ⟨b, off, rfl, hr⟩ := rows_at hM (by omega)
  obtain ⟨rb, ro, hc, hr1⟩ := hr k hk
  obtain ⟨hcx, hl⟩ := hr1 x hx
  have hF : upFit 2 F k l x y = ((k == 0 || x == 0) || F k x != 0) := rfl
  clear hM hr hr1
  cases h1 : (k == 0)
  · have h1' : ((k : Int) == 0) = false := by rw [eq0_nat, h1]
    rw [h1] at hF
    cases h2 : (x == 0)
    · have h2' : ((x : Int) == 0) = false := by rw [eq0_nat, h2]
      rw [h2] at hF
      have HF := Lib.hid hF
      clear hF
      go_enter Tryd.func72, Tryd.ntmps72
      go_wp2
      go_ret
      exact ⟨by rw [HF.out, ← ne0_nat]; rfl, rfl⟩
    · have h2' : ((x : Int) == 0) = true := by rw [eq0_nat, h2]
      rw [h2] at hF
      have HF := Lib.hid hF
      clear hF
      go_enter Tryd.func72, Tryd.ntmps72
      go_wp2
      go_ret
      exact ⟨by rw [HF.out]; rfl, rfl⟩
  · have h1' : ((k : Int) == 0) = true := by rw [eq0_nat, h1]
    rw [h1] at hF
    have HF := Lib.hid hF
    clear hF
    go_enter Tryd.func72, Tryd.ntmps72
    go_wp2
    go_ret
    exact ⟨by rw [HF.out]; rfl, rfl⟩
theorem up4_any :
    Calls Tryd.prog 73 #[.slice A S c, .int .u64 k, .int .u64 l, .int .u64 x, .int .u64 y] w fun e w' => e = .returned (.bool (upFit 3 F k l x y)) ∧ w = w' := by
  go_enter Tryd.func73, Tryd.ntmps73
  go_wp2
  go_ret
  exact ⟨rfl, rfl⟩
theorem up5_any (hM : Mat w A S R (fun _ => S) cc F) (hk : k < S) (hx : x < S) (hy : y < S) (hS : S ≤ 16) :
    Calls Tryd.prog 74 #[.slice A S c, .int .u64 k, .int .u64 l, .int .u64 x, .int .u64 y] w fun e w' => e = .returned (.bool (upFit 4 F k l x y)) ∧ ∃ m, w' = w.drewN m := by
  obtain ⟨b, off, rfl, hr⟩ := rows_at hM (by omega)
  obtain ⟨rb, ro, hc, hr1⟩ := hr k hk
  obtain ⟨hcx, hl⟩ := hr1 x hx
  obtain ⟨z, ez⟩ : ∃ z, z = x &&& y := ⟨_, rfl⟩
  have hzx : z < S := by have := and_le_left' x y; omega
  obtain ⟨hcz, hlz⟩ := hr1 z hzx
  obtain ⟨E, eE⟩ : ∃ E, E = F k x &&& y := ⟨_, rfl⟩
  have hEl : E < 18446744073709551616 := by rw [eE]; exact Nat.lt_of_le_of_lt Nat.and_le_left hl
  have ha : bits .and .u64 (x : Int) (y : Int) = (z : Int) := by rw [u64_and_nat _ _ (by omega) (by omega), ez]
  have hb : bits .and .u64 (F k x : Int) (y : Int) = (E : Int) := by rw [u64_and_nat _ _ hl (by omega), eE]
  have hd := bits_andNot E (F k z) hEl hlz
  have HF := Lib.hid (show upFit 4 F k l x y = (andNot E (F k z) == 0) by rw [eE, ez]; rfl)
  have hxb : (x : Int) < (S : Int) := by omega
  have hkb : (k : Int) < (S : Int) := by omega
  have hzb : (z : Int) < (S : Int) := by omega
  clear hM hr hr1 eE ez
  go_enter Tryd.func74, Tryd.ntmps74
  go_wp2
  go_quiet (fail)
  go_wp2
  go_ret
  exact ⟨by rw [HF.out, ← eq0_nat]; rfl, _, rfl⟩
set_option maxHeartbeats 1000000 in
theorem up6_any (hM : Mat w A S R (fun _ => S) cc F) (hk : k < S) (hx : x < S) (hy : y < S) (hS : S ≤ 16) :
    Calls Tryd.prog 75 #[.slice A S c, .int .u64 k, .int .u64 l, .int .u64 x, .int .u64 y] w fun e w' => e = .returned (.bool (upFit 5 F k l x y)) ∧ ∃ m, w' = w.drewN m := by
  obtain ⟨b, off, rfl, hr⟩ := rows_at hM (by omega)
  obtain ⟨rb, ro, hc, hr1⟩ := hr k hk
  obtain ⟨hcx, hl⟩ := hr1 x hx
  obtain ⟨hcy, hly⟩ := hr1 y hy
  obtain ⟨E, eE⟩ : ∃ E, E = andNot (F k x) y := ⟨_, rfl⟩
  obtain ⟨G, eG⟩ : ∃ G, G = andNot (F k y) x := ⟨_, rfl⟩
  have ha := bits_andNot (F k x) y hl (by omega)
  have hb := bits_andNot (F k y) x hly (by omega)
  have hF : upFit 5 F k l x y = ((E != 0 || G != 0) || F k x == F k y) := by rw [eE, eG]; rfl
  rw [← eE] at ha
  rw [← eG] at hb
  have hxb : (x : Int) < (S : Int) := by omega
  have hkb : (k : Int) < (S : Int) := by omega
  have hyb : (y : Int) < (S : Int) := by omega
  clear hM hr hr1 eE eG
  cases h1 : (E != 0)
  · have h1' : ((E : Int) != 0) = false := by rw [ne0_nat, h1]
    rw [h1] at hF
    cases h2 : (G != 0)
    · have h2' : ((G : Int) != 0) = false := by rw [ne0_nat, h2]
      rw [h2] at hF
      have HF := Lib.hid hF
      clear hF
      go_enter Tryd.func75, Tryd.ntmps75
      go_wp2
      go_quiet (fail)
      go_wp2
      go_ret
      exact ⟨by rw [HF.out, ← eq_nat]; rfl, _, rfl⟩
    · have h2' : ((G : Int) != 0) = true := by rw [ne0_nat, h2]
      rw [h2] at hF
      have HF := Lib.hid hF
      clear hF
      go_enter Tryd.func75, Tryd.ntmps75
      go_wp2
      go_quiet (fail)
      go_wp2
      go_ret
      exact ⟨by rw [HF.out]; rfl, _, rfl⟩
  · have h1' : ((E : Int) != 0) = true := by rw [ne0_nat, h1]
    rw [h1] at hF
    have HF := Lib.hid hF
    clear hF
    go_enter Tryd.func75, Tryd.ntmps75
    go_wp2
    go_quiet (fail)
    go_wp2
    go_ret
    exact ⟨by rw [HF.out]; rfl, _, rfl⟩
set_option maxHeartbeats 1000000 in
theorem up7_any (N : Nat) (hN : S = 2 ^ N) (hM : Mat w A S R (fun _ => S) cc F) (hk : k < S) (hx : x < S) (hy : y < S) (hS : S ≤ 16) :
    Calls Tryd.prog 76 #[.slice A S c, .int .u64 k, .int .u64 l, .int .u64 x, .int .u64 y] w fun e w' => e = .returned (.bool (upFit 6 F k l x y)) ∧ ∃ m, w' = w.drewN m := by
  obtain ⟨b, off, rfl, hr⟩ := rows_at hM (by omega)
  obtain ⟨rb, ro, hc, hr1⟩ := hr k hk
  obtain ⟨hcx, hl⟩ := hr1 x hx
  obtain ⟨hcy, hly⟩ := hr1 y hy
  obtain ⟨z, ez⟩ : ∃ z, z = x ||| y := ⟨_, rfl⟩
  have hzx : z < S := by rw [ez, hN]; exact Nat.or_lt_two_pow (by omega) (by omega)
  obtain ⟨hcz, hlz⟩ := hr1 z hzx
  obtain ⟨E, eE⟩ : ∃ E, E = F k x &&& F k y := ⟨_, rfl⟩
  have hEl : E < 18446744073709551616 := by rw [eE]; exact Nat.lt_of_le_of_lt Nat.and_le_left hl
  have ha : bits .or .u64 (x : Int) (y : Int) = (z : Int) := by rw [u64_or_nat _ _ (by omega) (by omega), ez]
  have hb : bits .and .u64 (F k x : Int) (F k y : Int) = (E : Int) := by rw [u64_and_nat _ _ hl hly, eE]
  have hd := bits_andNot E (F k z) hEl hlz
  have hF : upFit 6 F k l x y = (popc k != 1 || andNot E (F k z) == 0) := by rw [eE, ez]; rfl
  have hxb : (x : Int) < (S : Int) := by omega
  have hkb : (k : Int) < (S : Int) := by omega
  have hyb : (y : Int) < (S : Int) := by omega
  have hzb : (z : Int) < (S : Int) := by omega
  have hk16 : k < 16 := by omega
  clear hM hr hr1 eE ez hN
  cases h1 : (popc k != 1)
  · have h1' : ((popc k : Int) != 1) = false := by
      rw [bne_eq_false_iff_eq] at h1 ⊢; omega
    rw [h1] at hF
    have HF := Lib.hid hF
    clear hF
    go_enter Tryd.func76, Tryd.ntmps76
    go_wp2
    go_quiet ((go_at_call 77; exact Calls.quiet_of_same ((ones64_any k _ hk16).mono fun _ _ ⟨he, hw⟩ => ⟨he, hw.symm⟩)))
    go_wp2
    go_ret
    exact ⟨by rw [HF.out, Bool.false_or, ← eq0_nat]; rfl, _, rfl⟩
  · have h1' : ((popc k : Int) != 1) = true := by
      rw [bne_iff_ne] at h1 ⊢; omega
    rw [h1] at hF
    have HF := Lib.hid hF
    clear hF
    go_enter Tryd.func76, Tryd.ntmps76
    go_wp2
    go_quiet ((go_at_call 77; exact Calls.quiet_of_same ((ones64_any k _ hk16).mono fun _ _ ⟨he, hw⟩ => ⟨he, hw.symm⟩)))
    go_wp2
    go_ret
    exact ⟨by rw [HF.out]; rfl, _, rfl⟩
set_option maxHeartbeats 1000000 in
theorem up8_any (N : Nat) (hN : S = 2 ^ N) (hM : Mat w A S R (fun _ => S) cc F) (hk : k < S) (hl : l < S) (hx : x < S) (hS : S ≤ 16) :
    Calls Tryd.prog 78 #[.slice A S c, .int .u64 k, .int .u64 l, .int .u64 x, .int .u64 y] w fun e w' => e = .returned (.bool (upFit 7 F k l x y)) ∧ ∃ m, w' = w.drewN m := by
  obtain ⟨b, off, rfl, hr⟩ := rows_at hM (by omega)
  obtain ⟨rb, ro, hc, hr1⟩ := hr k hk
  obtain ⟨hcx, hlx⟩ := hr1 x hx
  obtain ⟨rb2, ro2, hc2, hr2⟩ := hr l hl
  obtain ⟨hcx2, hlx2⟩ := hr2 x hx
  obtain ⟨z, ez⟩ : ∃ z, z = k ||| l := ⟨_, rfl⟩
  have hzx : z < S := by rw [ez, hN]; exact Nat.or_lt_two_pow (by omega) (by omega)
  obtain ⟨rb3, ro3, hc3, hr3⟩ := hr z hzx
  obtain ⟨hcx3, hlx3⟩ := hr3 x hx
  obtain ⟨E, eE⟩ : ∃ E, E = F k x ||| F l x := ⟨_, rfl⟩
  have ha : bits .or .u64 (k : Int) (l : Int) = (z : Int) := by rw [u64_or_nat _ _ (by omega) (by omega), ez]
  have hb : bits .or .u64 (F k x : Int) (F l x : Int) = (E : Int) := by rw [u64_or_nat _ _ hlx hlx2, eE]
  have HF := Lib.hid (show upFit 7 F k l x y = (F z x == E) by rw [eE, ez]; rfl)
  have hxb : (x : Int) < (S : Int) := by omega
  have hkb : (k : Int) < (S : Int) := by omega
  have hlb : (l : Int) < (S : Int) := by omega
  have hzb : (z : Int) < (S : Int) := by omega
  clear hM hr hr1 hr2 hr3 eE ez hN
  go_enter Tryd.func78, Tryd.ntmps78
  go_wp2
  go_quiet (fail)
  go_wp2
  go_ret
  exact ⟨by rw [HF.out, ← eq_nat]; rfl, _, rfl⟩
end Go.Proofs.YtflhngmfcpeamaaDoor
