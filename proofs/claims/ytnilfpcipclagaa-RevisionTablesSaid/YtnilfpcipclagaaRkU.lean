/-
  Walks: the reference of layer 39: canonical, Canonical, apart, Distances, Dalal, Iterate.
-/
import Derived.Test.YtnilfpcipclagaaProg
import Derived.Test.YtnilfpcipclagaaBase
import Derived.Test.YtnilfpcipclagaaRow
import Derived.Test.YtnilfpcipclagaaRowsOf
import Derived.Test.YtnilfpcipclagaaLeast
import Derived.Test.YtnilfpcipclagaaOnes
import Derived.Test.YtnilfpcipclagaaBs
import Derived.Test.YtnilfpcipclagaaRkP
import Derived.Test.YtnilfpcipclagaaRkQ
import Derived.Test.YtnilfpcipclagaaRkA
import Derived.Test.YtnilfpcipclagaaRkB
import Derived.Test.YtnilfpcipclagaaRkD
import Derived.Test.YtnilfpcipclagaaRkC
import Derived.Test.YtnilfpcipclagaaRkR
namespace Go.Proofs.Ytnilfpcipclagaa
open Go.RowKit

/-- The values of n ints. -/
def i64L (f : Nat → Nat) (n : Nat) : List Value := (List.range n).map fun u => .int .i64 (f u : Nat)
theorem i64L_succ (f : Nat → Nat) (n : Nat) : i64L f (n + 1) = i64L f n ++ [.int .i64 (f n : Nat)] := by
  unfold i64L; rw [List.range_succ, List.map_append]; rfl
theorem i64L_get {f : Nat → Nat} {n k : Nat} (h : k < n) : (i64L f n)[k]? = some (.int .i64 (f k : Nat)) := by
  unfold i64L; simp [h]
theorem own_i64s {w : World} {base e n : Nat} {v : Value} {f : Nat → Nat} (h : w.ownsRow base e 1 v n (i64L f n)) (hf : ∀ u, u < n → f u ≤ 9223372036854775807) :
    ∃ A c, v = .slice A n c ∧ I64s w A n (fun u => (f u : Int)) := by
  obtain ⟨A, c, rfl, hA⟩ := own_form h
  refine ⟨A, c, rfl, fun k hk => ?_⟩
  obtain ⟨b, rfl, _, _, hc⟩ := hA k hk
  have := hf k hk
  exact ⟨b, 0, rfl, by rw [hc, i64L_get hk], by dsimp only; omega, by dsimp only; omega⟩
/-- Ints that a call has made, as they read. -/
def RdPost0 (N : Nat) (g : Nat → Nat) (w : World) (e : Ending) (w' : World) : Prop :=
  ∃ A c, e = .returned (.slice A N c) ∧ I64s w' A N (fun u => (g u : Int)) ∧ Below w.heap.size w w'
def RdPost (N : Nat) (g : Nat → Nat) (w : World) (e : Ending) (w' : World) : Prop :=
  ∃ A c, e = .returned (.tuple #[.slice A N c, .int .i64 0]) ∧ I64s w' A N (fun u => (g u : Int)) ∧ Below w.heap.size w w'
theorem cntB_yes {p : Nat → Bool} {u : Nat} (h : p u = true) : cntB (u + 1) p = cntB u p + 1 := if_pos h
theorem cntB_no {p : Nat → Bool} {u : Nat} (h : p u = false) : cntB (u + 1) p = cntB u p := if_neg (by rw [h]; exact fun h => by cases h)
set_option maxHeartbeats 4000000 in
theorem rcanonical_any (A : Option Addr) (n c : Nat) (f : Nat → Int) (w : World) (hx : I64s w A n f) (hn : n ≤ 16) :
    Calls Try.prog 42 #[.slice A n c] w (RdPost0 n (canF n f) w) := by
  have HX := Lib.hid hx
  clear hx
  obtain ⟨i0, hi, hz0, hz1, hz2⟩ := info_parts Try.infoInt
  go_enter Try.func42, Try.ntmps42
  go_wp2
  go_loopw [3, 4] (fun o iv wr => ∃ v : Nat, v ≤ n ∧ iv = .int .i64 v ∧ wr.ownsRow w.heap.size 3 1 o v (i64L (canF n f) v) ∧ Below w.heap.size w wr) (fun _ iv _ => n - (intOf iv).toNat)
  case atStart => exact ⟨0, Nat.zero_le _, rfl, World.ownsRow_nil _ _ _ _, Below.refl _ _⟩
  case round =>
    obtain ⟨v, hv, rfl, hown, hbl⟩ := hrel
    obtain ⟨W0, eW⟩ : ∃ W0, W0 = wr := ⟨_, rfl⟩
    subst eW
    by_cases hlt : v < n
    · have HO := Lib.hid hown
      have HB := Lib.hid hbl
      clear hown hbl
      go_wp2_with fail
      go_loopw [5, 6] (fun kv iv wx => ∃ u : Nat, u ≤ n ∧ iv = .int .i64 u ∧ kv = .int .i64 (cntB u (canB f v) : Nat) ∧ Below W0.heap.size W0 wx) (fun _ iv _ => n - (intOf iv).toNat)
      case atStart => exact ⟨0, Nat.zero_le _, rfl, rfl, Below.refl _ _⟩
      case round =>
        obtain ⟨u, hu, rfl, rfl, hbx⟩ := hrel
        have hck := cntB_le u (canB f v)
        have HY := Lib.hid (cntB_yes (p := canB f v) (u := u))
        have HN := Lib.hid (cntB_no (p := canB f v) (u := u))
        have HE := Lib.hid (show u = n → cntB u (canB f v) = canF n f v from fun h => by rw [h]; rfl)
        obtain ⟨ck, eck⟩ : ∃ ck, ck = cntB u (canB f v) := ⟨_, rfl⟩
        rw [← eck] at hck HY HN HE
        rw [← eck]
        clear eck
        by_cases hltu : u < n
        · have hbw := HB.out.trans (hbx.mono HB.out.size)
          obtain ⟨b, off, rfl, hcv, hv1, hv2⟩ := (HX.out.below hbw) v hlt
          obtain ⟨b', off', e', hcu, hu1, hu2⟩ := (HX.out.below hbw) u hltu
          injection e' with e'
          injection e' with e1 e2
          subst e1 e2
          have HBX := Lib.hid hbx
          have hvb : (v : Int) < (n : Int) := by omega
          have hub : (u : Int) < (n : Int) := by omega
          obtain ⟨b0, eb0⟩ : ∃ b0, b0 = decide (f u < f v) := ⟨_, rfl⟩
          have HCB := Lib.hid (show canB f v u = (b0 && allB u (fun x => f x != f u)) by rw [eb0]; rfl)
          have hd := eb0.symm
          obtain ⟨fu, efu⟩ : ∃ fu, fu = f u := ⟨_, rfl⟩
          obtain ⟨fv, efv⟩ : ∃ fv, fv = f v := ⟨_, rfl⟩
          rw [← efv] at hcv hv1 hv2
          rw [← efu] at hcu hu1 hu2
          rw [← efu, ← efv] at hd
          have EFU := Lib.hid efu
          clear hbx hbw efu efv eb0
          go_wp2_with fail
          go_quiet (fail)
          go_wp2_with fail
          generalize hV : World.drewN _ _ = V2
          have HBX : Hid (Below W0.heap.size W0 V2) := by rw [← hV]; exact Lib.hid (below_drewN HBX.out _)
          clear hV hcv hcu hd
          go_loopw [7, 8] (fun sv iv wy => ∃ x : Nat, x ≤ u ∧ iv = .int .i64 x ∧ sv = .bool (b0 && allB x (fun x => f x != f u)) ∧ Below W0.heap.size W0 wy) (fun _ iv _ => u - (intOf iv).toNat)
          case atStart => exact ⟨0, Nat.zero_le _, rfl, by simp [allB], HBX.out⟩
          case round =>
            clear HBX
            obtain ⟨x, hx, rfl, rfl, hby⟩ := hrel
            have hs1 : (b0 && allB (x + 1) (fun x => f x != f u)) = ((b0 && allB x (fun x => f x != f u)) && (f x != f u)) := by rw [allB_succ', Bool.and_assoc]
            obtain ⟨l0, el0⟩ : ∃ l0, l0 = (b0 && allB x (fun x => f x != f u)) := ⟨_, rfl⟩
            obtain ⟨l1, el1⟩ : ∃ l1, l1 = (b0 && allB (x + 1) (fun x => f x != f u)) := ⟨_, rfl⟩
            have HCB2 : Hid (x = u → canB f v u = l0) := Lib.hid fun h => by rw [HCB.out, el0, h]
            rw [← el0, ← el1] at hs1
            rw [← el0]
            have HL1 := Lib.hid el1
            clear el0 el1
            by_cases hltx : x < u
            · have hbw := HB.out.trans (hby.mono HB.out.size)
              obtain ⟨b2, off2, e2, hcu, hu1, hu2⟩ := (HX.out.below hbw) u hltu
              injection e2 with e2
              injection e2 with e1 e2
              subst e1 e2
              obtain ⟨b3, off3, e3, hcx, hx1, hx2⟩ := (HX.out.below hbw) x (by omega)
              injection e3 with e3
              injection e3 with e1 e2
              subst e1 e2
              have hxb : (x : Int) < (n : Int) := by omega
              have HBY := Lib.hid hby
              obtain ⟨fx, efx⟩ : ∃ fx, fx = f x := ⟨_, rfl⟩
              rw [← efx] at hcx hx1 hx2 hs1
              rw [← EFU.out] at hcu hu1 hu2 hs1
              clear hby hbw efx HCB2
              cases l0
              · have H1 := Lib.hid (show l1 = false by rw [hs1]; rfl)
                clear hs1
                go_wp2_with fail
                go_quiet (fail)
                go_wp2_with fail
                go_roundw
                case rel => exact ⟨x + 1, by omega, by go_num, by rw [← HL1.out, H1.out], below_drewN HBY.out _⟩
                case measure => simp [intOf]; omega
              · by_cases hf : fx = fu
                · have h1 : (fx != fu) = false := by rw [hf]; simp
                  have H1 := Lib.hid (show l1 = false by rw [hs1, h1]; rfl)
                  clear hs1 hf
                  go_wp2_with fail
                  go_quiet (fail)
                  go_wp2_with fail
                  go_roundw
                  case rel => exact ⟨x + 1, by omega, by go_num, by rw [← HL1.out, H1.out], below_drewN HBY.out _⟩
                  case measure => simp [intOf]; omega
                · have h1 : (fx != fu) = true := bne_iff_ne.2 hf
                  have H1 := Lib.hid (show l1 = true by rw [hs1, h1]; rfl)
                  clear hs1 hf
                  go_wp2_with fail
                  go_quiet (fail)
                  go_wp2_with fail
                  go_roundw
                  case rel => exact ⟨x + 1, by omega, by go_num, by rw [← HL1.out, H1.out], below_drewN HBY.out _⟩
                  case measure => simp [intOf]; omega
            · have hxu : x = u := by omega
              have HCV := Lib.hid (HCB2.out hxu)
              have HBY := Lib.hid hby
              have hxn : ¬ (x : Int) < (u : Int) := by omega
              clear hby hs1 HCB2 HL1
              cases l0
              · have H1 := Lib.hid (HN.out HCV.out)
                clear HCV HN HY hxu
                go_wp2_with fail
                go_roundw
                case rel => exact ⟨u + 1, by omega, by go_num, by rw [H1.out], HBY.out⟩
                case measure => simp [intOf]; omega
              · have H1 := Lib.hid (HY.out HCV.out)
                clear HCV HN HY hxu
                go_wp2_with fail
                go_roundw
                case rel => exact ⟨u + 1, by omega, by go_num, by rw [H1.out]; go_num, HBY.out⟩
                case measure => simp [intOf]; omega
        · have hun : u = n := by omega
          have HV := Lib.hid (HE.out hun)
          have hunn : ¬ (u : Int) < (n : Int) := by omega
          have hown := own_below HO.out hbx (Nat.le_refl _)
          have hbl := HB.out.trans (hbx.mono HB.out.size)
          have hsz1 := hbl.size
          clear hbx HE HY HN hun
          go_wp2_with (at_builtin; refine wpList_append_own _ rfl _ _ 22 rfl w.heap.size 3 i0 (.int .i64 0) 1 8 Try.underlying22 hi hz0 hz1 hz2 rfl (by decide) _ _ _ rfl (hown.alloc _) ⟨_, 0, none⟩ 1 1 [.int .i64 (ck : Nat)] rfl rfl (cell_one_new _ _ _) (one_oneCell rfl) (by unfold maxLen; omega) (by omega) (by simp; omega) ?_; intro v' w3 hown' hgrow _)
          go_roundw
          case rel => exact ⟨v + 1, by omega, by go_num, by rw [i64L_succ, ← HV.out]; exact hown', (hbl.alloc hsz1 _).grown hgrow (by simp; omega) (fun k hk => (hown.lt k hk).1)⟩
          case measure => simp [intOf]; omega
    · obtain rfl : v = n := by omega
      obtain ⟨A2, c2, rfl, hi64⟩ := own_i64s hown (fun u hu => by have := canF_lt (f := f) hu; omega)
      have HI := Lib.hid hi64
      have HB := Lib.hid hbl
      clear hown hbl hi64
      go_wp2_with fail
      go_ret
      exact ⟨_, _, rfl, HI.out, HB.out⟩

theorem rCanonical_err (n : Int) (len c : Nat) (A : Option Addr) (f : Nat → Int) (w : World) (hx : I64s w A len f) (hlen : len ≤ 9223372036854775807) (he : revErr n len f ≠ 0) :
    Calls Try.prog 17 #[.int .i64 n, .slice A len c] w fun e w' => e = .returned (.tuple #[.slice none 0 0, .int .i64 (revErr n len f : Nat)]) ∧ w = w' := by
  have HC := Lib.hid (rCheck_any n len c A f w hx hlen)
  obtain ⟨E, eE⟩ : ∃ E, E = revErr n len f := ⟨_, rfl⟩
  rw [← eE] at HC he ⊢
  have hne : ((E : Int) != 0) = true := by rw [bne_iff_ne]; omega
  clear hx eE he
  go_enter Try.func17, Try.ntmps17
  go_wp2_with (go_at_call 19; refine (HC.out).mono ?_; rintro e w' ⟨rfl, rfl⟩)
  go_ret2
  exact ⟨rfl, rfl⟩
theorem rCanonical_in (k N c : Nat) (A : Option Addr) (f : Nat → Int) (w : World) (hx : I64s w A N f) (hk : k ≤ 4) (hN : N = 2 ^ k) (hr : revErr k N f = 0) :
    Calls Try.prog 17 #[.int .i64 k, .slice A N c] w (RdPost N (canF N f) w) := by
  have hN16 := pow_le16 hN hk
  have hC := rCheck_any k N c A f w hx (by omega)
  rw [hr] at hC
  have HC := Lib.hid hC
  have HCA := Lib.hid (rcanonical_any A N c f w hx hN16)
  clear hx hC hr hN
  go_enter Try.func17, Try.ntmps17
  go_wp2_with (go_at_call 19; refine (HC.out).mono ?_; rintro e w' ⟨rfl, rfl⟩)
  refine HCA.out.mono ?_
  rintro e w1 ⟨A2, c2, rfl, hI, hb⟩
  have HI := Lib.hid hI
  have HB := Lib.hid hb
  clear hI hb HCA HC
  go_wp2_with fail
  go_ret2
  exact ⟨_, _, rfl, HI.out, HB.out⟩

/-! ### apart, Distances, Dalal -/
theorem popc_half {x : Nat} (hx : x < 16) : popc x = x % 2 + popc (x / 2) := by
  have key : ∀ x : Nat, x < 16 → popc x = x % 2 + popc (x / 2) := by decide +kernel
  exact key x hx
theorem rapart_any (u v : Nat) (w : World) (hu : u < 16) (hv : v < 16) :
    Calls Try.prog 52 #[.int .i64 u, .int .i64 v] w fun e w' => e = .returned (.int .i64 (popc (u ^^^ v) : Nat)) ∧ w = w' := by
  have hxv := i64_xor_nat' u v hu hv
  have hxl : u ^^^ v < 16 := Nat.xor_lt_two_pow (n := 4) (by omega) (by omega)
  obtain ⟨X, eX⟩ : ∃ X, X = u ^^^ v := ⟨_, rfl⟩
  rw [← eX] at hxv hxl ⊢
  clear eX
  go_enter Try.func52, Try.ntmps52
  go_wp2
  go_loop [5, 6] (fun mv xv => ∃ x m : Nat, x < 16 ∧ m ≤ 16 ∧ xv = .int .i64 x ∧ mv = .int .i64 m ∧ m + popc x = popc X) (fun _ xv => (intOf xv).toNat)
  case atStart => exact ⟨X, 0, hxl, by omega, rfl, rfl, by omega⟩
  case round =>
    obtain ⟨x, m, hx, hm, rfl, rfl, hp⟩ := hrel
    by_cases h0 : 0 < x
    · have hd : decide (0 < (x : Int)) = true := decide_eq_true (by omega)
      have hh := popc_half hx
      have hle := popc_le X
      have HP := Lib.hid (show (m + x % 2) + popc (x / 2) = popc X by omega)
      have hml : m ≤ 4 := by omega
      clear hp hh hle
      go_wp2_with fail
      go_round
      case rel => exact ⟨x / 2, m + x % 2, by omega, by omega, by first | rfl | go_num | (congr 1; omega), by first | rfl | go_num | (congr 1; omega), HP.out⟩
      case measure => simp [intOf]; omega
    · have hd : decide (0 < (x : Int)) = false := decide_eq_false (by omega)
      have HP := Lib.hid (show m = popc X by
        have : x = 0 := by omega
        subst this
        have h1 : popc 0 = 0 := rfl
        omega)
      clear hp
      go_wp2_with fail
      go_ret
      exact ⟨by rw [HP.out]; rfl, rfl⟩
/-- The least distance, from 9 on. -/
theorem near9 {N b v : Nat} (hb : b < 2 ^ N) (h0 : b ≠ 0) : nearN 9 b v N = distF N b v := by
  obtain ⟨n0, n1, n2⟩ := near_spec 9 b v N
  obtain ⟨w, h1, h2, h3⟩ := dist_ex (v := v) hb h0
  have h4 := n1 w h1 h2
  have h5 := popc_le (w ^^^ v)
  rcases n2 with n2 | ⟨x, x1, x2, x3⟩
  · omega
  · have := dist_le (v := v) x1 x2; omega
theorem rDistances_err (n : Int) (b : Nat) (w : World) (_hb : b < 18446744073709551616) (he : distErr n b ≠ 0) :
    Calls Try.prog 31 #[.int .i64 n, .int .u64 b] w fun e w' => e = .returned (.tuple #[.slice none 0 0, .int .i64 (distErr n b : Nat)]) ∧ w = w' := by
  by_cases h0 : n < 0
  · have hd1 : decide (n < 0) = true := decide_eq_true h0
    have HE := Lib.hid (show distErr n b = 2 from if_neg (by omega))
    clear he h0
    go_enter Try.func31, Try.ntmps31
    go_wp2
    go_ret2
    exact ⟨by rw [HE.out]; rfl, rfl⟩
  · have hd1 : decide (n < 0) = false := decide_eq_false h0
    by_cases h4 : 4 < n
    · have hd2 : decide (4 < n) = true := decide_eq_true h4
      have HE := Lib.hid (show distErr n b = 2 from if_neg (by omega))
      clear he h0 h4
      go_enter Try.func31, Try.ntmps31
      go_wp2
      go_ret2
      exact ⟨by rw [HE.out]; rfl, rfl⟩
    · have hd2 : decide (4 < n) = false := decide_eq_false h4
      obtain ⟨k, rfl⟩ : ∃ k : Nat, n = k := ⟨n.toNat, by omega⟩
      have hk : k ≤ 4 := by omega
      have hE : distErr k b = if b < 2 ^ 2 ^ k then 0 else 1 := if_pos (by omega)
      have hnb : ¬ b < 2 ^ 2 ^ k := fun h => he (by rw [hE, if_pos h])
      rw [if_neg hnb] at hE
      have HE := Lib.hid hE
      have HOUT := Lib.hid (fun w => rout_any k (2 ^ k) b true w hk rfl (decide_eq_true (by omega)))
      clear he h0 h4 hE hnb
      go_enter Try.func31, Try.ntmps31
      go_wp2_with (go_at_call 49; refine (HOUT.out _).mono ?_; rintro e w' ⟨rfl, rfl⟩)
      go_ret2
      exact ⟨by rw [HE.out]; rfl, rfl⟩
set_option maxHeartbeats 4000000 in
theorem rDistances_in (k N b : Nat) (w : World) (hk : k ≤ 4) (hN : N = 2 ^ k) (hb : b < 2 ^ N) (hb64 : b < 18446744073709551616) :
    Calls Try.prog 31 #[.int .i64 k, .int .u64 b] w (RdPost N (distF N b) w) := by
  have hN16 := pow_le16 hN hk
  have hd1 : decide ((k : Int) < 0) = false := by simp
  have hd2 : decide (4 < (k : Int)) = false := decide_eq_false (by omega)
  have HOUT := Lib.hid (fun w => rout_any k N b false w hk hN (decide_eq_false (by omega)))
  have HNB := Lib.hid (show ∀ v, b ≠ 0 → nearN 9 b v N = distF N b v from fun v h0 => near9 hb h0)
  have HNZ := Lib.hid (show b = 0 → ∀ v, distF N b v = 0 from fun h v => by rw [h, dist_empty])
  have HN := Lib.hid hN
  clear hN hb
  obtain ⟨i0, hi, hz0, hz1, hz2⟩ := info_parts Try.infoInt
  go_enter Try.func31, Try.ntmps31
  go_wp2_with (go_at_call 49; refine (HOUT.out _).mono ?_; rintro e w' ⟨rfl, rfl⟩)
  go_loopw [6, 7] (fun o iv wr => ∃ v : Nat, v ≤ N ∧ iv = .int .i64 v ∧ wr.ownsRow w.heap.size 3 1 o v (i64L (distF N b) v) ∧ Below w.heap.size w wr) (fun _ iv _ => N - (intOf iv).toNat)
  case atStart => exact ⟨0, Nat.zero_le _, rfl, World.ownsRow_nil _ _ _ _, Below.refl _ _⟩
  case round =>
    obtain ⟨v, hv, rfl, hown, hbl⟩ := hrel
    by_cases hlt : v < N
    · have HO := Lib.hid hown
      have HB := Lib.hid hbl
      clear hown hbl
      go_wp2_with (go_at_call 45; refine (rsize_any k N _ hk HN.out).mono ?_; rintro e w' ⟨rfl, rfl⟩)
      go_loop [8, 9] (fun o i => ∃ u : Nat, u ≤ N ∧ i = .int .i64 u ∧ o = .int .i64 (nearN 9 b v u : Nat)) (fun _ i => N - (intOf i).toNat)
      case atStart => exact ⟨0, Nat.zero_le _, rfl, rfl⟩
      case round =>
        obtain ⟨u, hu, rfl, rfl⟩ := hrel
        by_cases hltu : u < N
        · have hS : nearN 9 b v (u + 1) = if b.testBit u = true then min (nearN 9 b v u) (popc (u ^^^ v)) else nearN 9 b v u := rfl
          obtain ⟨q, eq⟩ : ∃ q, q = nearN 9 b v u := ⟨_, rfl⟩
          obtain ⟨r, er⟩ : ∃ r, r = nearN 9 b v (u + 1) := ⟨_, rfl⟩
          rw [← er, ← eq] at hS
          rw [← eq]
          have HR := Lib.hid er
          clear eq er
          cases hbu : b.testBit u
          · rw [hbu, if_neg (by simp)] at hS
            have HS := Lib.hid hS
            have HBU := Lib.hid hbu
            clear hS hbu
            go_wp2_with (first | (go_at_call 45; refine (rsize_any k N _ hk HN.out).mono ?_; rintro e w' ⟨rfl, rfl⟩) | (go_at_call 50; refine (rin_val b u _ _ hb64 (by omega) HBU.out).mono ?_; rintro e w' ⟨rfl, rfl⟩))
            go_round
            case rel => exact ⟨u + 1, by omega, by go_num, by rw [← HR.out, HS.out]⟩
            case measure => simp [intOf]; omega
          · rw [hbu, if_pos rfl] at hS
            have HS := Lib.hid hS
            have HBU := Lib.hid hbu
            clear hS hbu
            go_wp2_with (first | (go_at_call 45; refine (rsize_any k N _ hk HN.out).mono ?_; rintro e w' ⟨rfl, rfl⟩) | (go_at_call 50; refine (rin_val b u _ _ hb64 (by omega) HBU.out).mono ?_; rintro e w' ⟨rfl, rfl⟩) | (go_at_call 52; refine (rapart_any u v _ (by omega) (by omega)).mono ?_; rintro e w' ⟨rfl, rfl⟩))
            go_round
            case rel => exact ⟨u + 1, by omega, by go_num, by rw [← HR.out, HS.out]; split <;> (congr 1; omega)⟩
            case measure => simp [intOf]; omega
        · have hun : u = N := by omega
          have HV : Hid (b ≠ 0 → nearN 9 b v u = distF N b v) := Lib.hid fun h => by rw [hun]; exact HNB.out v h
          have HV0 := Lib.hid (fun h => HNZ.out h v)
          have hnle : nearN 9 b v u ≤ 9 := (near_spec 9 b v u).1
          obtain ⟨q, eq⟩ : ∃ q, q = nearN 9 b v u := ⟨_, rfl⟩
          rw [← eq] at HV hnle
          rw [← eq]
          have hown := HO.out
          have hbl := HB.out
          have hsz1 := hbl.size
          clear eq
          by_cases h0 : b = 0
          · have h1 : ((b : Int) == 0) = true := by rw [h0]; rfl
            have HVV := Lib.hid (HV0.out h0)
            clear HV HV0 h0 hun
            go_wp2_with (first | (go_at_call 45; refine (rsize_any k N _ hk HN.out).mono ?_; rintro e w' ⟨rfl, rfl⟩) | (at_builtin; refine wpList_append_own _ rfl _ _ 22 rfl w.heap.size 3 i0 (.int .i64 0) 1 8 Try.underlying22 hi hz0 hz1 hz2 rfl (by decide) _ _ _ rfl (hown.alloc _) ⟨_, 0, none⟩ 1 1 [.int .i64 0] rfl rfl (cell_one_new _ _ _) (one_oneCell rfl) (by unfold maxLen; omega) (by omega) (by simp; omega) ?_; intro v' w3 hown' hgrow _))
            go_roundw
            case rel => exact ⟨v + 1, by omega, by go_num, by rw [i64L_succ, HVV.out]; exact hown', (hbl.alloc hsz1 _).grown hgrow (by simp; omega) (fun k hk => (hown.lt k hk).1)⟩
            case measure => simp [intOf]; omega
          · have h1 : ((b : Int) == 0) = false := by rw [beq_eq_false_iff_ne]; omega
            have HVV := Lib.hid (HV.out h0)
            clear HV HV0 h0 hun
            go_wp2_with (first | (go_at_call 45; refine (rsize_any k N _ hk HN.out).mono ?_; rintro e w' ⟨rfl, rfl⟩) | (at_builtin; refine wpList_append_own _ rfl _ _ 22 rfl w.heap.size 3 i0 (.int .i64 0) 1 8 Try.underlying22 hi hz0 hz1 hz2 rfl (by decide) _ _ _ rfl (hown.alloc _) ⟨_, 0, none⟩ 1 1 [.int .i64 (q : Nat)] rfl rfl (cell_one_new _ _ _) (one_oneCell rfl) (by unfold maxLen; omega) (by omega) (by simp; omega) ?_; intro v' w3 hown' hgrow _))
            go_roundw
            case rel => exact ⟨v + 1, by omega, by go_num, by rw [i64L_succ, ← HVV.out]; exact hown', (hbl.alloc hsz1 _).grown hgrow (by simp; omega) (fun k hk => (hown.lt k hk).1)⟩
            case measure => simp [intOf]; omega
    · obtain rfl : v = N := by omega
      obtain ⟨A2, c2, rfl, hi64⟩ := own_i64s hown (fun u hu => by have := distF_le v b u; omega)
      have HI := Lib.hid hi64
      have HB := Lib.hid hbl
      clear hown hbl hi64
      go_wp2_with (go_at_call 45; refine (rsize_any k v _ hk HN.out).mono ?_; rintro e w' ⟨rfl, rfl⟩)
      go_ret2
      exact ⟨_, _, rfl, HI.out, HB.out⟩
set_option maxHeartbeats 1000000 in
theorem rDalal_any (n : Int) (b s : Nat) (w : World) (hb : b < 18446744073709551616) (hs : s < 18446744073709551616) :
    Calls Try.prog 33 #[.int .i64 n, .int .u64 b, .int .u64 s] w fun e w' => e = .returned (.tuple #[.int .u64 (dalV n b s : Nat), .int .i64 (dalErr n b s : Nat)]) ∧ Below w.heap.size w w' := by
  obtain ⟨V, eV⟩ : ∃ V, V = dalV n b s := ⟨_, rfl⟩
  obtain ⟨O, eO⟩ : ∃ O, O = dalErr n b s := ⟨_, rfl⟩
  rw [← eO, ← eV]
  by_cases h0 : distErr n b = 0
  · obtain ⟨k, rfl, hk, hbk⟩ := distErr_ok h0
    obtain ⟨N, hN⟩ : ∃ N, N = 2 ^ k := ⟨_, rfl⟩
    have hN16 := pow_le16 hN hk
    have hD := rDistances_in k N b w hk hN (by rw [hN]; exact hbk) hb
    have hr := distI_ok k N b hk hN
    have hO : O = rvsErr k N (fun u => (distF N b u : Int)) s := by
      rw [eO]; unfold dalErr rvsErr
      rw [if_pos h0, if_pos hr, hN]; rfl
    have hV : V = rvsV k N (fun u => (distF N b u : Int)) s := by
      rw [eV]; unfold dalV rvsV
      rw [← eO, ← hO]
      unfold dalS
      rw [hN]; rfl
    have HD := Lib.hid hD
    have HV := Lib.hid hV
    have HO := Lib.hid hO
    clear hD hV hO eV eO hr h0 hN hbk
    go_enter Try.func33, Try.ntmps33
    go_wp2_with fail
    refine HD.out.mono ?_
    rintro e w1 ⟨A2, c2, rfl, hX, hbl⟩
    have hR := rRevise_any k N c2 s _ _ w1 hX (by omega) hs
    rw [← HV.out, ← HO.out] at hR
    have HR := Lib.hid hR
    have HB := Lib.hid hbl
    clear hbl hX hR
    go_wp2_with (go_at_call 24; refine HR.out.mono ?_; rintro e w2 ⟨rfl, hst⟩; have HB := Lib.hid (HB.out.trans (hst.mono HB.out.size)); clear hst)
    go_ret2
    exact ⟨rfl, HB.out⟩
  · have hO : O = distErr n b := by rw [eO]; exact if_neg h0
    have hV : V = 0 := by rw [eV]; exact if_neg (by rw [← eO, hO]; exact h0)
    have hD := rDistances_err n b w hb h0
    rw [← hO] at hD
    have hne : ((O : Int) != 0) = true := by rw [bne_iff_ne]; omega
    have HD := Lib.hid hD
    have HV := Lib.hid hV
    clear hD hV hO eV eO h0
    go_enter Try.func33, Try.ntmps33
    go_wp2_with fail
    refine HD.out.mono ?_
    rintro e w1 ⟨rfl, rfl⟩
    go_wp2_with fail
    go_ret2
    exact ⟨by rw [HV.out]; rfl, Below.refl _ _⟩

/-! ### Iterate -/
theorem rIterate_err (n : Int) (len c s : Nat) (A : Option Addr) (f : Nat → Int) (w : World) (hx : I64s w A len f) (hlen : len ≤ 9223372036854775807) (hs : s < 18446744073709551616) (he : rvsErr n len f s ≠ 0) :
    Calls Try.prog 26 #[.int .i64 n, .slice A len c, .int .u64 s] w fun e w' => e = .returned (.tuple #[.slice none 0 0, .int .i64 (rvsErr n len f s : Nat)]) ∧ Below w.heap.size w w' := by
  have HC := Lib.hid (rRevise_any n len c s A f w hx hlen hs)
  obtain ⟨E, eE⟩ : ∃ E, E = rvsErr n len f s := ⟨_, rfl⟩
  rw [← eE] at HC he ⊢
  have hne : ((E : Int) != 0) = true := by rw [bne_iff_ne]; omega
  clear hx eE he
  go_enter Try.func26, Try.ntmps26
  go_wp2_with (go_at_call 24; refine HC.out.mono ?_; rintro e w2 ⟨rfl, hst⟩; have HB := Lib.hid hst; clear hst)
  go_ret2
  exact ⟨rfl, HB.out⟩
/-- The ranks in the midst of a radical revision, of the reference. -/
def shiftR (s : Nat) (f : Nat → Int) (u : Nat) : Nat := (shiftF s 2000 f u).toNat
set_option maxHeartbeats 2000000 in
theorem rIterate_in (k N c s : Nat) (A : Option Addr) (f : Nat → Int) (w : World) (hx : I64s w A N f) (hk : k ≤ 4) (hN : N = 2 ^ k) (hr : revErr k N f = 0) (hs : s < 2 ^ N) :
    Calls Try.prog 26 #[.int .i64 k, .slice A N c, .int .u64 s] w (RdPost N (iterF N s f) w) := by
  have hN16 := pow_le16 hN hk
  have hs64 : s < 18446744073709551616 := Nat.lt_trans hs (pow_lt64 (by omega))
  obtain ⟨-, -, -, -, hrange⟩ := revErr_ok hr
  have hR := rRevise_any k N c s A f w hx (by omega) hs64
  rw [show rvsErr k N f s = 0 by unfold rvsErr; rw [if_pos hr, if_pos hs]] at hR
  have HR := Lib.hid hR
  have HX := Lib.hid hx
  have HRG := Lib.hid hrange
  clear hx hR hr hN hs hrange
  obtain ⟨i0, hi, hz0, hz1, hz2⟩ := info_parts Try.infoInt
  go_enter Try.func26, Try.ntmps26
  go_wp2_with (go_at_call 24; refine HR.out.mono ?_; rintro e w1 ⟨rfl, hst⟩; have HB := Lib.hid hst; clear hst)
  have HB0 := Lib.hid HB.out
  have hb0 := HB.out.size
  clear HB HR
  go_loopw [10, 11] (fun o iv wr => ∃ v : Nat, v ≤ N ∧ iv = .int .i64 v ∧ wr.ownsRow w1.heap.size 3 1 o v (i64L (shiftR s f) v) ∧ Below w1.heap.size w1 wr) (fun _ iv _ => N - (intOf iv).toNat)
  case atStart => exact ⟨0, Nat.zero_le _, rfl, World.ownsRow_nil _ _ _ _, Below.refl _ _⟩
  case round =>
    obtain ⟨v, hv, rfl, hown, hbl⟩ := hrel
    by_cases hlt : v < N
    · obtain ⟨b, off, rfl, hcx, -, -⟩ := HX.out.below (HB0.out.trans (hbl.mono hb0)) v hlt
      obtain ⟨hx1, hx2⟩ := HRG.out v hlt
      have hsz1 := hbl.size
      have HSY := Lib.hid (show s.testBit v = true → ((shiftR s f v : Nat) : Int) = f v from fun h => by unfold shiftR shiftF; rw [if_pos h]; omega)
      have HSN := Lib.hid (show s.testBit v = false → ((shiftR s f v : Nat) : Int) = f v + 2000 from fun h => by unfold shiftR shiftF; rw [if_neg (by rw [h]; exact fun h => by cases h)]; omega)
      obtain ⟨x, ex⟩ : ∃ x, x = f v := ⟨_, rfl⟩
      rw [← ex] at hcx hx1 hx2 HSY HSN
      clear ex
      cases hbv : s.testBit v
      · have HBV := Lib.hid hbv
        have HS := Lib.hid (HSN.out hbv)
        clear HSY HSN hbv
        go_wp2_with (first | (go_at_call 50; refine (rin_val s v _ _ hs64 (by omega) HBV.out).mono ?_; rintro e w' ⟨rfl, rfl⟩) | (at_builtin; refine wpList_append_own _ rfl _ _ 22 rfl w1.heap.size 3 i0 (.int .i64 0) 1 8 Try.underlying22 hi hz0 hz1 hz2 rfl (by decide) _ _ _ rfl (hown.alloc _) ⟨_, 0, none⟩ 1 1 [.int .i64 (x + 2000)] rfl rfl (cell_one_new _ _ _) (one_oneCell rfl) (by unfold maxLen; omega) (by omega) (by simp; omega) ?_; intro v' w3 hown' hgrow _))
        go_roundw
        case rel => exact ⟨v + 1, by omega, by go_num, by rw [i64L_succ, HS.out]; exact hown', (hbl.alloc hsz1 _).grown hgrow (by simp; omega) (fun k hk => (hown.lt k hk).1)⟩
        case measure => simp [intOf]; omega
      · have HBV := Lib.hid hbv
        have HS := Lib.hid (HSY.out hbv)
        clear HSY HSN hbv
        go_wp2_with (first | (go_at_call 50; refine (rin_val s v _ _ hs64 (by omega) HBV.out).mono ?_; rintro e w' ⟨rfl, rfl⟩) | (at_builtin; refine wpList_append_own _ rfl _ _ 22 rfl w1.heap.size 3 i0 (.int .i64 0) 1 8 Try.underlying22 hi hz0 hz1 hz2 rfl (by decide) _ _ _ rfl (hown.alloc _) ⟨_, 0, none⟩ 1 1 [.int .i64 x] rfl rfl (cell_one_new _ _ _) (one_oneCell rfl) (by unfold maxLen; omega) (by omega) (by simp; omega) ?_; intro v' w3 hown' hgrow _))
        go_roundw
        case rel => exact ⟨v + 1, by omega, by go_num, by rw [i64L_succ, HS.out]; exact hown', (hbl.alloc hsz1 _).grown hgrow (by simp; omega) (fun k hk => (hown.lt k hk).1)⟩
        case measure => simp [intOf]; omega
    · obtain rfl : v = N := by omega
      have hle : ∀ u, u < v → ((shiftR s f u : Nat) : Int) = shiftF s 2000 f u ∧ shiftR s f u ≤ 3000 := fun u hu => by
        obtain ⟨h1, h2⟩ := HRG.out u hu
        unfold shiftR shiftF
        split <;> omega
      obtain ⟨A2, c2, rfl, hi64⟩ := own_i64s hown (fun u hu => by have := (hle u hu).2; omega)
      have HCA := Lib.hid (rcanonical_any A2 v c2 _ wr hi64 hN16)
      have HEQ : Hid (∀ u, u < v → canF v (fun u => (shiftR s f u : Int)) u = iterF v s f u) := Lib.hid fun u hu => by
        rw [← iter_ref (fun u hu => by have := HRG.out u hu; omega) hu]
        exact canF_congr hu fun x y hx hy => by rw [(hle x hx).1, (hle y hy).1]
      have HB := Lib.hid (HB0.out.trans (hbl.mono hb0))
      clear hown hbl hi64 hle
      go_wp2_with fail
      refine HCA.out.mono ?_
      rintro e w2 ⟨A3, c3, rfl, hI, hst⟩
      have HI : Hid (I64s w2 A3 v (fun u => (iterF v s f u : Int))) := Lib.hid fun u hu => by
        have h := hI u hu
        dsimp only at h ⊢
        rw [HEQ.out u hu] at h
        exact h
      have HB := Lib.hid (HB.out.trans (hst.mono HB.out.size))
      clear hI hst HCA
      go_wp2_with fail
      go_ret2
      exact ⟨_, _, rfl, HI.out, HB.out⟩
end Go.Proofs.Ytnilfpcipclagaa
