/-
  Walks: the laws RevisionIterates, RevisionNear.
-/
import Derived.Test.YtnilfpcipclagaaProg
import Derived.Test.YtnilfpcipclagaaBase
import Derived.Test.YtnilfpcipclagaaRow
import Derived.Test.YtnilfpcipclagaaRowsOf
import Derived.Test.YtnilfpcipclagaaOpenW
import Derived.Test.YtnilfpcipclagaaLeast
import Derived.Test.YtnilfpcipclagaaRkP
import Derived.Test.YtnilfpcipclagaaRkQ
import Derived.Test.YtnilfpcipclagaaRkA
import Derived.Test.YtnilfpcipclagaaRkB
import Derived.Test.YtnilfpcipclagaaRkD
import Derived.Test.YtnilfpcipclagaaRkC
import Derived.Test.YtnilfpcipclagaaRkT
import Derived.Test.YtnilfpcipclagaaRkU
import Derived.Test.YtnilfpcipclagaaRkK
import Derived.Test.YtnilfpcipclagaaRkL
import Derived.Test.YtnilfpcipclagaaRkM
namespace Go.Proofs.Ytnilfpcipclagaa
open Go.RowKit

theorem iter3 (c s : Nat) (A : Option Addr) (f : Nat → Int) (w : World) (h : I64s w A 8 f) (hr : revErr (3 : Nat) 8 f = 0) (hs : s < 256) :
    Calls Try.prog 25 #[.int .i64 3, .slice A 8 c, .int .u64 s] w fun e w' => ∃ A2 c2, e = .returned (.tuple #[.slice A2 8 c2, .int .i64 0]) ∧ I64s w' A2 8 (gI (iterF 8 s f)) ∧ Below w.heap.size w w' := by
  have h := Iterate_slc (3 : Nat) 8 c s A f w h (by decide) (by omega)
  have he : rvsErr (3 : Nat) 8 f s = 0 := by unfold rvsErr; rw [if_pos hr, if_pos (by omega)]
  rw [he] at h; exact h
theorem err_iter {g : Nat → Int} {s : Nat} : revErr (3 : Nat) 8 (gI (iterF 8 s g)) = 0 := revErr_of (by decide) (by decide) fun i hi => by
  have := iter_lt (s := s) (f := g) hi
  unfold gI; omega
theorem two_cells {w : World} {A : Option Addr} {n : Nat} {f : Nat → Int} (h : I64s w A n f) {u v : Nat} (hu : u < n) (hv : v < n) :
    ∃ b off, A = some ⟨b, off, none⟩ ∧ w.cell? ⟨b, off + u, none⟩ = some (.int .i64 (f u)) ∧ w.cell? ⟨b, off + v, none⟩ = some (.int .i64 (f v)) := by
  obtain ⟨b, off, rfl, h1, -⟩ := h u hu
  obtain ⟨b2, off2, e, h2, -⟩ := h v hv
  injection e with e
  injection e with e1 e2
  subst e1 e2
  exact ⟨b, off, rfl, h1, h2⟩
set_option maxHeartbeats 8000000 in
set_option maxRecDepth 100000 in
theorem iterates_core (n c x : Nat) (A : Option Addr) (f : Nat → Nat) (w : World) (hl : U8s w A n f) (hn : n ≤ 9223372036854775807) (hx : x < 256) :
    Calls Try.prog 10 #[.slice A n c, .int .u8 x] w fun e w' => e = .returned (.bool true) ∧ Below w.heap.size w w' := by
  have HB := Lib.hid (Below.refl w.heap.size w)
  have HRK := Lib.hid (ranked3 n c A f w hl hn)
  have hr := err3 (rkF_lt hl)
  have HGL := Lib.hid (rkF_lt hl)
  obtain ⟨g, eg⟩ : ∃ g, g = rkF n f := ⟨_, rfl⟩
  rw [← eg] at HRK hr HGL
  have HR := Lib.hid hr
  have hrs := err_iter (g := gI g) (s := x)
  obtain ⟨h, eh⟩ : ∃ h, h = iterF 8 x (gI g) := ⟨_, rfl⟩
  obtain ⟨X, eX⟩ : ∃ X, X = lst 8 (gI g) x := ⟨_, rfl⟩
  obtain ⟨B, eB⟩ : ∃ B, B = lst 8 (gI h) 255 := ⟨_, rfl⟩
  have hBX : x ≠ 0 → B = X := fun h0 => by rw [eB, eX, eh]; exact iter_bel (n := 8) (by omega) h0
  have hx0 : ((x : Int) != 0) = false ∨ (((x : Int) != 0) = true ∧ ((B : Int) != (X : Int)) = false) := by
    by_cases h : x = 0
    · left; rw [h]; rfl
    · right; have := hBX h
      exact ⟨by rw [bne_iff_ne]; omega, by rw [this]; simp⟩
  have HC1 := Lib.hid (fun W A c (h : I64s W A 8 (gI g)) => iter3 c x A (gI g) W h HR.out hx)
  rw [← eh] at hrs HC1
  have HRS := Lib.hid hrs
  have HC2 := Lib.hid (fun W A c (h2 : I64s W A 8 (gI h)) => bel3 c A (gI h) W h2 HRS.out)
  have HC3 := Lib.hid (fun W A c (h : I64s W A 8 (gI g)) => rev3 c x A (gI g) W h HR.out hx)
  rw [← eB] at HC2
  rw [← eX] at HC3
  have HX0 := Lib.hid hx0
  have HSM : Hid (∀ u v, u < 8 → v < 8 → x.testBit u = x.testBit v → (h u ≤ h v ↔ g u ≤ g v)) := Lib.hid fun u v hu hv e => by
    rw [eh, iter_same hu hv e]; unfold gI; omega
  have HAB : Hid (∀ u v, u < 8 → v < 8 → x.testBit u = true → x.testBit v = false → h u < h v) := Lib.hid fun u v hu hv h1 h2 => by
    rw [eh]; exact iter_above hu hv h1 h2
  have HHL : Hid (∀ u, u < 8 → h u < 8) := Lib.hid fun u hu => by rw [eh]; exact iter_lt hu
  clear hl hr eg eh hrs eX eB hBX hx0
  go_enter Try.func10, Try.ntmps10
  go_wp2_with fail
  refine HRK.out.mono ?_
  rintro e w1 ⟨A1, c1, rfl, hi, hst⟩
  have HB := Lib.hid (HB.out.trans (hst.mono HB.out.size))
  have HI := Lib.hid hi
  clear hi hst
  go_wp2_with fail
  refine (HC1.out _ _ _ HI.out).mono ?_
  rintro e w2 ⟨A2, c2, rfl, hi, hst⟩
  have HB := Lib.hid (HB.out.trans (hst.mono HB.out.size))
  have HI := Lib.hid (HI.out.below hst)
  have HJ := Lib.hid hi
  clear hi hst
  go_wp2_with fail
  refine (HC2.out _ _ _ HJ.out).mono ?_
  rintro e w' ⟨rfl, rfl⟩
  go_wp2_with fail
  refine (HC3.out _ _ _ HI.out).mono ?_
  rintro e w' ⟨rfl, rfl⟩
  clear HRK HC1 HC2 HC3 HR HRS
  rcases HX0.out with h1 | ⟨h1, h2⟩
  all_goals
    clear HX0
    go_wp2_with fail
    go_loopw [12] (fun iv wr => ∃ u : Nat, u ≤ 8 ∧ iv = .int .i64 u ∧ Below w2.heap.size w2 wr) (fun iv _ => 8 - (intOf iv).toNat)
    case atStart => exact ⟨0, by omega, rfl, Below.refl _ _⟩
    case round =>
      obtain ⟨u, hu, rfl, hbl⟩ := hrel
      by_cases hlt : u < 8
      · have HBU := Lib.hid hbl
        clear hbl
        go_wp2_with fail
        go_loopw [13] (fun iv wr => ∃ v : Nat, v ≤ 8 ∧ iv = .int .i64 v ∧ Below w2.heap.size w2 wr) (fun iv _ => 8 - (intOf iv).toNat)
        case atStart => exact ⟨0, by omega, rfl, HBU.out⟩
        case round =>
          clear HBU
          obtain ⟨v, hv, rfl, hbl⟩ := hrel
          by_cases hltv : v < 8
          · have hbu := u8_has x u hx
            have hbv := u8_has x v hx
            obtain ⟨b1, o1, rfl, cu, cv⟩ := two_cells (HI.out.below hbl) hlt hltv
            obtain ⟨b2, o2, rfl, du, dv⟩ := two_cells (HJ.out.below hbl) hlt hltv
            have hsm := HSM.out u v hlt hltv
            have hab := HAB.out u v hlt hltv
            have g1 := HGL.out u
            have g2 := HGL.out v
            have g3 := HHL.out u hlt
            have g4 := HHL.out v hltv
            unfold gI at cu cv du dv
            obtain ⟨p, ep⟩ : ∃ p, p = x.testBit u := ⟨_, rfl⟩
            obtain ⟨q, eq⟩ : ∃ q, q = x.testBit v := ⟨_, rfl⟩
            obtain ⟨ru, e1⟩ : ∃ a, a = g u := ⟨_, rfl⟩
            obtain ⟨rv, e2⟩ : ∃ a, a = g v := ⟨_, rfl⟩
            obtain ⟨su, e3⟩ : ∃ a, a = h u := ⟨_, rfl⟩
            obtain ⟨sv, e4⟩ : ∃ a, a = h v := ⟨_, rfl⟩
            rw [← ep] at hbu hsm hab
            rw [← eq] at hbv hsm hab
            rw [← e1] at cu g1 hsm
            rw [← e2] at cv g2 hsm
            rw [← e3] at du g3 hsm hab
            rw [← e4] at dv g4 hsm hab
            have HBV := Lib.hid hbl
            clear hbl ep eq e1 e2 e3 e4
            have hub : (u : Int) < 8 := by omega
            have hvb : (v : Int) < 8 := by omega
            cases p
            · cases q
              · have hs := hsm rfl
                obtain ⟨t, et⟩ : ∃ t, t = decide (su ≤ sv) := ⟨_, rfl⟩
                have t1 := et.symm
                have t2 : decide (ru ≤ rv) = t := by rw [et, decide_eq_decide]; omega
                clear hs hsm hab et
                cases t
                · go_wp2_with fail
                  go_quiet (fail)
                  go_wp2_with fail
                  go_roundw
                  case rel => exact ⟨v + 1, by omega, by go_num, below_drewN HBV.out _⟩
                  case measure => simp [intOf]; omega
                · go_wp2_with fail
                  go_quiet (fail)
                  go_wp2_with fail
                  go_roundw
                  case rel => exact ⟨v + 1, by omega, by go_num, below_drewN HBV.out _⟩
                  case measure => simp [intOf]; omega
              · clear hsm hab
                go_wp2_with fail
                go_quiet (fail)
                go_wp2_with fail
                go_roundw
                case rel => exact ⟨v + 1, by omega, by go_num, below_drewN HBV.out _⟩
                case measure => simp [intOf]; omega
            · cases q
              · have hs := hab rfl rfl
                have t1 : decide (sv ≤ su) = false := decide_eq_false (by omega)
                have t2 : decide (su < sv) = true := decide_eq_true (by omega)
                clear hs hsm hab
                go_wp2_with fail
                go_quiet (fail)
                go_wp2_with fail
                go_roundw
                case rel => exact ⟨v + 1, by omega, by go_num, below_drewN HBV.out _⟩
                case measure => simp [intOf]; omega
              · have hs := hsm rfl
                obtain ⟨t, et⟩ : ∃ t, t = decide (su ≤ sv) := ⟨_, rfl⟩
                have t1 := et.symm
                have t2 : decide (ru ≤ rv) = t := by rw [et, decide_eq_decide]; omega
                clear hs hsm hab et
                cases t
                · go_wp2_with fail
                  go_quiet (fail)
                  go_wp2_with fail
                  go_roundw
                  case rel => exact ⟨v + 1, by omega, by go_num, below_drewN HBV.out _⟩
                  case measure => simp [intOf]; omega
                · go_wp2_with fail
                  go_quiet (fail)
                  go_wp2_with fail
                  go_roundw
                  case rel => exact ⟨v + 1, by omega, by go_num, below_drewN HBV.out _⟩
                  case measure => simp [intOf]; omega
          · obtain rfl : v = 8 := by omega
            have HBV := Lib.hid hbl
            clear hbl
            go_wp2_with fail
            go_roundw
            case rel => exact ⟨u + 1, by omega, by go_num, HBV.out⟩
            case measure => simp [intOf]; omega
      · obtain rfl : u = 8 := by omega
        have HB := Lib.hid (HB.out.trans (hbl.mono HB.out.size))
        clear hbl
        go_wp2_with (go_at_call 15; refine (awake_any _).mono ?_; rintro e w2 ⟨rfl, hst⟩; have HB := Lib.hid (HB.out.trans (hst.mono HB.out.size)); clear hst)
        go_ret
        exact ⟨rfl, HB.out⟩

theorem dist4 (b : Nat) (w : World) (hb : b < 65536) :
    Calls Try.prog 30 #[.int .i64 4, .int .u64 b] w fun e w' => ∃ A2 c2, e = .returned (.tuple #[.slice A2 16 c2, .int .i64 0]) ∧ I64s w' A2 16 (gI (distF 16 b)) ∧ Below w.heap.size w w' := by
  refine (Distances_in 4 16 b w (by decide) (by decide) (by omega) (by omega)).mono ?_
  rintro e w' ⟨rfl, hr, hb⟩
  exact ⟨_, _, rfl, hr.i64s (fun u => by have := distF_le 16 b u; omega), hb⟩
theorem dal4 (b s : Nat) (w : World) (hb : b < 65536) (hs : s < 65536) :
    Calls Try.prog 32 #[.int .i64 4, .int .u64 b, .int .u64 s] w fun e w' => e = .returned (.tuple #[.int .u64 (dalS 16 b s : Nat), .int .i64 0]) ∧ Below w.heap.size w w' := by
  have h := Dalal_any (4 : Nat) b s w (by omega) (by omega)
  have hd : distErr (4 : Nat) b = 0 := by
    unfold distErr; rw [if_pos (by decide), if_pos]; show b < 2 ^ 16; omega
  have he : dalErr (4 : Nat) b s = 0 := by
    unfold dalErr; rw [if_pos hd, if_pos]; show s < 2 ^ 16; omega
  rw [he, show dalV (4 : Nat) b s = dalS 16 b s from if_pos he] at h; exact h
set_option maxHeartbeats 8000000 in
set_option maxRecDepth 100000 in
theorem near_core (b s : Nat) (w : World) (hb : b < 65536) (hs : s < 65536) :
    Calls Try.prog 11 #[.int .u16 b, .int .u16 s] w fun e w' => e = .returned (.bool true) ∧ Below w.heap.size w w' := by
  have HB := Lib.hid (Below.refl w.heap.size w)
  have HD1 := Lib.hid (fun W => dist4 b W hb)
  have HD2 := Lib.hid (fun W => dal4 b s W hb hs)
  obtain ⟨S, eS⟩ : ∃ S, S = dalS 16 b s := ⟨_, rfl⟩
  obtain ⟨D, eD⟩ : ∃ D, D = b &&& s := ⟨_, rfl⟩
  have hbs := u16_and b s hb hs
  rw [← eD] at hbs
  have hDl : D < 65536 := by rw [eD]; exact Nat.lt_of_le_of_lt Nat.and_le_left hb
  have hSD : D ≠ 0 → S = D := fun h => by rw [eS, eD]; rw [eD] at h; exact dal_both (by omega) h ⟨4, by decide, by decide⟩
  have hd0 : ((D : Int) != 0) = false ∨ (((D : Int) != 0) = true ∧ ((S : Int) != (D : Int)) = false) := by
    by_cases h : D = 0
    · left; rw [h]; rfl
    · right; have := hSD h
      exact ⟨by rw [bne_iff_ne]; omega, by rw [this]; simp⟩
  rw [← eS] at HD2
  have HZ : Hid (∀ v, v < 16 → b ≠ 0 → (distF 16 b v = 0 ↔ b.testBit v = true)) := Lib.hid fun v hv h0 => dist_zero (k := 4) (by decide) (by decide) (by omega) h0 hv
  have HST : Hid (∀ u v i, v < 16 → i < 4 → u = v ^^^ 2 ^ i → distF 16 b u ≤ distF 16 b v + 1) := Lib.hid fun u v i hv hi hu => dist_step (by omega) hv hi hu
  have HLE : Hid (∀ v, distF 16 b v ≤ 4) := Lib.hid fun v => distF_le 16 b v
  have HD0 := Lib.hid hd0
  obtain ⟨d, ed⟩ : ∃ d, d = distF 16 b := ⟨_, rfl⟩
  rw [← ed] at HD1 HZ HST HLE
  have hb0 : ((b : Int) != 0) = false ∨ (((b : Int) != 0) = true ∧ b ≠ 0) := by
    by_cases h : b = 0
    · left; rw [h]; rfl
    · right; exact ⟨by rw [bne_iff_ne]; omega, h⟩
  have HB0 := Lib.hid hb0
  clear eS eD hSD hd0 ed hb0
  go_enter Try.func11, Try.ntmps11
  go_wp2_with fail
  refine (HD1.out _).mono ?_
  rintro e w1 ⟨A1, c1, rfl, hi, hst⟩
  have HB := Lib.hid (HB.out.trans (hst.mono HB.out.size))
  have HI := Lib.hid hi
  clear hi hst
  go_wp2_with fail
  refine (HD2.out _).mono ?_
  rintro e w2 ⟨rfl, hst⟩
  have HB := Lib.hid (HB.out.trans (hst.mono HB.out.size))
  have HI := Lib.hid (HI.out.below hst)
  clear hst HD1 HD2
  go_wp2_with fail
  go_loopw [9] (fun iv wr => ∃ v : Nat, v ≤ 16 ∧ iv = .int .i64 v ∧ Below w2.heap.size w2 wr) (fun iv _ => 16 - (intOf iv).toNat)
  case atStart => exact ⟨0, by omega, rfl, Below.refl _ _⟩
  case round =>
    obtain ⟨v, hv, rfl, hbl⟩ := hrel
    by_cases hlt : v < 16
    · have hbv := u16_has b v hb
      obtain ⟨b1, o1, rfl, cv, -⟩ := two_cells (HI.out.below hbl) hlt hlt
      unfold gI at cv
      have hz := HZ.out v hlt
      have hdl := HLE.out v
      obtain ⟨q, eq⟩ : ∃ q, q = b.testBit v := ⟨_, rfl⟩
      obtain ⟨dv, e1⟩ : ∃ a, a = d v := ⟨_, rfl⟩
      rw [← eq] at hbv hz
      rw [← e1] at cv hz hdl
      have hq : b ≠ 0 → ((dv : Int) == 0) = q := fun h => by
        have := hz h
        cases q
        · rw [beq_eq_false_iff_ne]; intro h0; have : dv = 0 := by omega
          simp_all
        · rw [beq_iff_eq]; have := this.2 rfl; omega
      have HQ := Lib.hid hq
      have E1 := Lib.hid e1
      have HBV := Lib.hid hbl
      have hvb : (v : Int) < 16 := by omega
      clear hbl eq e1 hz hq
      rcases HB0.out with h1 | ⟨h1, h2⟩
      rotate_left
      have h3 := HQ.out h2
      clear h2
      rotate_right
      all_goals
        clear HQ
        try cases q
      all_goals
        go_wp2_with fail
        go_loopw [10] (fun iv wr => ∃ i : Nat, i ≤ 4 ∧ iv = .int .i64 i ∧ Below w2.heap.size w2 wr) (fun iv _ => 4 - (intOf iv).toNat)
        case atStart => exact ⟨0, by omega, rfl, HBV.out⟩
        case round =>
          clear HBV
          obtain ⟨i, hi, rfl, hbl⟩ := hrel
          by_cases hlti : i < 4
          · obtain ⟨P, hP⟩ : ∃ P : Nat, P = 2 ^ i := ⟨_, rfl⟩
            have hPl : P < 16 := by rw [hP]; exact Nat.pow_lt_pow_right (n := 4) (by decide) hlti
            have hsP := wrap_pow hP (by omega)
            obtain ⟨u, eu⟩ : ∃ u, u = v ^^^ P := ⟨_, rfl⟩
            have hxv := i64_xor_nat' v P hlt hPl
            rw [← eu] at hxv
            have hu : u < 16 := by rw [eu]; exact Nat.xor_lt_two_pow (n := 4) (by omega) (by omega)
            obtain ⟨b2, o2, e2, cu, cv2⟩ := two_cells (HI.out.below hbl) hu hlt
            injection e2 with e2
            injection e2 with e21 e22
            subst e21 e22
            unfold gI at cu cv2
            have h5 := HST.out u v i hlt hlti (by rw [eu, hP])
            have h6 := HLE.out u
            obtain ⟨du, ed⟩ : ∃ a, a = d u := ⟨_, rfl⟩
            rw [← ed] at cu h5 h6
            rw [← E1.out] at cv2 h5
            have hub : (u : Int) < 16 := by omega
            have t1 : decide (10 < (du : Int)) = false := decide_eq_false (by omega)
            have t2 : decide (10 < (dv : Int)) = false := decide_eq_false (by omega)
            have t3 : IntKind.i64.wrap ((du : Int) - (dv : Int)) = (du : Int) - (dv : Int) := IntWalk.i64_in _ (by omega)
            have t4 : decide (1 < (du : Int) - (dv : Int)) = false := decide_eq_false (by omega)
            have t5 : decide ((du : Int) < 0) = false := decide_eq_false (by omega)
            have t6 : decide ((dv : Int) < 0) = false := decide_eq_false (by omega)
            have HBV := Lib.hid hbl
            clear hbl hP eu ed h5 cv
            go_wp2_with fail
            go_quiet (fail)
            go_wp2_with fail
            go_roundw
            case rel => exact ⟨i + 1, by omega, by go_num, below_drewN HBV.out _⟩
            case measure => simp [intOf]; omega
          · obtain rfl : i = 4 := by omega
            have HBV := Lib.hid hbl
            clear hbl
            go_wp2_with fail
            go_roundw
            case rel => exact ⟨v + 1, by omega, by go_num, HBV.out⟩
            case measure => simp [intOf]; omega
    · obtain rfl : v = 16 := by omega
      have HB := Lib.hid (HB.out.trans (hbl.mono HB.out.size))
      clear hbl
      rcases HD0.out with h1 | ⟨h1, h2⟩
      all_goals
        go_wp2_with (go_at_call 15; refine (awake_any _).mono ?_; rintro e w2 ⟨rfl, hst⟩; have HB := Lib.hid (HB.out.trans (hst.mono HB.out.size)); clear hst)
        go_ret
        exact ⟨rfl, HB.out⟩
end Go.Proofs.Ytnilfpcipclagaa
