/-
  Walks: the reference of layer 40: Check, byRanks, ByRanks, Table, Levi, Harper.
-/
import Derived.Test.YtiifmdgcnpdibaaDoorProg
import Derived.Test.YtiifmdgcnpdibaaDoorBase
import Derived.Test.YtiifmdgcnpdibaaDoorRow
import Derived.Test.YtiifmdgcnpdibaaDoorRowU
import Derived.Test.YtiifmdgcnpdibaaDoorRowsOf
import Derived.Test.YtiifmdgcnpdibaaDoorLeast
import Derived.Test.YtiifmdgcnpdibaaDoorRkQ
import Derived.Test.YtiifmdgcnpdibaaDoorRkB
import Derived.Test.YtiifmdgcnpdibaaDoorRkC3
import Derived.Test.YtiifmdgcnpdibaaDoorRkR3
import Derived.Test.YtiifmdgcnpdibaaDoorPoP
import Derived.Test.YtiifmdgcnpdibaaDoorCtP
import Derived.Test.YtiifmdgcnpdibaaDoorCtQ
import Derived.Test.YtiifmdgcnpdibaaDoorCtA
import Derived.Test.YtiifmdgcnpdibaaDoorCtB
import Derived.Test.YtiifmdgcnpdibaaDoorCtG
import Derived.Test.YtiifmdgcnpdibaaDoorCtRA
namespace Go.Proofs.YtiifmdgcnpdibaaDoor
open Go.RowKit

theorem all40_quiet (k N S n : Nat) (w : World) (hk : k ≤ 4) (hN : N = 2 ^ k) (hS : S = 2 ^ N) :
    Calls Tryd.prog 40 #[.int .i64 k] (w.drewN n) fun e w' => e = .returned (.int .u64 (S - 1 : Nat)) ∧ ∃ m, w' = w.drewN m :=
  Calls.quiet_of_same ((all40_any k N S _ hk hN hS).mono fun _ _ ⟨he, hw⟩ => ⟨he, hw.symm⟩)
set_option maxHeartbeats 1000000 in
theorem rCtChk_any (n : Int) (b len c : Nat) (A : Option Addr) (T : Nat → Nat) (w : World) (hT : U64s w A len T) (hlen : len ≤ 9223372036854775807) (hb : b < 18446744073709551616) :
    Calls Tryd.prog 26 #[.int .i64 n, .int .u64 b, .slice A len c] w fun e w' => e = .returned (.int .i64 (ctChk n b len T : Nat)) ∧ Below w.heap.size w w' := by
  have HC := Lib.hid (fun w => within_any n 3 3 b 0 w rfl (by decide) hb (by decide))
  by_cases h0 : ctErr 3 n b 0 = 0
  · obtain ⟨k, rfl, hk, hbS, -⟩ := ctErr_ok h0
    rw [h0] at HC
    obtain ⟨S, hSk⟩ : ∃ S, S = 2 ^ 2 ^ k := ⟨_, rfl⟩
    obtain ⟨N, hN⟩ : ∃ N, N = 2 ^ k := ⟨_, rfl⟩
    have hS : S = 2 ^ N := by rw [hN]; exact hSk
    have hN8 : N ≤ 8 := by rw [hN]; exact Nat.le_trans (Nat.pow_le_pow_right (n := 2) (j := 3) (by decide) hk) (by decide)
    obtain ⟨w1, w2, w3, w4, w5, w6⟩ := all_val4 hN (by omega) hS
    obtain ⟨v1, v2, v3, v4⟩ := two_val8 hN8 hS
    have hck := wrap_self (x := k) (by omega)
    have hmin : min k 64 = k := Nat.min_eq_left (by omega)
    have hmin2 : min N 64 = N := Nat.min_eq_left (by omega)
    have hE : ctChk k b len T = tabErr S len T := by
      unfold ctChk
      rw [if_pos (by omega), show setsZ k = S from hSk.symm, if_pos (by rw [hSk]; exact hbS)]
    rw [hE]
    have HAQ := Lib.hid (fun n w => all40_quiet k N S n w (by omega) hN hS)
    have HT := Lib.hid hT
    have HSM := Lib.hid (fun a ha => sub_mask (a := a) hS (by omega) ha)
    clear h0 hE hN hS hSk hT hbS
    by_cases hnS : len = S
    · have h1 : ((len : Int) != (S : Int)) = false := by rw [hnS]; simp
      have HV := Lib.hid (show tabErr S len T = if allB len (fun v => decide (T v < S)) then 0 else 2 by unfold tabErr; rw [if_pos hnS])
      obtain ⟨E, eE⟩ : ∃ E, E = tabErr S len T := ⟨_, rfl⟩
      rw [← eE] at HV ⊢
      clear eE
      go_enter Tryd.func26, Tryd.ntmps26
      go_wp2_with (go_at_call 38; refine (HC.out _).mono ?_; rintro e w' ⟨rfl, rfl⟩)
      go_loopw [8] (fun i wr => ∃ u : Nat, u ≤ len ∧ i = .int .i64 u ∧ Hid (∀ v, v < u → T v < S) ∧ Below w.heap.size w wr) (fun i _ => len - (intOf i).toNat)
      case atStart => exact ⟨0, Nat.zero_le _, rfl, Lib.hid (fun v h => absurd h (Nat.not_lt_zero _)), Below.refl _ _⟩
      case round =>
        obtain ⟨u, hu, rfl, HU, hbl⟩ := hrel
        by_cases hult : u < len
        · obtain ⟨b', off, rfl, hc, hl⟩ := (HT.out.below hbl) u hult
          have han := bits_andNot (T u) (S - 1) hl (by omega)
          have hsm := HSM.out _ hl
          obtain ⟨Q, eQ⟩ : ∃ Q, Q = andNot (T u) (S - 1) := ⟨_, rfl⟩
          rw [← eQ] at han hsm
          have HB := Lib.hid hbl
          clear hbl eQ
          by_cases ht : T u < S
          · rw [decide_eq_true ht] at hsm
            have hsm' : ((Q : Int) != 0) = false := hsm
            have HU2 : Hid (∀ v, v < u + 1 → T v < S) := Lib.hid fun v h => by
              rcases Nat.lt_succ_iff_lt_or_eq.1 h with h1 | rfl
              · exact HU.out v h1
              · exact ht
            clear hsm ht
            go_wp2_with fail
            go_quiet ((go_at_call 40; exact HAQ.out _ _))
            go_wp2_with fail
            go_roundw
            case rel => exact ⟨u + 1, by omega, by go_num, HU2, HB.out.trans (below_drewN (Below.refl _ _) _)⟩
            case measure => simp [intOf]; omega
          · rw [decide_eq_false ht] at hsm
            have hsm' : ((Q : Int) != 0) = true := hsm
            have HV2 := Lib.hid (show E = 2 by rw [HV.out, not_all hult (decide_eq_false ht)]; rfl)
            clear hsm ht
            go_wp2_with fail
            go_quiet ((go_at_call 40; exact HAQ.out _ _))
            go_wp2_with fail
            go_ret
            exact ⟨by rw [HV2.out]; rfl, HB.out.trans (below_drewN (Below.refl _ _) _)⟩
        · obtain rfl : u = len := by omega
          have HV2 := Lib.hid (show E = 0 by rw [HV.out, allB_iff.2 fun v hv => decide_eq_true (HU.out v hv)]; rfl)
          have HB := Lib.hid hbl
          clear hbl
          go_wp2_with fail
          go_ret
          exact ⟨by rw [HV2.out]; rfl, HB.out⟩
    · have h1 : ((len : Int) != (S : Int)) = true := by rw [bne_iff_ne]; omega
      have HV := Lib.hid (show tabErr S len T = 3 by unfold tabErr; rw [if_neg hnS])
      clear hnS
      go_enter Tryd.func26, Tryd.ntmps26
      go_wp2_with (go_at_call 38; refine (HC.out _).mono ?_; rintro e w' ⟨rfl, rfl⟩)
      go_ret
      exact ⟨by rw [HV.out]; rfl, Below.refl _ _⟩
  · have hE : ctChk n b len T = ctErr 3 n b 0 := by
      rw [ctErr_no h0]
      unfold ctChk
      by_cases h1 : 0 ≤ n ∧ n ≤ 3
      · rw [if_pos h1]
        by_cases h2 : b < setsZ n
        · exact absurd (show ctErr 3 n b 0 = 0 from if_pos ⟨h1.1, h1.2, h2, Nat.two_pow_pos _⟩) h0
        · rw [if_neg h2]
      · rw [if_neg h1]
    rw [hE]
    obtain ⟨E, eE⟩ : ∃ E, E = ctErr 3 n b 0 := ⟨_, rfl⟩
    rw [← eE] at HC h0 ⊢
    have hne : ((E : Int) != 0) = true := by rw [bne_iff_ne]; omega
    clear eE hE hT
    go_enter Tryd.func26, Tryd.ntmps26
    go_wp2_with (go_at_call 38; refine (HC.out _).mono ?_; rintro e w' ⟨rfl, rfl⟩)
    go_ret
    exact ⟨rfl, Below.refl _ _⟩

/-! ### by ranks -/
set_option maxHeartbeats 1000000 in
theorem rbr_any (k N S x c : Nat) (A : Option Addr) (f : Nat → Int) (w : World) (hf : I64s w A N f) (hk : k ≤ 4) (hN : N = 2 ^ k) (hS : S = 2 ^ N) (hr : revErr k N f = 0) (hx : x < S) :
    Calls Tryd.prog 52 #[.int .i64 k, .slice A N c, .int .u64 x] w fun e w' => e = .returned (.int .u64 (brk N S f (lst N f (S - 1)) x : Nat)) ∧ Below w.heap.size w w' := by
  have hN16 := pow_le16 hN hk
  obtain ⟨w1, w2, w3, w4, w5, w6⟩ := all_val4 hN hk hS
  have hbel := rBelief_any k N c A f w hf (by omega)
  have hBv : belV k N f = lst N f (S - 1) := by unfold belV; rw [if_pos hr, hS]
  rw [hr, hBv] at hbel
  have hBl := lst_lt N f (S - 1)
  rw [← hS] at hBl
  have hcl := cpl_lt S x w6
  have hre : rvsErr k N f (cpl S x) = 0 := by unfold rvsErr; rw [if_pos hr, if_pos (by rw [← hS]; exact hcl)]
  have hrv : rvsV k N f (cpl S x) = lst N f (cpl S x) := by unfold rvsV; rw [if_pos hre]
  have HRV : Hid (∀ W, I64s W A N f → Calls Tryd.prog 70 #[.int .i64 k, .slice A N c, .int .u64 (cpl S x : Nat)] W fun e w' => e = .returned (.tuple #[.int .u64 (lst N f (cpl S x) : Nat), .int .i64 ((0 : Nat) : Int)]) ∧ Below W.heap.size W w') := Lib.hid fun W hW => by
    have := rRevise_any k N c (cpl S x) A f W hW (by omega) (by omega)
    rwa [hre, hrv] at this
  have hcp := cpl_bits (x := x) w5 (by omega)
  have hLl := lst_lt N f (cpl S x)
  rw [← hS] at hLl
  have hB : brk N S f (lst N f (S - 1)) x = if idl S (lst N f (S - 1)) x then lst N f (S - 1) else lst N f (S - 1) ||| lst N f (cpl S x) := rfl
  obtain ⟨B, eB⟩ : ∃ B, B = lst N f (S - 1) := ⟨_, rfl⟩
  rw [← eB] at hbel hBl hB ⊢
  obtain ⟨C, eC⟩ : ∃ C, C = cpl S x := ⟨_, rfl⟩
  rw [← eC] at HRV hcp hcl hLl hB
  obtain ⟨L, eL⟩ : ∃ L, L = lst N f C := ⟨_, rfl⟩
  rw [← eL] at HRV hLl hB
  obtain ⟨V, eV⟩ : ∃ V, V = brk N S f B x := ⟨_, rfl⟩
  rw [← eV] at hB ⊢
  have HA := Lib.hid (fun w => all40_any k N S w hk hN hS)
  have HI := Lib.hid (fun w => nothing_any k N S B x w hk hN hS (by omega) (by omega))
  have hor : bits .or .u64 (B : Int) (L : Int) = ((B ||| L : Nat) : Int) := u64_or_nat _ _ (by omega) (by omega)
  obtain ⟨I, eI⟩ : ∃ I, I = idl S B x := ⟨_, rfl⟩
  rw [← eI] at hB HI
  have HBE := Lib.hid hbel
  have HX := Lib.hid hf
  clear hf hbel hBv hre hrv eB eC eL eV eI hN hS w1 w2 w3 w4 hr
  cases I
  · have HV := Lib.hid (show V = B ||| L from hB)
    clear hB
    go_enter Tryd.func52, Tryd.ntmps52
    go_wp2_with (first | (go_at_call 43; refine (HI.out _).mono ?_; rintro e w' ⟨rfl, rfl⟩) | (go_at_call 40; refine (HA.out _).mono ?_; rintro e w' ⟨rfl, rfl⟩) | (go_at_call 69; refine HBE.out.mono ?_; rintro e w1 ⟨rfl, hb1⟩; have HB1 := Lib.hid hb1; clear hb1) | (go_at_call 70; refine (HRV.out _ (HX.out.below HB1.out)).mono ?_; rintro e w2 ⟨rfl, hb2⟩; have HB2 := Lib.hid (HB1.out.trans (hb2.mono HB1.out.size)); clear hb2))
    go_ret
    exact ⟨by rw [HV.out]; rfl, HB2.out⟩
  · have HV := Lib.hid (show V = B from hB)
    clear hB
    go_enter Tryd.func52, Tryd.ntmps52
    go_wp2_with (first | (go_at_call 43; refine (HI.out _).mono ?_; rintro e w' ⟨rfl, rfl⟩) | (go_at_call 69; refine HBE.out.mono ?_; rintro e w1 ⟨rfl, hb1⟩; have HB1 := Lib.hid hb1; clear hb1))
    go_ret
    exact ⟨by rw [HV.out]; rfl, HB1.out⟩
set_option maxHeartbeats 1000000 in
theorem rByRanks_any (n : Int) (len c x : Nat) (A : Option Addr) (f : Nat → Int) (w : World) (hf : I64s w A len f) (hlen : len ≤ 9223372036854775807) (hx : x < 18446744073709551616) :
    Calls Tryd.prog 20 #[.int .i64 n, .slice A len c, .int .u64 x] w fun e w' => e = .returned (.tuple #[.int .u64 (brV n len f x : Nat), .int .i64 (brErr n len f x : Nat)]) ∧ Below w.heap.size w w' := by
  have hC := rCheck_any n len c A f w hf hlen
  by_cases h0 : revErr n len f = 0
  · obtain ⟨k, rfl, hk, hN, -⟩ := revErr_ok h0
    obtain ⟨S, hS⟩ : ∃ S, S = 2 ^ len := ⟨_, rfl⟩
    obtain ⟨w1, w2, w3, w4, w5, w6⟩ := all_val4 hN hk hS
    have hN16 := pow_le16 hN hk
    have HA := Lib.hid (fun w => all40_any k len S w hk hN hS)
    have hE : brErr k len f x = if x < S then 0 else 2 := by unfold brErr; rw [if_pos h0, hS]
    rw [h0] at hC
    have HC := Lib.hid hC
    have han := bits_andNot x (S - 1) hx (by omega)
    have hsm := sub_mask hS hN16 hx
    obtain ⟨Q, eQ⟩ : ∃ Q, Q = andNot x (S - 1) := ⟨_, rfl⟩
    rw [← eQ] at han hsm
    by_cases hxs : x < S
    · rw [decide_eq_true hxs] at hsm
      have hsm' : ((Q : Int) != 0) = false := hsm
      rw [if_pos hxs] at hE
      have HV := Lib.hid (show brV k len f x = brk len S f (lst len f (S - 1)) x by unfold brV; rw [if_pos hE, ← hS])
      have HBR := Lib.hid (rbr_any k len S x c A f w hf hk hN hS h0 hxs)
      have HE := Lib.hid hE
      clear hsm hE eQ h0 hN hS w1 w2 w3 w4 hC
      go_enter Tryd.func20, Tryd.ntmps20
      go_wp2_with (first | (go_at_call 51; refine (HC.out).mono ?_; rintro e w' ⟨rfl, rfl⟩) | (go_at_call 40; refine (HA.out _).mono ?_; rintro e w' ⟨rfl, rfl⟩) | (go_at_call 52; refine HBR.out.mono ?_; rintro e w1 ⟨rfl, hb1⟩; have HB1 := Lib.hid hb1; clear hb1))
      go_ret2
      exact ⟨by rw [HE.out, HV.out]; rfl, HB1.out⟩
    · rw [decide_eq_false hxs] at hsm
      have hsm' : ((Q : Int) != 0) = true := hsm
      rw [if_neg hxs] at hE
      have HV := Lib.hid (show brV k len f x = 0 by unfold brV; rw [if_neg (by rw [hE]; decide)])
      have HE := Lib.hid hE
      clear hsm hE eQ h0 hN hS w1 w2 w3 w4 hC
      go_enter Tryd.func20, Tryd.ntmps20
      go_wp2_with (first | (go_at_call 51; refine (HC.out).mono ?_; rintro e w' ⟨rfl, rfl⟩) | (go_at_call 40; refine (HA.out _).mono ?_; rintro e w' ⟨rfl, rfl⟩))
      go_ret2
      exact ⟨by rw [HE.out, HV.out]; rfl, Below.refl _ _⟩
  · have hE : brErr n len f x = revErr n len f := by unfold brErr; rw [if_neg h0]
    have hV : brV n len f x = 0 := by unfold brV; rw [if_neg (by rw [hE]; exact h0)]
    rw [hE, hV]
    obtain ⟨E, eE⟩ : ∃ E, E = revErr n len f := ⟨_, rfl⟩
    rw [← eE] at h0 hC ⊢
    have hne : ((E : Int) != 0) = true := by rw [bne_iff_ne]; omega
    have HC := Lib.hid hC
    clear hE hV eE hC
    go_enter Tryd.func20, Tryd.ntmps20
    go_wp2_with (go_at_call 51; refine (HC.out).mono ?_; rintro e w' ⟨rfl, rfl⟩)
    go_ret2
    exact ⟨rfl, Below.refl _ _⟩
set_option maxHeartbeats 1000000 in
theorem rCtTable_any (n : Int) (len c : Nat) (A : Option Addr) (f : Nat → Int) (w : World) (hf : I64s w A len f) (hlen : len ≤ 9223372036854775807) :
    Calls Tryd.prog 22 #[.int .i64 n, .slice A len c] w (SlcU (tabE n len f) (ctM n len f) (ctT len f) w) := by
  have hC := rCheck_any n len c A f w hf hlen
  by_cases h0 : revErr n len f = 0
  · obtain ⟨k, rfl, hk, hN, -⟩ := revErr_ok h0
    have hE : tabE k len f = if (k : Int) ≤ 3 then 0 else 8 := by unfold tabE; rw [if_pos h0]
    obtain ⟨S, hS⟩ : ∃ S, S = 2 ^ len := ⟨_, rfl⟩
    rw [h0] at hC
    have hBl := lst_lt len f (S - 1)
    rw [← hS] at hBl
    have hT : ctT len f = brk len S f (lst len f (S - 1)) := by rw [hS]; rfl
    obtain ⟨B, eB⟩ : ∃ B, B = lst len f (S - 1) := ⟨_, rfl⟩
    rw [← eB] at hBl hT
    have HC := Lib.hid hC
    by_cases h3 : (k : Int) ≤ 3
    · have hd2 : decide (3 < (k : Int)) = false := decide_eq_false (by omega)
      rw [if_pos h3] at hE
      have hM : ctM k len f = S := by unfold ctM; rw [if_pos hE, hS]
      rw [hE, hM, hT]
      obtain ⟨w1, w2, w3, w4, w5, w6⟩ := all_val4 hN hk hS
      have hN8 : len ≤ 8 := by rw [hN]; exact Nat.le_trans (Nat.pow_le_pow_right (n := 2) (j := 3) (by decide) (by omega)) (by decide)
      obtain ⟨v1, v2, v3, v4⟩ := two_val8 hN8 hS
      have hck := wrap_self (x := k) (by omega)
      have hmin : min k 64 = k := Nat.min_eq_left (by omega)
      have hmin2 : min len 64 = len := Nat.min_eq_left (by omega)
      have HBR := Lib.hid (fun W x (hW : I64s W A len f) (hx : x < S) => rbr_any k len S x c A f W hW hk hN hS h0 hx)
      rw [← eB] at HBR
      have HTL := Lib.hid (fun x => brk_lt (N := len) (f := f) (x := x) hS hBl)
      have HX := Lib.hid hf
      clear hf hE hM hT eB h0 h3 hN hS hC
      go_enter Tryd.func22, Tryd.ntmps22
      go_wp2_with (go_at_call 51; refine (HC.out).mono ?_; rintro e w' ⟨rfl, rfl⟩)
      go_loopw [7, 8] (fun o i wr => ∃ u : Nat, u ≤ S ∧ i = .int .i64 u ∧ wr.ownsRow w.heap.size 22 1 o u (u64L (brk len S f B) u) ∧ Below w.heap.size w wr) (fun _ i _ => S - (intOf i).toNat)
      case atStart => exact ⟨0, Nat.zero_le _, rfl, World.ownsRow_nil _ _ _ _, Below.refl _ _⟩
      case round =>
        obtain ⟨u, hu, rfl, hown, hbl⟩ := hrel
        by_cases hult : u < S
        · have hcall := Lib.hid (HBR.out wr u (HX.out.below hbl) hult)
          have HSU := Lib.hid (u64L_succ (brk len S f B) u)
          have hcu := wrap_self (x := u) (by omega)
          obtain ⟨y, ey⟩ : ∃ y, y = brk len S f B u := ⟨_, rfl⟩
          rw [← ey] at hcall HSU
          have HO := Lib.hid hown
          have HB := Lib.hid hbl
          clear hown hbl ey
          go_wp2_with fail
          refine hcall.out.mono ?_
          rintro e w2 ⟨rfl, hst⟩
          have hown := own_below HO.out hst (Nat.le_refl _)
          have hbl := HB.out.trans (hst.mono HB.out.size)
          have hsz := hbl.size
          clear hst
          go_wp2_with (at_builtin; obtain ⟨i0, hi, hz0, hz1, hz2⟩ := info_parts Tryd.infoU64; refine wpList_append_own _ rfl _ _ 23 rfl w.heap.size 22 i0 (.int .u64 0) 1 8 Tryd.underlying23 hi hz0 hz1 hz2 rfl (by decide) _ _ _ rfl (hown.alloc _) ⟨w2.heap.size, 0, none⟩ 1 1 [.int .u64 (y : Nat)] rfl rfl (cell_one_new _ _ _) (one_oneCell rfl) (by unfold maxLen; omega) (by omega) (by simp; omega) ?_; intro v' w3 hown' hgrow _)
          go_roundw
          case rel => exact ⟨u + 1, by omega, by go_num, by rw [HSU.out]; exact hown', (hbl.alloc hsz _).grown hgrow (by simp; omega) (fun k hk => (hown.lt k hk).1)⟩
          case measure => simp [intOf]; omega
        · obtain rfl : u = S := by omega
          obtain ⟨A2, c2, rfl, hu64, _⟩ := own_u64s hown (fun x _ => by have := HTL.out x; omega)
          have HU := Lib.hid hu64
          have HB := Lib.hid hbl
          clear hown hbl hu64
          go_wp2_with fail
          go_ret2
          exact ⟨_, _, rfl, HU.out, HB.out⟩
    · have hd2 : decide (3 < (k : Int)) = true := decide_eq_true (by omega)
      rw [if_neg h3] at hE
      have hM : ctM k len f = 0 := by unfold ctM; rw [if_neg (by rw [hE]; decide)]
      rw [hE, hM]
      clear hf hE hM hT eB h0 h3 hN hS hC
      go_enter Tryd.func22, Tryd.ntmps22
      go_wp2_with (go_at_call 51; refine (HC.out).mono ?_; rintro e w' ⟨rfl, rfl⟩)
      go_ret2
      exact ⟨none, 0, rfl, u64s_nil _ _ _, Below.refl _ _⟩
  · have hE : tabE n len f = revErr n len f := by unfold tabE; rw [if_neg h0]
    have hM : ctM n len f = 0 := by unfold ctM; rw [if_neg (by rw [hE]; exact h0)]
    rw [hE, hM]
    obtain ⟨E, eE⟩ : ∃ E, E = revErr n len f := ⟨_, rfl⟩
    rw [← eE] at h0 hC ⊢
    have hne : ((E : Int) != 0) = true := by rw [bne_iff_ne]; omega
    have HC := Lib.hid hC
    clear hE hM eE hC
    go_enter Tryd.func22, Tryd.ntmps22
    go_wp2_with (go_at_call 51; refine (HC.out).mono ?_; rintro e w' ⟨rfl, rfl⟩)
    go_ret2
    exact ⟨none, 0, rfl, u64s_nil _ _ _, Below.refl _ _⟩

/-! ### Levi, Harper -/
theorem cpl_sub {N S x : Nat} (hS : S = 2 ^ N) (hN : N ≤ 8) (hx : x < S) : cpl S x = S - 1 - x := by
  apply Nat.eq_of_testBit_eq
  intro i
  rw [Bool.eq_iff_iff, cpl_bit hS hN hx, show S - 1 - x = 2 ^ N - (x + 1) by omega, Nat.testBit_two_pow_sub_succ (by omega)]
  simp
set_option maxHeartbeats 2000000 in
theorem rLevi_any (n : Int) (b len c : Nat) (A : Option Addr) (T : Nat → Nat) (w : World) (hT : U64s w A len T) (hlen : len ≤ 9223372036854775807) (hb : b < 18446744073709551616) :
    Calls Tryd.prog 31 #[.int .i64 n, .int .u64 b, .slice A len c] w (SlcU (ctChk n b len T) (cM (ctChk n b len T) len) (leviF len T) w) := by
  have HC := Lib.hid (rCtChk_any n b len c A T w hT hlen hb)
  by_cases h0 : ctChk n b len T = 0
  · obtain ⟨k, rfl, hk, hl, hbS, ht⟩ := ctChk_ok h0
    obtain ⟨N, hN⟩ : ∃ N, N = 2 ^ k := ⟨_, rfl⟩
    have hS : len = 2 ^ N := by rw [hN]; exact hl
    obtain ⟨w1, w2, w3, w4, w5, w6⟩ := all_val4 hN (by omega) hS
    have hN8 : N ≤ 8 := by rw [hN]; exact Nat.le_trans (Nat.pow_le_pow_right (n := 2) (j := 3) (by decide) hk) (by decide)
    have hS256 : len ≤ 256 := by rw [hS]; exact Nat.pow_le_pow_right (n := 2) (j := 8) (by decide) hN8
    have hm : cM (ctChk k b len T) len = len := if_pos h0
    rw [hm, h0]
    rw [h0] at HC
    rw [← hl] at ht hbS
    have HTL := Lib.hid (tab_lt ht)
    have HT := Lib.hid hT
    have HCP := Lib.hid (fun x => cpl_lt len x w6)
    have HCS := Lib.hid (fun x hx => cpl_sub (x := x) hS hN8 hx)
    have HGL : Hid (∀ x, x < len → leviF len T x < 18446744073709551616) := Lib.hid fun x hx => by
      have h1 := tab_lt ht _ (cpl_lt len x w6)
      exact Nat.lt_of_le_of_lt Nat.and_le_left (by omega)
    clear hT hN hS hl ht h0 hm w1 w2 w3 w4 hbS
    go_enter Tryd.func31, Tryd.ntmps31
    go_wp2_with (go_at_call 26; refine HC.out.mono ?_; rintro e w1 ⟨rfl, hb1⟩; have HB1 := Lib.hid hb1; clear hb1)
    go_loopw [9, 10] (fun o i wr => ∃ u : Nat, u ≤ len ∧ i = .int .i64 u ∧ wr.ownsRow w.heap.size 22 1 o u (u64L (leviF len T) u) ∧ Below w.heap.size w wr) (fun _ i _ => len - (intOf i).toNat)
    case atStart => exact ⟨0, Nat.zero_le _, rfl, World.ownsRow_nil _ _ _ _, HB1.out⟩
    case round =>
      clear HB1
      obtain ⟨u, hu, rfl, hown, hbl⟩ := hrel
      by_cases hult : u < len
      · have hcl := HCP.out u
        have hcs := HCS.out u hult
        have hcu := wrap_self (x := u) (by omega)
        have HSU := Lib.hid (u64L_succ (leviF len T) u)
        have hG : leviF len T u = u &&& T (cpl len u) := rfl
        obtain ⟨x, ex⟩ : ∃ x, x = cpl len u := ⟨_, rfl⟩
        rw [← ex] at hcl hcs hG
        have hix : (len : Int) - 1 - (u : Int) = (x : Int) := by omega
        have htl := HTL.out x hcl
        obtain ⟨y, ey⟩ : ∃ y, y = leviF len T u := ⟨_, rfl⟩
        rw [← ey] at HSU hG
        obtain ⟨b', off, rfl, hc, -⟩ := (HT.out.below hbl) x hcl
        obtain ⟨t, et⟩ : ∃ t, t = T x := ⟨_, rfl⟩
        rw [← et] at hc htl hG
        have hop : bits .and .u64 (u : Int) (t : Int) = (y : Int) := by rw [u64_and_nat _ _ (by omega) (by omega), hG]
        have HO := Lib.hid hown
        have HB := Lib.hid hbl
        have hsz := hbl.size
        clear hown hbl ex ey et hG hcs
        have hown := HO.out
        go_wp2_with (at_builtin; obtain ⟨i0, hi, hz0, hz1, hz2⟩ := info_parts Tryd.infoU64; refine wpList_append_own _ rfl _ _ 23 rfl w.heap.size 22 i0 (.int .u64 0) 1 8 Tryd.underlying23 hi hz0 hz1 hz2 rfl (by decide) _ _ _ rfl (hown.alloc _) ⟨wr.heap.size, 0, none⟩ 1 1 [.int .u64 (y : Nat)] rfl rfl (cell_one_new _ _ _) (one_oneCell rfl) (by unfold maxLen; omega) (by omega) (by simp; omega) ?_; intro v' w3 hown' hgrow _)
        go_roundw
        case rel => exact ⟨u + 1, by omega, by go_num, by rw [HSU.out]; exact hown', (HB.out.alloc hsz _).grown hgrow (by simp; omega) (fun k hk => (hown.lt k hk).1)⟩
        case measure => simp [intOf]; omega
      · obtain rfl : u = len := by omega
        obtain ⟨A2, c2, rfl, hu64, _⟩ := own_u64s hown HGL.out
        have HU := Lib.hid hu64
        have HB := Lib.hid hbl
        clear hown hbl hu64
        go_wp2_with fail
        go_ret2
        exact ⟨_, _, rfl, HU.out, HB.out⟩
  · have hm : cM (ctChk n b len T) len = 0 := if_neg h0
    rw [hm]
    obtain ⟨E, eE⟩ : ∃ E, E = ctChk n b len T := ⟨_, rfl⟩
    rw [← eE] at HC h0 ⊢
    have hne : ((E : Int) != 0) = true := by rw [bne_iff_ne]; omega
    clear eE hm hT
    go_enter Tryd.func31, Tryd.ntmps31
    go_wp2_with (go_at_call 26; refine HC.out.mono ?_; rintro e w1 ⟨rfl, hb1⟩; have HB1 := Lib.hid hb1; clear hb1)
    go_ret2
    exact ⟨none, 0, rfl, u64s_nil _ _ _, HB1.out⟩
set_option maxHeartbeats 2000000 in
theorem rHarper_any (n : Int) (b len c : Nat) (A : Option Addr) (T : Nat → Nat) (w : World) (hT : U64s w A len T) (hlen : len ≤ 9223372036854775807) (hb : b < 18446744073709551616) :
    Calls Tryd.prog 33 #[.int .i64 n, .int .u64 b, .slice A len c] w (SlcU (ctChk n b len T) (cM (ctChk n b len T) len) (harpF len b T) w) := by
  have HC := Lib.hid (rCtChk_any n b len c A T w hT hlen hb)
  by_cases h0 : ctChk n b len T = 0
  · obtain ⟨k, rfl, hk, hl, hbS, ht⟩ := ctChk_ok h0
    obtain ⟨N, hN⟩ : ∃ N, N = 2 ^ k := ⟨_, rfl⟩
    have hS : len = 2 ^ N := by rw [hN]; exact hl
    obtain ⟨w1, w2, w3, w4, w5, w6⟩ := all_val4 hN (by omega) hS
    have hN8 : N ≤ 8 := by rw [hN]; exact Nat.le_trans (Nat.pow_le_pow_right (n := 2) (j := 3) (by decide) hk) (by decide)
    have hS256 : len ≤ 256 := by rw [hS]; exact Nat.pow_le_pow_right (n := 2) (j := 8) (by decide) hN8
    have hm : cM (ctChk k b len T) len = len := if_pos h0
    rw [hm, h0]
    rw [h0] at HC
    rw [← hl] at ht hbS
    have HTL := Lib.hid (tab_lt ht)
    have HT := Lib.hid hT
    have HCP := Lib.hid (fun x => cpl_lt len x w6)
    have HCS := Lib.hid (fun x hx => cpl_sub (x := x) hS hN8 hx)
    have HGL : Hid (∀ x, x < len → harpF len b T x < 18446744073709551616) := Lib.hid fun x hx => by
      have h1 := tab_lt ht _ (cpl_lt len x w6)
      exact or_lt64 hb (by omega)
    clear hT hN hS hl ht h0 hm w1 w2 w3 w4 hbS
    go_enter Tryd.func33, Tryd.ntmps33
    go_wp2_with (go_at_call 26; refine HC.out.mono ?_; rintro e w1 ⟨rfl, hb1⟩; have HB1 := Lib.hid hb1; clear hb1)
    go_loopw [9, 10] (fun o i wr => ∃ u : Nat, u ≤ len ∧ i = .int .i64 u ∧ wr.ownsRow w.heap.size 22 1 o u (u64L (harpF len b T) u) ∧ Below w.heap.size w wr) (fun _ i _ => len - (intOf i).toNat)
    case atStart => exact ⟨0, Nat.zero_le _, rfl, World.ownsRow_nil _ _ _ _, HB1.out⟩
    case round =>
      clear HB1
      obtain ⟨u, hu, rfl, hown, hbl⟩ := hrel
      by_cases hult : u < len
      · have hcl := HCP.out u
        have hcs := HCS.out u hult
        have hcu := wrap_self (x := u) (by omega)
        have HSU := Lib.hid (u64L_succ (harpF len b T) u)
        have hG : harpF len b T u = b ||| T (cpl len u) := rfl
        obtain ⟨x, ex⟩ : ∃ x, x = cpl len u := ⟨_, rfl⟩
        rw [← ex] at hcl hcs hG
        have hix : (len : Int) - 1 - (u : Int) = (x : Int) := by omega
        have htl := HTL.out x hcl
        obtain ⟨y, ey⟩ : ∃ y, y = harpF len b T u := ⟨_, rfl⟩
        rw [← ey] at HSU hG
        obtain ⟨b', off, rfl, hc, -⟩ := (HT.out.below hbl) x hcl
        obtain ⟨t, et⟩ : ∃ t, t = T x := ⟨_, rfl⟩
        rw [← et] at hc htl hG
        have hop : bits .or .u64 (b : Int) (t : Int) = (y : Int) := by rw [u64_or_nat _ _ hb (by omega), hG]
        have HO := Lib.hid hown
        have HB := Lib.hid hbl
        have hsz := hbl.size
        clear hown hbl ex ey et hG hcs
        have hown := HO.out
        go_wp2_with (at_builtin; obtain ⟨i0, hi, hz0, hz1, hz2⟩ := info_parts Tryd.infoU64; refine wpList_append_own _ rfl _ _ 23 rfl w.heap.size 22 i0 (.int .u64 0) 1 8 Tryd.underlying23 hi hz0 hz1 hz2 rfl (by decide) _ _ _ rfl (hown.alloc _) ⟨wr.heap.size, 0, none⟩ 1 1 [.int .u64 (y : Nat)] rfl rfl (cell_one_new _ _ _) (one_oneCell rfl) (by unfold maxLen; omega) (by omega) (by simp; omega) ?_; intro v' w3 hown' hgrow _)
        go_roundw
        case rel => exact ⟨u + 1, by omega, by go_num, by rw [HSU.out]; exact hown', (HB.out.alloc hsz _).grown hgrow (by simp; omega) (fun k hk => (hown.lt k hk).1)⟩
        case measure => simp [intOf]; omega
      · obtain rfl : u = len := by omega
        obtain ⟨A2, c2, rfl, hu64, _⟩ := own_u64s hown HGL.out
        have HU := Lib.hid hu64
        have HB := Lib.hid hbl
        clear hown hbl hu64
        go_wp2_with fail
        go_ret2
        exact ⟨_, _, rfl, HU.out, HB.out⟩
  · have hm : cM (ctChk n b len T) len = 0 := if_neg h0
    rw [hm]
    obtain ⟨E, eE⟩ : ∃ E, E = ctChk n b len T := ⟨_, rfl⟩
    rw [← eE] at HC h0 ⊢
    have hne : ((E : Int) != 0) = true := by rw [bne_iff_ne]; omega
    clear eE hm hT
    go_enter Tryd.func33, Tryd.ntmps33
    go_wp2_with (go_at_call 26; refine HC.out.mono ?_; rintro e w1 ⟨rfl, hb1⟩; have HB1 := Lib.hid hb1; clear hb1)
    go_ret2
    exact ⟨none, 0, rfl, u64s_nil _ _ _, HB1.out⟩
end Go.Proofs.YtiifmdgcnpdibaaDoor
