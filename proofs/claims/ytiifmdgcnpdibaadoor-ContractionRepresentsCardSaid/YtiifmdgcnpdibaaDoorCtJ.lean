/-
  Walks: package contraction: Choice.
-/
import Derived.Test.YtiifmdgcnpdibaaDoorProg
import Derived.Test.YtiifmdgcnpdibaaDoorBase
import Derived.Test.YtiifmdgcnpdibaaDoorRow
import Derived.Test.YtiifmdgcnpdibaaDoorRowsOf
import Derived.Test.YtiifmdgcnpdibaaDoorLeast
import Derived.Test.YtiifmdgcnpdibaaDoorRkP
import Derived.Test.YtiifmdgcnpdibaaDoorRkQ
import Derived.Test.YtiifmdgcnpdibaaDoorRkB
import Derived.Test.YtiifmdgcnpdibaaDoorRkC3
import Derived.Test.YtiifmdgcnpdibaaDoorPoP
import Derived.Test.YtiifmdgcnpdibaaDoorCtP
import Derived.Test.YtiifmdgcnpdibaaDoorCtQ
import Derived.Test.YtiifmdgcnpdibaaDoorCtO
import Derived.Test.YtiifmdgcnpdibaaDoorCtA
import Derived.Test.YtiifmdgcnpdibaaDoorCtI
namespace Go.Proofs.YtiifmdgcnpdibaaDoor
open Go.RowKit

theorem ch1_any (x v bx : Nat) (w : World) (hx : x < 18446744073709551616) (hv : v ≤ 63) (hc : w.cell? ⟨bx, 0, none⟩ = some (.int .u64 x)) :
    Calls Tryd.prog 47 #[.int .i64 v, .pointer (some ⟨bx, 0, none⟩)] w fun e w' => e = .returned (.bool (!x.testBit v)) ∧ w = w' := by
  have h := bits_hasnt' x v hx (by omega)
  go_enter Tryd.func47, Tryd.ntmps47
  go_wp2
  go_ret
  exact ⟨rfl, rfl⟩
set_option maxHeartbeats 1000000 in
theorem chIdx_any (A : Option Addr) (N S c x bx : Nat) (f : Nat → Int) (w : World) (hu : I64s w A N f) (hN : N ≤ 16) (hS : S = 2 ^ N) (hok : okB N f = true) (hx : x < S) (hn : x ≠ S - 1) (hc : w.cell? ⟨bx, 0, none⟩ = some (.int .u64 x)) :
    Calls Tryd.prog 46 #[.slice A N c, .func (.func 47) #[] #[.pointer (some ⟨bx, 0, none⟩)]] w fun e w' => e = .returned (.int .i64 (chI N x f : Nat)) ∧ w = w' := by
  have HX := Lib.hid hu
  have hS64 : S ≤ 65536 := by rw [hS]; exact Nat.pow_le_pow_right (n := 2) (j := 16) (by decide) hN
  have HL := Lib.hid (chI_lt hS hN hok hx hn)
  have HR := Lib.hid (fun u hu => ok_range hok u hu)
  clear hu hS hok hn
  go_enter Tryd.func46, Tryd.ntmps46
  go_wp2
  go_loop [8] (fun i => ∃ v : Nat, v ≤ N ∧ i = .int .i64 v ∧ Hid (∀ i, i < v → x.testBit (f i).toNat = true)) (fun i => N - (intOf i).toNat)
  case atStart => exact ⟨0, Nat.zero_le _, rfl, Lib.hid fun i h => absurd h (Nat.not_lt_zero _)⟩
  case round =>
    obtain ⟨v, hv, rfl, HF⟩ := hrel
    by_cases hlt : v < N
    · obtain ⟨b, off, rfl, hc2, hr1, hr2⟩ := HX.out v hlt
      obtain ⟨z, hz, e⟩ := HR.out v hlt
      have HE := Lib.hid e
      rw [e] at hc2
      have HC := Lib.hid (ch1_any x z bx w (by omega) (by omega) hc)
      cases hb : x.testBit z
      · rw [hb] at HC
        have HI := Lib.hid (show chI N x f = v from firstNo_hit (p := fun i => x.testBit (f i).toNat) hlt HF.out (by show x.testBit (f v).toNat = false; rw [HE.out, Int.toNat_natCast]; exact hb))
        clear hb e hr1 hr2
        go_wp2_with (go_at_call 47; refine (HC.out).mono ?_; rintro e w' ⟨rfl, rfl⟩)
        go_ret
        exact ⟨by rw [HI.out]; rfl, rfl⟩
      · rw [hb] at HC
        have HF2 : Hid (∀ i, i < v + 1 → x.testBit (f i).toNat = true) := Lib.hid fun i h => by
          rcases Nat.lt_succ_iff_lt_or_eq.1 h with h3 | rfl
          · exact HF.out i h3
          · rw [HE.out, Int.toNat_natCast]; exact hb
        clear hb e hr1 hr2
        go_wp2_with (go_at_call 47; refine (HC.out).mono ?_; rintro e w' ⟨rfl, rfl⟩)
        go_round
        case rel => exact ⟨v + 1, by omega, by go_num, HF2⟩
        case measure => simp [intOf]; omega
    · obtain rfl : v = N := by omega
      exact absurd HL.out.1 (by
        have : chI v x f = v := firstNo_all HF.out
        omega)
set_option maxHeartbeats 2000000 in
set_option maxRecDepth 100000 in
theorem Choice_any (n : Int) (b x len c : Nat) (A : Option Addr) (f : Nat → Int) (w : World) (hf : I64s w A len f) (hlen : len ≤ 65536) (hb : b < 18446744073709551616) (hx : x < 18446744073709551616) :
    Calls Tryd.prog 17 #[.int .i64 n, .int .u64 b, .int .u64 x, .slice A len c] w fun e w' => e = .returned (.tuple #[.int .u64 (chR n b x len f : Nat), .int .i64 (chE n b x len f : Nat)]) ∧ Below w.heap.size w w' := by
  have hbl := below_alloc w (.cells #[.int .u64 x] 22)
  have hcc : (w.alloc (.cells #[.int .u64 x] 22)).cell? ⟨w.heap.size, 0, none⟩ = some (.int .u64 x) := by simp
  have HX := Lib.hid (hf.below hbl)
  have HB := Lib.hid hbl
  have HC := Lib.hid (fun w => ctCheck_any n b x w hb hx)
  clear hf hbl
  by_cases h0 : ctErr 4 n b x = 0
  · obtain ⟨k, rfl, hk, hbS, hxS⟩ := ctErr_ok h0
    obtain ⟨N, hN⟩ : ∃ N, N = 2 ^ k := ⟨_, rfl⟩
    obtain ⟨S, hS⟩ : ∃ S, S = 2 ^ N := ⟨_, rfl⟩
    obtain ⟨w1, w2, w3, w4, w5, w6⟩ := all_val4 hN hk hS
    have hN16 := pow_le16 hN hk
    have hwp := wrap_pow hN hk
    rw [h0] at HC
    have hbs : b < S := by rw [hS, hN]; exact hbS
    have hxs : x < S := by rw [hS, hN]; exact hxS
    have hE : chE k b x len f = if len = N ∧ okB len f = true then 0 else 3 := by unfold chE; rw [if_pos h0, Int.toNat_natCast, ← hN]
    obtain ⟨E, eE⟩ : ∃ E, E = chE k b x len f := ⟨_, rfl⟩
    obtain ⟨V, eV⟩ : ∃ V, V = chR k b x len f := ⟨_, rfl⟩
    have hV : V = if E = 0 then chV len (2 ^ len) b x f else 0 := by rw [eV, eE]; rfl
    rw [← eE] at hE
    rw [← eE, ← eV]
    have HSO := Lib.hid (fun Bs W hu hBs => sorted_any Bs len c A f hlen W hu hBs)
    by_cases hlN : len = N
    · subst hlN
      have h1 : ((len : Int) != (len : Int)) = false := by simp
      have HOK := Lib.hid (fun h => ok_sorted (N := len) (f := f) h)
      have HOK2 := Lib.hid (fun h => sorted_ok (N := len) (f := f) h)
      have HI := Lib.hid (fun w => idle_any k len S b x w hk hN hS (by omega) (by omega))
      have HV := Lib.hid (show okB len f = true → E = 0 ∧ V = chV len S b x f from fun h => by
        have : E = 0 := by rw [hE, if_pos ⟨rfl, h⟩]
        exact ⟨this, by rw [hV, if_pos this, ← hS]⟩)
      have HV2 := Lib.hid (show okB len f = false → E = 3 ∧ V = 0 from fun h => by
        have : E = 3 := by rw [hE, if_neg (fun h2 => by rw [h] at h2; cases h2.2)]
        exact ⟨this, by rw [hV, if_neg (by rw [this]; decide)]⟩)
      have HCX := Lib.hid (fun W cc bx (hu : I64s W A len f) hok hn hc => chIdx_any A len S cc x bx f W hu hN16 hS hok hxs hn hc)
      have HCL := Lib.hid (fun hok hn => chI_lt (x := x) (f := f) hS hN16 hok hxs hn)
      have HNI := Lib.hid (fun h => not_idl (b := b) (x := x) hS (by omega) (by omega) h)
      clear hE hV eE eV h0 hN hS w1 w2 w3 w4 hbS hxS
      go_enter Tryd.func17, Tryd.ntmps17
      go_upto_region 1 with (fail)
      generalize w.alloc _ = W at hcc HX HB ⊢
      go_upto_region 5 with (first
        | (go_at_call 37; refine (HC.out _).mono ?_; rintro e w' ⟨rfl, rfl⟩)
        | (go_at_call 45; refine (values_any _ _ _ _).mono ?_; rintro e w2 ⟨rfl, rfl⟩)
        | (go_at_call 44; refine (HSO.out _ _ (HX.out.below (below_alloc _ _)) (by simp)).mono ?_; rintro e w3 ⟨B3, c3, rfl, hu3, hb3⟩; have HU3 := Lib.hid hu3; have HB3 := Lib.hid ((below_alloc W (.cells #[.slice A len c] 32)).trans (hb3.mono (below_alloc W (.cells #[.slice A len c] 32)).size)); clear hu3 hb3))
      have hcc := cell_below HB3.out hcc
      have HX := Lib.hid (HX.out.below HB3.out)
      have HB := Lib.hid (HB.out.trans (HB3.out.mono HB.out.size))
      clear HB3
      go_wp2_with fail
      go_loop [32] (fun i => ∃ u : Nat, u ≤ len ∧ i = .int .i64 u ∧ Hid (∀ i, i < u → (sortZ (zsOf f len)).getD i 0 = i)) (fun i => len - (intOf i).toNat)
      case atStart => exact ⟨0, Nat.zero_le _, rfl, Lib.hid fun i h => absurd h (Nat.not_lt_zero _)⟩
      case round =>
        obtain ⟨u, hu, rfl, HF⟩ := hrel
        by_cases hult : u < len
        · obtain ⟨b3, off3, rfl, hc3, hr1, hr2⟩ := HU3.out u hult
          obtain ⟨z, ez⟩ : ∃ z, z = (sortZ (zsOf f len)).getD u 0 := ⟨_, rfl⟩
          dsimp only at hc3
          rw [← ez] at hc3
          by_cases hzu : z = u
          · have hne : ((u : Int) != z) = false := by rw [hzu]; simp
            have HF2 : Hid (∀ i, i < u + 1 → (sortZ (zsOf f len)).getD i 0 = i) := Lib.hid fun i h => by
              rcases Nat.lt_succ_iff_lt_or_eq.1 h with h3 | rfl
              · exact HF.out i h3
              · rw [← ez]; exact hzu
            clear ez hr1 hr2 hzu
            go_wp2_with fail
            go_round
            case rel => exact ⟨u + 1, by omega, by go_num, HF2⟩
            case measure => simp [intOf]; omega
          · have hne : ((u : Int) != z) = true := by rw [bne_iff_ne]; omega
            have hno : okB len f = false := by
              cases h : okB len f
              · rfl
              · exfalso
                apply hzu
                rw [ez, HOK.out h, rngZ_get hult]
            obtain ⟨e1, e2⟩ := HV2.out hno
            have HE1 := Lib.hid e1
            have HE2 := Lib.hid e2
            clear ez hr1 hr2 hzu hno e1 e2
            go_wp2_with fail
            go_ret2
            exact ⟨by rw [HE1.out, HE2.out]; rfl, HB.out⟩
        · obtain rfl : u = len := by omega
          have hok := HOK2.out HF.out
          obtain ⟨e1, e2⟩ := HV.out hok
          unfold chV at e2
          cases hI : idl S b x
          · rw [hI] at HI e2
            obtain ⟨_, hn⟩ := HNI.out hI
            obtain ⟨hcl, _⟩ := HCL.out hok hn
            have HCI := Lib.hid (HCX.out _ c _ HX.out hok hn hcc)
            obtain ⟨v, hv, ev⟩ := ok_range hok _ hcl
            obtain ⟨bo, oo, rfl, hco, -, -⟩ := HX.out _ hcl
            rw [ev] at hco e2
            rw [Int.toNat_natCast] at e2
            obtain ⟨j, ej⟩ : ∃ j, j = chI u x f := ⟨_, rfl⟩
            rw [← ej] at HCI hco hcl
            obtain ⟨P, eP⟩ : ∃ P, P = 2 ^ v := ⟨_, rfl⟩
            rw [← eP] at e2
            have hsh := shl_one eP (by omega)
            have hPl : P < 18446744073709551616 := by rw [eP]; exact pow_lt64 (by omega)
            have hor : bits .or .u64 (b : Int) (P : Int) = ((b ||| P : Nat) : Int) := u64_or_nat _ _ hb hPl
            have hjb : (j : Int) < (u : Int) := by omega
            have HE1 := Lib.hid e1
            have HE2 := Lib.hid (show V = b ||| P from e2)
            clear hI hn ev ej eP e1 e2
            go_wp2_with (first | (go_at_call 41; refine (HI.out _).mono ?_; rintro e w' ⟨rfl, rfl⟩) | (go_at_call 46; refine (HCI.out).mono ?_; rintro e w' ⟨rfl, rfl⟩))
            go_ret2
            exact ⟨by rw [HE1.out, HE2.out]; rfl, HB.out⟩
          · rw [hI] at HI e2
            have HE1 := Lib.hid e1
            have HE2 := Lib.hid (show V = b from e2)
            clear hI e1 e2
            go_wp2_with (go_at_call 41; refine (HI.out _).mono ?_; rintro e w' ⟨rfl, rfl⟩)
            go_ret2
            exact ⟨by rw [HE1.out, HE2.out]; rfl, HB.out⟩
    · have h1 : ((len : Int) != (N : Int)) = true := by rw [bne_iff_ne]; omega
      have e1 : E = 3 := by rw [hE, if_neg (fun h => hlN h.1)]
      have HE1 := Lib.hid e1
      have HE2 := Lib.hid (show V = 0 by rw [hV, if_neg (by rw [e1]; decide)])
      clear hE hV eE eV h0 hN hS w1 w2 w3 w4 hbS hxS e1 hlN
      go_enter Tryd.func17, Tryd.ntmps17
      go_upto_region 1 with (fail)
      generalize w.alloc _ = W at hcc HX HB ⊢
      go_wp2_with (first
        | (go_at_call 37; refine (HC.out _).mono ?_; rintro e w' ⟨rfl, rfl⟩)
        | (go_at_call 45; refine (values_any _ _ _ _).mono ?_; rintro e w2 ⟨rfl, rfl⟩)
        | (go_at_call 44; refine (HSO.out _ _ (HX.out.below (below_alloc _ _)) (by simp)).mono ?_; rintro e w3 ⟨B3, c3, rfl, hu3, hb3⟩; have HB3 := Lib.hid ((below_alloc W (.cells #[.slice A len c] 32)).trans (hb3.mono (below_alloc W (.cells #[.slice A len c] 32)).size)); clear hu3 hb3))
      go_ret2
      exact ⟨by rw [HE1.out, HE2.out]; rfl, HB.out.trans (HB3.out.mono HB.out.size)⟩
  · have hE : chE n b x len f = ctErr 4 n b x := by unfold chE; rw [if_neg h0]
    have hV : chR n b x len f = 0 := by unfold chR; rw [if_neg (by rw [hE]; exact h0)]
    rw [hE, hV]
    obtain ⟨E, eE⟩ : ∃ E, E = ctErr 4 n b x := ⟨_, rfl⟩
    rw [← eE] at h0 HC ⊢
    have hne : ((E : Int) != 0) = true := by rw [bne_iff_ne]; omega
    clear hE hV eE
    go_enter Tryd.func17, Tryd.ntmps17
    go_upto_region 1 with (fail)
    generalize w.alloc _ = W at hcc HX HB ⊢
    go_wp2_with (go_at_call 37; refine (HC.out _).mono ?_; rintro e w' ⟨rfl, rfl⟩)
    go_ret2
    exact ⟨rfl, HB.out⟩
end Go.Proofs.YtiifmdgcnpdibaaDoor
