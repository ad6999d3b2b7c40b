/-
  Walks: package contraction: opposite, Levi, Harper.
-/
import Derived.Test.YtiifmdgcnpdibaaDoorProg
import Derived.Test.YtiifmdgcnpdibaaDoorBase
import Derived.Test.YtiifmdgcnpdibaaDoorRow
import Derived.Test.YtiifmdgcnpdibaaDoorRowU
import Derived.Test.YtiifmdgcnpdibaaDoorRowsOf
import Derived.Test.YtiifmdgcnpdibaaDoorLeast
import Derived.Test.YtiifmdgcnpdibaaDoorRkQ
import Derived.Test.YtiifmdgcnpdibaaDoorRkB
import Derived.Test.YtiifmdgcnpdibaaDoorRkC3
import Derived.Test.YtiifmdgcnpdibaaDoorPoP
import Derived.Test.YtiifmdgcnpdibaaDoorCtP
import Derived.Test.YtiifmdgcnpdibaaDoorCtQ
import Derived.Test.YtiifmdgcnpdibaaDoorCtA
import Derived.Test.YtiifmdgcnpdibaaDoorCtB
import Derived.Test.YtiifmdgcnpdibaaDoorCtC
namespace Go.Proofs.YtiifmdgcnpdibaaDoor
open Go.RowKit

def leviF (S : Nat) (T : Nat → Nat) (x : Nat) : Nat := x &&& T (cpl S x)
def harpF (S b : Nat) (T : Nat → Nat) (x : Nat) : Nat := b ||| T (cpl S x)
def cM (E len : Nat) : Nat := if E = 0 then len else 0
theorem levi1_any (x y : Nat) (w : World) (hx : x < 18446744073709551616) (hy : y < 18446744073709551616) :
    Calls Tryd.prog 60 #[.int .u64 x, .int .u64 y] w fun e w' => e = .returned (.int .u64 (x &&& y : Nat)) ∧ w = w' := by
  have h := u64_and_nat _ _ hx hy
  go_enter Tryd.func60, Tryd.ntmps60
  go_wp2
  go_ret
  exact ⟨rfl, rfl⟩
theorem harp1_any (b x y bx : Nat) (w : World) (hb : b < 18446744073709551616) (hy : y < 18446744073709551616) (hc : w.cell? ⟨bx, 0, none⟩ = some (.int .u64 b)) :
    Calls Tryd.prog 61 #[.int .u64 x, .int .u64 y, .pointer (some ⟨bx, 0, none⟩)] w fun e w' => e = .returned (.int .u64 (b ||| y : Nat)) ∧ w = w' := by
  have h := u64_or_nat _ _ hb hy
  go_enter Tryd.func61, Tryd.ntmps61
  go_wp2
  go_ret
  exact ⟨rfl, rfl⟩
set_option maxHeartbeats 2000000 in
theorem opp_levi (n : Int) (b len c : Nat) (A : Option Addr) (T : Nat → Nat) (w : World) (hT : U64s w A len T) (hlen : len ≤ 9223372036854775807) (hb : b < 18446744073709551616) :
    Calls Tryd.prog 59 #[.int .i64 n, .int .u64 b, .slice A len c, .func (.func 60) #[] #[]] w (SlcU (ctChk n b len T) (cM (ctChk n b len T) len) (leviF len T) w) := by
  have HC := Lib.hid (ctChk_any n b len c A T w hT hlen hb)
  by_cases h0 : ctChk n b len T = 0
  · obtain ⟨k, rfl, hk, hl, hbS, ht⟩ := ctChk_ok h0
    obtain ⟨N, hN⟩ : ∃ N, N = 2 ^ k := ⟨_, rfl⟩
    have hS : len = 2 ^ N := by rw [hN]; exact hl
    obtain ⟨w1, w2, w3, w4, w5, w6⟩ := all_val4 hN (by omega) hS
    have hN8 : N ≤ 8 := by rw [hN]; exact Nat.le_trans (Nat.pow_le_pow_right (n := 2) (j := 3) (by decide) hk) (by decide)
    have hS256 : len ≤ 256 := by rw [hS]; exact Nat.pow_le_pow_right (n := 2) (j := 8) (by decide) hN8
    have hm : cM (ctChk k b len T) len = len := if_pos h0
    rw [hm, h0]
    rw [h0] at HC
    rw [← hl] at ht hbS
    have HTL := Lib.hid (tab_lt ht)
    have HA := Lib.hid (fun w => ctAll_any k N len w (by omega) hN hS)
    have hup : IntKind.u64.wrap (((len - 1 : Nat) : Int) + 1) = (len : Int) := by rw [IntKind.wrap_u64]; omega
    have HT := Lib.hid hT
    have HCP := Lib.hid (fun x => cpl_lt len x w6)
    have HGL : Hid (∀ x, x < len → leviF len T x < 18446744073709551616) := Lib.hid fun x hx => by
      have h1 := tab_lt ht _ (cpl_lt len x w6)
      exact Nat.lt_of_le_of_lt Nat.and_le_left (by omega)
    clear hT hN hS hl ht h0 hm w1 w2 w3 w4 hbS
    go_enter Tryd.func59, Tryd.ntmps59
    go_wp2_with (first | (go_at_call 42; refine (HA.out _).mono ?_; rintro e w' ⟨rfl, rfl⟩) | (go_at_call 25; refine HC.out.mono ?_; rintro e w1 ⟨rfl, hb1⟩; have HB1 := Lib.hid hb1; clear hb1))
    go_loopw [11, 23] (fun o i wr => ∃ u : Nat, u ≤ len ∧ i = .int .u64 u ∧ wr.ownsRow w.heap.size 22 1 o u (u64L (leviF len T) u) ∧ Below w.heap.size w wr) (fun _ i _ => len - (intOf i).toNat)
    case atStart => exact ⟨0, Nat.zero_le _, rfl, World.ownsRow_nil _ _ _ _, HB1.out⟩
    case round =>
      clear HB1
      obtain ⟨u, hu, rfl, hown, hbl⟩ := hrel
      by_cases hult : u < len
      · have hcp := cpl_bits (x := u) w5 (by omega)
        have hcl := HCP.out u
        have HSU := Lib.hid (u64L_succ (leviF len T) u)
        have hG : leviF len T u = u &&& T (cpl len u) := rfl
        obtain ⟨x, ex⟩ : ∃ x, x = cpl len u := ⟨_, rfl⟩
        rw [← ex] at hcp hcl hG
        have htl := HTL.out x hcl
        obtain ⟨y, ey⟩ : ∃ y, y = leviF len T u := ⟨_, rfl⟩
        rw [← ey] at HSU hG
        obtain ⟨b', off, rfl, hc, -⟩ := (HT.out.below hbl) x hcl
        obtain ⟨t, et⟩ : ∃ t, t = T x := ⟨_, rfl⟩
        rw [← et] at hc htl hG
        have HO := Lib.hid hown
        have HB := Lib.hid hbl
        have hsz := hbl.size
        have HCALL := Lib.hid (levi1_any u t wr (by omega) (by omega))
        rw [← hG] at HCALL
        clear hown hbl ex ey et hG
        have hown := HO.out
        go_wp2_with (first | (go_at_call 42; refine (HA.out _).mono ?_; rintro e w' ⟨rfl, rfl⟩) | (go_at_call 60; refine (HCALL.out).mono ?_; rintro e w' ⟨rfl, rfl⟩) | (at_builtin; obtain ⟨i0, hi, hz0, hz1, hz2⟩ := info_parts Tryd.infoU64; refine wpList_append_own _ rfl _ _ 23 rfl w.heap.size 22 i0 (.int .u64 0) 1 8 Tryd.underlying23 hi hz0 hz1 hz2 rfl (by decide) _ _ _ rfl (hown.alloc _) ⟨wr.heap.size, 0, none⟩ 1 1 [.int .u64 (y : Nat)] rfl rfl (cell_one_new _ _ _) (one_oneCell rfl) (by unfold maxLen; omega) (by omega) (by simp; omega) ?_; intro v' w3 hown' hgrow _))
        go_roundw
        case rel => exact ⟨u + 1, by omega, by go_num, by rw [HSU.out]; exact hown', (HB.out.alloc hsz _).grown hgrow (by simp; omega) (fun k hk => (hown.lt k hk).1)⟩
        case measure => simp [intOf]; omega
      · obtain rfl : u = len := by omega
        obtain ⟨A2, c2, rfl, hu64, _⟩ := own_u64s hown HGL.out
        have HU := Lib.hid hu64
        have HB := Lib.hid hbl
        clear hown hbl hu64
        go_wp2_with fail
        go_ret2
        exact ⟨_, _, rfl, HU.out, HB.out⟩
  · have hm : cM (ctChk n b len T) len = 0 := if_neg h0
    rw [hm]
    obtain ⟨E, eE⟩ : ∃ E, E = ctChk n b len T := ⟨_, rfl⟩
    rw [← eE] at HC h0 ⊢
    have hne : ((E : Int) != 0) = true := by rw [bne_iff_ne]; omega
    clear eE hm hT
    go_enter Tryd.func59, Tryd.ntmps59
    go_wp2_with (go_at_call 25; refine HC.out.mono ?_; rintro e w1 ⟨rfl, hb1⟩; have HB1 := Lib.hid hb1; clear hb1)
    go_ret2
    exact ⟨none, 0, rfl, u64s_nil _ _ _, HB1.out⟩
set_option maxHeartbeats 2000000 in
theorem opp_harp (n : Int) (b len c bx : Nat) (A : Option Addr) (T : Nat → Nat) (w : World) (hT : U64s w A len T) (hlen : len ≤ 9223372036854775807) (hb : b < 18446744073709551616) (hcb : w.cell? ⟨bx, 0, none⟩ = some (.int .u64 b)) :
    Calls Tryd.prog 59 #[.int .i64 n, .int .u64 b, .slice A len c, .func (.func 61) #[] #[.pointer (some ⟨bx, 0, none⟩)]] w (SlcU (ctChk n b len T) (cM (ctChk n b len T) len) (harpF len b T) w) := by
  have HC := Lib.hid (ctChk_any n b len c A T w hT hlen hb)
  by_cases h0 : ctChk n b len T = 0
  · obtain ⟨k, rfl, hk, hl, hbS, ht⟩ := ctChk_ok h0
    obtain ⟨N, hN⟩ : ∃ N, N = 2 ^ k := ⟨_, rfl⟩
    have hS : len = 2 ^ N := by rw [hN]; exact hl
    obtain ⟨w1, w2, w3, w4, w5, w6⟩ := all_val4 hN (by omega) hS
    have hN8 : N ≤ 8 := by rw [hN]; exact Nat.le_trans (Nat.pow_le_pow_right (n := 2) (j := 3) (by decide) hk) (by decide)
    have hS256 : len ≤ 256 := by rw [hS]; exact Nat.pow_le_pow_right (n := 2) (j := 8) (by decide) hN8
    have hm : cM (ctChk k b len T) len = len := if_pos h0
    rw [hm, h0]
    rw [h0] at HC
    rw [← hl] at ht hbS
    have HTL := Lib.hid (tab_lt ht)
    have HA := Lib.hid (fun w => ctAll_any k N len w (by omega) hN hS)
    have hup : IntKind.u64.wrap (((len - 1 : Nat) : Int) + 1) = (len : Int) := by rw [IntKind.wrap_u64]; omega
    have HT := Lib.hid hT
    have HCP := Lib.hid (fun x => cpl_lt len x w6)
    have HCB := Lib.hid hcb
    clear hcb
    have HGL : Hid (∀ x, x < len → harpF len b T x < 18446744073709551616) := Lib.hid fun x hx => by
      have h1 := tab_lt ht _ (cpl_lt len x w6)
      exact or_lt64 hb (by omega)
    clear hT hN hS hl ht h0 hm w1 w2 w3 w4 hbS
    go_enter Tryd.func59, Tryd.ntmps59
    go_wp2_with (first | (go_at_call 42; refine (HA.out _).mono ?_; rintro e w' ⟨rfl, rfl⟩) | (go_at_call 25; refine HC.out.mono ?_; rintro e w1 ⟨rfl, hb1⟩; have HB1 := Lib.hid hb1; clear hb1))
    go_loopw [11, 23] (fun o i wr => ∃ u : Nat, u ≤ len ∧ i = .int .u64 u ∧ wr.ownsRow w.heap.size 22 1 o u (u64L (harpF len b T) u) ∧ Below w.heap.size w wr) (fun _ i _ => len - (intOf i).toNat)
    case atStart => exact ⟨0, Nat.zero_le _, rfl, World.ownsRow_nil _ _ _ _, HB1.out⟩
    case round =>
      clear HB1
      obtain ⟨u, hu, rfl, hown, hbl⟩ := hrel
      by_cases hult : u < len
      · have hcp := cpl_bits (x := u) w5 (by omega)
        have hcl := HCP.out u
        have HSU := Lib.hid (u64L_succ (harpF len b T) u)
        have hG : harpF len b T u = b ||| T (cpl len u) := rfl
        obtain ⟨x, ex⟩ : ∃ x, x = cpl len u := ⟨_, rfl⟩
        rw [← ex] at hcp hcl hG
        have htl := HTL.out x hcl
        obtain ⟨y, ey⟩ : ∃ y, y = harpF len b T u := ⟨_, rfl⟩
        rw [← ey] at HSU hG
        obtain ⟨b', off, rfl, hc, -⟩ := (HT.out.below hbl) x hcl
        obtain ⟨t, et⟩ : ∃ t, t = T x := ⟨_, rfl⟩
        rw [← et] at hc htl hG
        have hcb := cell_below hbl HCB.out
        have HO := Lib.hid hown
        have HB := Lib.hid hbl
        have hsz := hbl.size
        have HCALL := Lib.hid (harp1_any b u t bx wr hb (by omega) hcb)
        rw [← hG] at HCALL
        clear hown hbl ex ey et hG
        have hown := HO.out
        go_wp2_with (first | (go_at_call 42; refine (HA.out _).mono ?_; rintro e w' ⟨rfl, rfl⟩) | (go_at_call 61; refine (HCALL.out).mono ?_; rintro e w' ⟨rfl, rfl⟩) | (at_builtin; obtain ⟨i0, hi, hz0, hz1, hz2⟩ := info_parts Tryd.infoU64; refine wpList_append_own _ rfl _ _ 23 rfl w.heap.size 22 i0 (.int .u64 0) 1 8 Tryd.underlying23 hi hz0 hz1 hz2 rfl (by decide) _ _ _ rfl (hown.alloc _) ⟨wr.heap.size, 0, none⟩ 1 1 [.int .u64 (y : Nat)] rfl rfl (cell_one_new _ _ _) (one_oneCell rfl) (by unfold maxLen; omega) (by omega) (by simp; omega) ?_; intro v' w3 hown' hgrow _))
        go_roundw
        case rel => exact ⟨u + 1, by omega, by go_num, by rw [HSU.out]; exact hown', (HB.out.alloc hsz _).grown hgrow (by simp; omega) (fun k hk => (hown.lt k hk).1)⟩
        case measure => simp [intOf]; omega
      · obtain rfl : u = len := by omega
        obtain ⟨A2, c2, rfl, hu64, _⟩ := own_u64s hown HGL.out
        have HU := Lib.hid hu64
        have HB := Lib.hid hbl
        clear hown hbl hu64
        go_wp2_with fail
        go_ret2
        exact ⟨_, _, rfl, HU.out, HB.out⟩
  · have hm : cM (ctChk n b len T) len = 0 := if_neg h0
    rw [hm]
    obtain ⟨E, eE⟩ : ∃ E, E = ctChk n b len T := ⟨_, rfl⟩
    rw [← eE] at HC h0 ⊢
    have hne : ((E : Int) != 0) = true := by rw [bne_iff_ne]; omega
    clear eE hm hT
    go_enter Tryd.func59, Tryd.ntmps59
    go_wp2_with (go_at_call 25; refine HC.out.mono ?_; rintro e w1 ⟨rfl, hb1⟩; have HB1 := Lib.hid hb1; clear hb1)
    go_ret2
    exact ⟨none, 0, rfl, u64s_nil _ _ _, HB1.out⟩
theorem Levi_any (n : Int) (b len c : Nat) (A : Option Addr) (T : Nat → Nat) (w : World) (hT : U64s w A len T) (hlen : len ≤ 9223372036854775807) (hb : b < 18446744073709551616) :
    Calls Tryd.prog 30 #[.int .i64 n, .int .u64 b, .slice A len c] w (SlcU (ctChk n b len T) (cM (ctChk n b len T) len) (leviF len T) w) := by
  have HC := Lib.hid (opp_levi n b len c A T w hT hlen hb)
  obtain ⟨E, eE⟩ : ∃ E, E = ctChk n b len T := ⟨_, rfl⟩
  rw [← eE] at HC ⊢
  clear eE hT
  go_enter Tryd.func30, Tryd.ntmps30
  go_wp2_with (go_at_call 59; refine HC.out.mono ?_; rintro e w1 ⟨A1, c1, rfl, hu, hb1⟩; have HU := Lib.hid hu; have HB := Lib.hid hb1; clear hu hb1)
  go_ret2
  exact ⟨_, _, rfl, HU.out, HB.out⟩
theorem Harper_any (n : Int) (b len c : Nat) (A : Option Addr) (T : Nat → Nat) (w : World) (hT : U64s w A len T) (hlen : len ≤ 9223372036854775807) (hb : b < 18446744073709551616) :
    Calls Tryd.prog 32 #[.int .i64 n, .int .u64 b, .slice A len c] w (SlcU (ctChk n b len T) (cM (ctChk n b len T) len) (harpF len b T) w) := by
  have hbl := below_alloc w (.cells #[.int .u64 b] 22)
  have hcc : (w.alloc (.cells #[.int .u64 b] 22)).cell? ⟨w.heap.size, 0, none⟩ = some (.int .u64 b) := by simp
  have HC := Lib.hid (fun W bx (hW : U64s W A len T) hc => opp_harp n b len c bx A T W hW hlen hb hc)
  have HT := Lib.hid (hT.below hbl)
  have HB := Lib.hid hbl
  obtain ⟨E, eE⟩ : ∃ E, E = ctChk n b len T := ⟨_, rfl⟩
  rw [← eE] at HC ⊢
  clear eE hT hbl
  go_enter Tryd.func32, Tryd.ntmps32
  go_upto_region 1 with (fail)
  generalize w.alloc _ = W at hcc HT HB ⊢
  go_wp2_with (go_at_call 59; refine (HC.out _ _ HT.out hcc).mono ?_; rintro e w1 ⟨A1, c1, rfl, hu, hb1⟩; have HU := Lib.hid hu; have HB := Lib.hid (HB.out.trans (hb1.mono HB.out.size)); clear hu hb1)
  go_ret2
  exact ⟨_, _, rfl, HU.out, HB.out⟩
end Go.Proofs.YtiifmdgcnpdibaaDoor
