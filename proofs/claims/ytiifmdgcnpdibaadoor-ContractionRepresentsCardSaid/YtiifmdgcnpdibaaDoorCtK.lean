/-
  Walks: awake of layer 40.
-/
import Derived.Test.YtiifmdgcnpdibaaDoorProg
import Derived.Test.YtiifmdgcnpdibaaDoorBase
import Derived.Test.YtiifmdgcnpdibaaDoorRow
import Derived.Test.YtiifmdgcnpdibaaDoorRowU
import Derived.Test.YtiifmdgcnpdibaaDoorRowsOf
import Derived.Test.YtiifmdgcnpdibaaDoorPc
import Derived.Test.YtiifmdgcnpdibaaDoorLeast
import Derived.Test.YtiifmdgcnpdibaaDoorRkQ
import Derived.Test.YtiifmdgcnpdibaaDoorRkB
import Derived.Test.YtiifmdgcnpdibaaDoorRkC3
import Derived.Test.YtiifmdgcnpdibaaDoorPoP
import Derived.Test.YtiifmdgcnpdibaaDoorSlcU
import Derived.Test.YtiifmdgcnpdibaaDoorCtP
import Derived.Test.YtiifmdgcnpdibaaDoorCtQ
import Derived.Test.YtiifmdgcnpdibaaDoorCtO
import Derived.Test.YtiifmdgcnpdibaaDoorCtA
import Derived.Test.YtiifmdgcnpdibaaDoorCtB
import Derived.Test.YtiifmdgcnpdibaaDoorCtE
import Derived.Test.YtiifmdgcnpdibaaDoorCtF
import Derived.Test.YtiifmdgcnpdibaaDoorCtG
import Derived.Test.YtiifmdgcnpdibaaDoorCtH
import Derived.Test.YtiifmdgcnpdibaaDoorCtJ
import Derived.Test.YtiifmdgcnpdibaaDoorCtS
namespace Go.Proofs.YtiifmdgcnpdibaaDoor
open Go.RowKit

def lit4 (a b c d : Int) : Nat → Int := fun i => if i = 0 then a else if i = 1 then b else if i = 2 then c else d
theorem lit4_i64s (w : World) (a b c d : Int) (T : TypeId) (h : 0 ≤ a ∧ a < 256 ∧ 0 ≤ b ∧ b < 256 ∧ 0 ≤ c ∧ c < 256 ∧ 0 ≤ d ∧ d < 256) :
    I64s (w.alloc (.cells #[.int .i64 a, .int .i64 b, .int .i64 c, .int .i64 d] T)) (some ⟨w.heap.size, 0, none⟩) 4 (lit4 a b c d) := fun k hk => by
  have h4 : k = 0 ∨ k = 1 ∨ k = 2 ∨ k = 3 := by omega
  refine ⟨w.heap.size, 0, rfl, ?_, ?_⟩
  · rcases h4 with rfl | rfl | rfl | rfl <;> simp [lit4]
  · rcases h4 with rfl | rfl | rfl | rfl <;> simp [lit4] <;> omega
def lit2u (a b : Nat) : Nat → Nat := fun i => if i = 0 then a else b
theorem lit2_u64s (w : World) (a b : Nat) (T : TypeId) (h : a < 256 ∧ b < 256) :
    U64s (w.alloc (.cells #[.int .u64 a, .int .u64 b] T)) (some ⟨w.heap.size, 0, none⟩) 2 (lit2u a b) := fun k hk => by
  have h2 : k = 0 ∨ k = 1 := by omega
  refine ⟨w.heap.size, 0, rfl, ?_, ?_⟩
  · rcases h2 with rfl | rfl <;> simp [lit2u]
  · rcases h2 with rfl | rfl <;> simp [lit2u] <;> omega
def exO : Nat → Int := lit4 2 0 1 3
def exR : Nat → Int := lit4 2 1 1 0
def exT (x : Nat) : Nat := if x = 8 then 9 else fulV 16 8 x
theorem c1 : ctErr 4 2 8 10 = 0 ∧ (remR 2 8 10).length = 2 ∧ eqU 2 2 (ln (remR 2 8 10)) (lit2u 9 12) = true := by decide +kernel
theorem c2 : fulR 2 8 10 = 13 := by decide +kernel
theorem c3 : chR 2 8 10 4 exO = 12 ∧ chE 2 8 10 4 exO = 0 := by decide +kernel
theorem c4 : brV 2 4 exR 14 = 9 ∧ brErr 2 4 exR 14 = 0 := by decide +kernel
theorem c5 : tabE 2 4 exR = 0 ∧ ctM 2 4 exR = 16 := by decide +kernel
theorem c6 : orE 2 8 16 (ctT 4 exR) = 0 ∧ orM 2 8 16 (ctT 4 exR) = 4 := by decide +kernel
theorem c6b : eqI 4 4 (orF 2 8 (ctT 4 exR)) exR = true := by decide +kernel
theorem c7 : hoOk 2 8 16 exT 6 = false ∧ hoX 2 8 16 exT 6 = 10 ∧ hoY 2 8 16 exT 6 = 8 ∧ hoE 2 8 16 exT 6 = 0 := by decide +kernel
theorem c8 : hoOk 2 8 16 exT 5 = true ∧ hoE 2 8 16 exT 5 = 0 := by decide +kernel
theorem c9 : orE 2 8 16 exT = 9 := by decide +kernel
theorem k1 (w : World) : Calls Tryd.prog 11 #[.int .i64 2, .int .u64 8, .int .u64 10] w fun e w' => ∃ A c, e = .returned (.tuple #[.slice A 2 c, .int .i64 0]) ∧ U64s w' A 2 (ln (remR 2 8 10)) ∧ Below w.heap.size w w' := by
  have h := Remainders_any 2 8 10 w (by decide) (by decide)
  rw [c1.1, c1.2.1] at h
  exact h
theorem k2 (w : World) : Calls Tryd.prog 13 #[.int .i64 2, .int .u64 8, .int .u64 10] w fun e w' => e = .returned (.tuple #[.int .u64 13, .int .i64 0]) ∧ w = w' := by
  have h := Full_any 2 8 10 w (by decide) (by decide)
  rw [c1.1, c2] at h
  exact h
theorem k3 (A : Option Addr) (c : Nat) (w : World) (hf : I64s w A 4 exO) : Calls Tryd.prog 17 #[.int .i64 2, .int .u64 8, .int .u64 10, .slice A 4 c] w fun e w' => e = .returned (.tuple #[.int .u64 12, .int .i64 0]) ∧ Below w.heap.size w w' := by
  have h := Choice_any 2 8 10 4 c A exO w hf (by decide) (by decide) (by decide)
  rw [c3.1, c3.2] at h
  exact h
theorem k4 (A : Option Addr) (c : Nat) (w : World) (hf : I64s w A 4 exR) : Calls Tryd.prog 19 #[.int .i64 2, .slice A 4 c, .int .u64 14] w fun e w' => e = .returned (.tuple #[.int .u64 9, .int .i64 0]) ∧ Below w.heap.size w w' := by
  have h := ByRanks_any 2 4 c 14 A exR w hf (by decide) (by decide)
  rw [c4.1, c4.2] at h
  exact h
theorem k5 (A : Option Addr) (c : Nat) (w : World) (hf : I64s w A 4 exR) : Calls Tryd.prog 21 #[.int .i64 2, .slice A 4 c] w (SlcU 0 16 (ctT 4 exR) w) := by
  have h := ctTable_any 2 4 c A exR w hf (by decide)
  rw [c5.1, c5.2] at h
  exact h
theorem k6 (A : Option Addr) (c : Nat) (w : World) (hf : U64s w A 16 (ctT 4 exR)) : Calls Tryd.prog 29 #[.int .i64 2, .int .u64 8, .slice A 16 c] w (SlcI 0 4 (orF 2 8 (ctT 4 exR)) w) := by
  have h := Order_any 2 8 16 c A (ctT 4 exR) w hf (by decide) (by decide)
  rw [c6.1, c6.2] at h
  exact h
theorem k7 (A : Option Addr) (c : Nat) (w : World) (hL : LaidC w) (hf : U64s w A 16 exT) : Calls Tryd.prog 23 #[.int .i64 2, .int .u64 8, .slice A 16 c, .int .i64 6] w fun e w' => e = .returned (.tuple #[.bool false, .int .i64 10, .int .i64 8, .int .i64 0]) ∧ Below w.heap.size w w' := by
  have h := Holds_any 2 6 8 16 c A exT w hL hf (by decide) (by decide) (by decide)
  rw [c7.1, c7.2.1, c7.2.2.1, c7.2.2.2] at h
  exact h
theorem k8 (A : Option Addr) (c : Nat) (w : World) (hL : LaidC w) (hf : U64s w A 16 exT) : Calls Tryd.prog 23 #[.int .i64 2, .int .u64 8, .slice A 16 c, .int .i64 5] w fun e w' => ∃ x y, e = .returned (.tuple #[.bool true, .int .i64 x, .int .i64 y, .int .i64 0]) ∧ Below w.heap.size w w' := by
  have h := Holds_any 2 5 8 16 c A exT w hL hf (by decide) (by decide) (by decide)
  rw [c8.1, c8.2] at h
  exact h.mono fun e w' ⟨he, hb⟩ => ⟨_, _, he, hb⟩
theorem k9 (A : Option Addr) (c : Nat) (w : World) (hf : U64s w A 16 exT) : Calls Tryd.prog 29 #[.int .i64 2, .int .u64 8, .slice A 16 c] w fun e w' => ∃ v, e = .returned (.tuple #[v, .int .i64 9]) ∧ Below w.heap.size w w' := by
  have h := Order_any 2 8 16 c A exT w hf (by decide) (by decide)
  rw [c9] at h
  exact h.mono fun e w' ⟨A', c', he, _, hb⟩ => ⟨_, he, hb⟩
theorem k10 (x : Nat) (hx : x < 16) (w : World) : Calls Tryd.prog 13 #[.int .i64 2, .int .u64 8, .int .u64 x] w fun e w' => e = .returned (.tuple #[.int .u64 (fulV 16 8 x : Nat), .int .i64 0]) ∧ w = w' := by
  have h := Full_any 2 8 x w (by decide) (by omega)
  have e0 : ctErr 4 2 8 x = 0 := ctErr_in (k := 2) (by decide) (by decide) hx
  have e1 : fulR 2 8 x = fulV 16 8 x := by unfold fulR; rw [if_pos e0]; rfl
  rw [e0, e1] at h
  exact h
theorem fulV_lt (x : Nat) (hx : x < 16) : fulV 16 8 x < 16 := by
  have h : ∀ x, x < 16 → fulV 16 8 x < 16 := by decide +kernel
  exact h x hx

set_option maxHeartbeats 4000000 in
set_option maxRecDepth 100000 in
theorem awake_any (w : World) (hL : LaidC w) : Calls Tryd.prog 16 #[] w fun e w' => e = .returned (.bool true) ∧ Below w.heap.size w w' := by
  have HL := Lib.hid hL
  clear hL
  go_enter Tryd.func16, Tryd.ntmps16
  go_upto_region 3 with (first | (go_at_call 11; refine (k1 _).mono ?_; rintro e w1 ⟨A1, cA, rfl, hu1, hb1⟩; have HU1 := Lib.hid hu1; have HB := Lib.hid hb1; clear hu1 hb1) | (go_at_call 13; refine (k2 _).mono ?_; rintro e w' ⟨rfl, rfl⟩))
  -- the list
  go_wp2_with fail
  have hi3 := lit4_i64s w1 2 0 1 3 3 (by decide)
  have hst := below_alloc w1 (.cells #[.int .i64 2, .int .i64 0, .int .i64 1, .int .i64 3] 3)
  generalize w1.heap.size = B2 at hi3 ⊢
  generalize w1.alloc _ = W2 at hi3 hst ⊢
  have HB := Lib.hid (HB.out.trans (hst.mono HB.out.size))
  have HU1 := Lib.hid (HU1.out.below hst)
  clear hst
  refine (k3 _ _ _ hi3).mono ?_
  rintro e w2 ⟨rfl, hst⟩
  have HB := Lib.hid (HB.out.trans (hst.mono HB.out.size))
  have HU1 := Lib.hid (HU1.out.below hst)
  clear hi3 hst
  go_wp2_with fail
  have hi3 := lit4_i64s w2 2 1 1 0 3 (by decide)
  have hst := below_alloc w2 (.cells #[.int .i64 2, .int .i64 1, .int .i64 1, .int .i64 0] 3)
  generalize w2.heap.size = B3 at hi3 ⊢
  generalize w2.alloc _ = W3 at hi3 hst ⊢
  have HB := Lib.hid (HB.out.trans (hst.mono HB.out.size))
  have HU1 := Lib.hid (HU1.out.below hst)
  clear hst
  refine (k4 _ _ _ hi3).mono ?_
  rintro e w3 ⟨rfl, hst⟩
  have HB := Lib.hid (HB.out.trans (hst.mono HB.out.size))
  have HU1 := Lib.hid (HU1.out.below hst)
  clear hi3 hst
  go_wp2_with fail
  have hu2 := lit2_u64s w3 9 12 22 (by decide)
  have hst := below_alloc w3 (.cells #[.int .u64 9, .int .u64 12] 22)
  generalize w3.heap.size = B4 at hu2 ⊢
  generalize w3.alloc _ = W4 at hu2 hst ⊢
  have HB := Lib.hid (HB.out.trans (hst.mono HB.out.size))
  have HU1 := Lib.hid (HU1.out.below hst)
  clear hst
  refine (sameU_any _ _ _ _ _ _ _ _ _ HU1.out hu2 (by decide) (by decide)).mono ?_
  rw [c1.2.2]
  rintro e w4 ⟨rfl, hst⟩
  have HB := Lib.hid (HB.out.trans (hst.mono HB.out.size))
  clear hu2 hst HU1
  go_wp2_with fail
  have hi3 := lit4_i64s w4 2 1 1 0 3 (by decide)
  have hst := below_alloc w4 (.cells #[.int .i64 2, .int .i64 1, .int .i64 1, .int .i64 0] 3)
  generalize w4.heap.size = B5 at hi3 ⊢
  generalize w4.alloc _ = W5 at hi3 hst ⊢
  have HB := Lib.hid (HB.out.trans (hst.mono HB.out.size))
  clear hst
  refine (k5 _ _ _ hi3).mono ?_
  rintro e w5 ⟨A5, cB, rfl, hu5, hst⟩
  have HB := Lib.hid (HB.out.trans (hst.mono HB.out.size))
  clear hi3 hst
  go_wp2_with fail
  refine (k6 _ _ _ hu5).mono ?_
  rintro e w6 ⟨A6, cC, rfl, hi6, hst⟩
  have HB := Lib.hid (HB.out.trans (hst.mono HB.out.size))
  have HI6 := Lib.hid hi6
  clear hu5 hst hi6
  have hsz := HB.out.size
  go_wp2_with fail
  go_loopw [13, 87] (fun o i wr => ∃ u : Nat, u ≤ 16 ∧ i = .int .i64 u ∧ wr.ownsRow w6.heap.size 22 1 o u (u64L (fulV 16 8) u) ∧ Below w6.heap.size w6 wr) (fun _ i _ => 16 - (intOf i).toNat)
  case atStart => exact ⟨0, Nat.zero_le _, rfl, World.ownsRow_nil _ _ _ _, Below.refl _ _⟩
  case round =>
    obtain ⟨u, hu, rfl, hown, hbl⟩ := hrel
    by_cases hult : u < 16
    · have hd : decide ((u : Int) < 16) = true := decide_eq_true (by omega)
      have hcu : IntKind.u64.wrap (u : Int) = (u : Int) := by rw [IntKind.wrap_u64]; omega
      have HSU := Lib.hid (u64L_succ (fulV 16 8) u)
      have HF := Lib.hid (k10 u hult)
      obtain ⟨y, ey⟩ : ∃ y, y = fulV 16 8 u := ⟨_, rfl⟩
      rw [← ey] at HF HSU
      have HO := Lib.hid hown
      have HB2 := Lib.hid hbl
      have hsz2 := hbl.size
      clear hown hbl ey
      have hown := HO.out
      go_wp2_with (first | (go_at_call 13; refine (HF.out _).mono ?_; rintro e w' ⟨rfl, rfl⟩) | (at_builtin; obtain ⟨i0, hi, hz0, hz1, hz2⟩ := info_parts Tryd.infoU64; refine wpList_append_own _ rfl _ _ 23 rfl w6.heap.size 22 i0 (.int .u64 0) 1 8 Tryd.underlying23 hi hz0 hz1 hz2 rfl (by decide) _ _ _ rfl (hown.alloc _) ⟨wr.heap.size, 0, none⟩ 1 1 [.int .u64 (y : Nat)] rfl rfl (cell_one_new _ _ _) (one_oneCell rfl) (by unfold maxLen; omega) (by omega) (by simp; omega) ?_; intro v' w3 hown' hgrow _))
      go_roundw
      case rel => exact ⟨u + 1, by omega, by go_num, by rw [HSU.out]; exact hown', (HB2.out.alloc hsz2 _).grown hgrow (by simp; omega) (fun k hk => (hown.lt k hk).1)⟩
      case measure => simp [intOf]; omega
    · obtain rfl : u = 16 := by omega
      have hd : decide (((16 : Nat) : Int) < 16) = false := rfl
      obtain ⟨g, cap, hv⟩ := own_succ (n := 15) hown
      have hlt := (hown.lt g (by rw [hv]; rfl))
      obtain ⟨A2, cD, hv2, hu64, hA2⟩ := own_u64s hown (fun x hx => by have := fulV_lt x hx; omega)
      rw [hv] at hv2
      injection hv2 with hv3 _ hv4
      subst hv3 hv4 hv
      have hbk : ∃ cs, Blk wr g 22 cs := by
        rcases hown.2 with ⟨h0, _⟩ | ⟨g', cap', cur', e', _, hh, _⟩
        · cases h0
        · injection e' with e1 _ _
          injection e1 with e1
          injection e1 with e1
          subst e1
          exact ⟨cur', hh⟩
      obtain ⟨cs, hbk⟩ := hbk
      have hf8 := hbk.frozen (k := 8)
      obtain ⟨b8, o8, e8, hc8, _⟩ := hu64 8 (by decide)
      injection e8 with e8
      injection e8 with e8 e9
      subst e8 e9
      rw [Nat.zero_add] at hc8
      have hT : U64s (wr.setCell ⟨g, 8, none⟩ (.int .u64 9)) (some ⟨g, 0, none⟩) 16 exT := fun k hk => by
        refine ⟨g, 0, rfl, ?_, ?_⟩
        · rw [Nat.zero_add]
          unfold exT
          by_cases h8 : k = 8
          · subst h8
            rw [if_pos rfl]
            exact World.cell?_setCell_same' _ _ _ (by rw [hc8]; rfl)
          · rw [if_neg h8, World.cell?_setCell_other _ _ _ _ (by simp)]
            obtain ⟨b', o', e', hc', _⟩ := hu64 k hk
            injection e' with e'
            injection e' with e1 e2
            subst e1 e2
            rw [Nat.zero_add] at hc'
            exact hc'
        · unfold exT
          by_cases h8 : k = 8
          · rw [if_pos h8]; decide
          · rw [if_neg h8]
            have := fulV_lt k hk
            omega
      have hbs : Below w6.heap.size w6 (wr.setCell ⟨g, 8, none⟩ (.int .u64 9)) := hbl.setCell (p := ⟨g, 8, none⟩) hlt.1 _
      have HT := Lib.hid hT
      have HBS := Lib.hid hbs
      clear hT hbs hbl hown hlt hu64 hA2 hbk
      go_upto_region 17 with (fail)
      generalize wr.setCell _ _ = V at HT HBS ⊢
      have HBV := Lib.hid (HB.out.trans (HBS.out.mono HB.out.size))
      have HI6 := Lib.hid (HI6.out.below HBS.out)
      clear HBS hc8 hf8
      go_upto_region 18 with (go_at_call 23; refine (k7 _ _ _ (HL.out.below HBV.out) HT.out).mono ?_; rintro e w7 ⟨rfl, hst⟩; have HST := Lib.hid hst; clear hst)
      have HBV := Lib.hid (HBV.out.trans (HST.out.mono HBV.out.size))
      have HI6 := Lib.hid (HI6.out.below HST.out)
      have HT := Lib.hid (HT.out.below HST.out)
      clear HST
      go_upto_region 19 with (go_at_call 23; refine (k8 _ _ _ (HL.out.below HBV.out) HT.out).mono ?_; rintro e w8 ⟨x8, y8, rfl, hst⟩; have HST := Lib.hid hst; clear hst)
      have HBV := Lib.hid (HBV.out.trans (HST.out.mono HBV.out.size))
      have HI6 := Lib.hid (HI6.out.below HST.out)
      have HT := Lib.hid (HT.out.below HST.out)
      clear HST
      go_upto_region 20 with (go_at_call 29; refine (k9 _ _ _ HT.out).mono ?_; rintro e w9 ⟨v9, rfl, hst⟩; have HST := Lib.hid hst; clear hst)
      have HBV := Lib.hid (HBV.out.trans (HST.out.mono HBV.out.size))
      have HI6 := Lib.hid (HI6.out.below HST.out)
      clear HST HT
      go_wp2_with fail
      have hi3 := lit4_i64s w9 2 1 1 0 3 (by decide)
      have hst := below_alloc w9 (.cells #[.int .i64 2, .int .i64 1, .int .i64 1, .int .i64 0] 3)
      generalize w9.heap.size = B9 at hi3 ⊢
      generalize w9.alloc _ = W9 at hi3 hst ⊢
      have HBV := Lib.hid (HBV.out.trans (hst.mono HBV.out.size))
      have HI6 := Lib.hid (HI6.out.below hst)
      clear hst
      refine (same_any _ _ _ _ _ _ _ _ _ HI6.out hi3 (by decide) (by decide)).mono ?_
      rw [show eqI 4 4 (orF 2 8 (ctT 4 exR)) (lit4 2 1 1 0) = true from c6b]
      rintro e w10 ⟨rfl, hst⟩
      have HBV := Lib.hid (HBV.out.trans (hst.mono HBV.out.size))
      clear hi3 hst HI6
      go_wp2_with fail
      go_ret
      exact ⟨rfl, HBV.out⟩
end Go.Proofs.YtiifmdgcnpdibaaDoor
