/-
  Walks: package revision: Canonical.
-/
import Derived.Test.YtlcojpopngdigaaDoorProg
import Derived.Test.YtlcojpopngdigaaDoorBase
import Derived.Test.YtlcojpopngdigaaDoorRow
import Derived.Test.YtlcojpopngdigaaDoorRowU
import Derived.Test.YtlcojpopngdigaaDoorLeast
import Derived.Test.YtlcojpopngdigaaDoorRkP
import Derived.Test.YtlcojpopngdigaaDoorRkQ
import Derived.Test.YtlcojpopngdigaaDoorRkB
import Derived.Test.YtlcojpopngdigaaDoorRkC2
import Derived.Test.YtlcojpopngdigaaDoorRkS
namespace Go.Proofs.YtlcojpopngdigaaDoor
open Go.RowKit

theorem Canonical_err (n : Int) (len c : Nat) (A : Option Addr) (f : Nat → Int) (w : World) (hx : I64s w A len f) (hlen : len ≤ 9223372036854775807) (he : revErr n len f ≠ 0) :
    Calls Tryd.prog 8 #[.int .i64 n, .slice A len c] w fun e w' => e = .returned (.tuple #[.slice none 0 0, .int .i64 (revErr n len f : Nat)]) ∧ w = w' := by
  have HC := Lib.hid (revCheck_any n len c A f w hx hlen)
  obtain ⟨E, eE⟩ : ∃ E, E = revErr n len f := ⟨_, rfl⟩
  rw [← eE] at HC he ⊢
  have hne : ((E : Int) != 0) = true := by rw [bne_iff_ne]; omega
  clear hx eE he
  go_enter Tryd.func8, Tryd.ntmps8
  go_wp2_with (go_at_call 4; refine (HC.out).mono ?_; rintro e w' ⟨rfl, rfl⟩)
  go_ret2
  exact ⟨rfl, rfl⟩
/-- A block of N ints that the call has made. -/
def CanPost (N : Nat) (g : Nat → Nat) (w : World) (e : Ending) (w' : World) : Prop :=
  ∃ B, e = .returned (.tuple #[.slice (some ⟨B, 0, none⟩) N N, .int .i64 0]) ∧ RowI w' B N g ∧ w.heap.size ≤ B ∧ Below w.heap.size w w'
theorem sortZ_length (l : List Int) : (sortZ l).length = l.length := (sortZ_perm l).length_eq
set_option maxHeartbeats 2000000 in
theorem Canonical_in (k N c : Nat) (A : Option Addr) (f : Nat → Int) (w : World) (hx : I64s w A N f) (hk : k ≤ 4) (hN : N = 2 ^ k) (hr : revErr k N f = 0) :
    Calls Tryd.prog 8 #[.int .i64 k, .slice A N c] w (CanPost N (canF N f) w) := by
  have hN16 := pow_le16 hN hk
  have hN0 : 0 < N := by rw [hN]; exact Nat.two_pow_pos k
  have hC := revCheck_any k N c A f w hx (by omega)
  rw [hr] at hC
  have HC := Lib.hid hC
  have hmk := run_make_row' (P := Tryd.prog) 22 3 (.int .i64 0) 8 Tryd.underlying22 Tryd.infoInt rfl .i64 .i64 N (by omega) (by omega)
  have hcl := clone_any A N c f w hx hN0 (by omega)
  have HCL := Lib.hid hcl
  have HX := Lib.hid hx
  obtain ⟨zs, ezs⟩ : ∃ zs, zs = zsOf f N := ⟨_, rfl⟩
  obtain ⟨ss, ess⟩ : ∃ ss, ss = sortZ zs := ⟨_, rfl⟩
  obtain ⟨cs, ecs⟩ : ∃ cs, cs = Lib.compact ss := ⟨_, rfl⟩
  have hzl : zs.length = N := by rw [ezs, zsOf_length]
  have hsl : ss.length = N := by rw [ess, sortZ_length, hzl]
  have hcsl : cs.length ≤ N := by rw [ecs, ← hsl]; exact Lib.compact_length_le _
  have HIDX : Hid (∀ v, v < N → Lib.idxOf cs (f v) = (canF N f v : Nat)) := Lib.hid fun v hv => by rw [ecs, ess, ezs]; exact idx_can hv
  have HZL := Lib.hid hzl
  have HSL := Lib.hid hsl
  have EZ := Lib.hid ezs
  have ES := Lib.hid ess
  have EC := Lib.hid ecs
  clear hx hN hC hr hcl hzl hsl ezs ess ecs
  go_enter Tryd.func8, Tryd.ntmps8
  go_wp2_with (go_at_call 4; refine (HC.out).mono ?_; rintro e w' ⟨rfl, rfl⟩)
  refine HCL.out.mono ?_
  rintro e w1 ⟨g, cap, rfl, ho, hb⟩
  rw [← EZ.out] at ho
  have HO := Lib.hid ho
  have HB := Lib.hid hb
  clear ho hb
  have hs := sort_any HB.out HO.out (by rw [HZL.out]; omega)
  rw [HZL.out, ← ES.out] at hs
  have HSO := Lib.hid hs
  clear hs
  go_wp2_with fail
  refine HSO.out.mono ?_
  rintro e w2 ⟨rfl, ho, hb⟩
  have HO := Lib.hid ho
  have HB := Lib.hid hb
  clear ho hb HSO
  have hs := compact_any HB.out HO.out (by rw [HSL.out]; omega)
  rw [HSL.out, ← EC.out] at hs
  have HSO := Lib.hid hs
  clear hs
  go_wp2_with fail
  refine HSO.out.mono ?_
  rintro e w3 ⟨rfl, hcs, hb⟩
  have HCS := Lib.hid hcs
  have HB := Lib.hid hb
  clear hcs hb HSO HO
  go_wp2_with fail
  have hrow := RowI.made w3 N 3
  have hbl := below_alloc w3 (.cells (madeCells #[.int .i64 0] N) 3)
  clear hmk
  generalize hW : w3.alloc (.cells (madeCells #[.int .i64 0] N) 3) = W at hrow hbl ⊢
  clear hW
  have HW := Lib.hid hbl
  have HRo := Lib.hid hrow
  have hb3 := HB.out.size
  clear hrow hbl
  go_loopw [28] (fun iv wr => ∃ v : Nat, v ≤ N ∧ iv = .int .i64 v ∧ RowI wr w3.heap.size N (fun u => if u < v then canF N f u else 0) ∧ Below w3.heap.size w3 wr) (fun iv _ => N - (intOf iv).toNat)
  case atStart => exact ⟨0, Nat.zero_le _, rfl, HRo.out.congr fun u hu => by rw [if_neg (Nat.not_lt_zero _)], HW.out⟩
  case round =>
    clear HW HRo
    obtain ⟨v, hv, rfl, hrow, hbl⟩ := hrel
    by_cases hlt : v < N
    · obtain ⟨hcv, hfv⟩ := hrow v hlt
      have HRo := Lib.hid hrow
      have HB2 := Lib.hid hbl
      obtain ⟨b, off, rfl, hcx, hx1, hx2⟩ := HX.out.below (HB.out.trans (hbl.mono hb3)) v hlt
      have hix := index_z g cs.length cap cs (f v) wr rfl (by omega) (fun u hu => cell_below hbl (HCS.out u hu))
      rw [HIDX.out v hlt] at hix
      have HIX := Lib.hid hix
      have hcl := canF_lt (f := f) hlt
      obtain ⟨y, ey⟩ : ∃ y, y = canF N f v := ⟨_, rfl⟩
      rw [← ey] at HIX hcl
      have EY := Lib.hid ey
      obtain ⟨x, ex⟩ : ∃ x, x = f v := ⟨_, rfl⟩
      rw [← ex] at hcx hx1 hx2 HIX
      clear hrow hbl hix ey ex
      go_wp2_with (go_at_call 20; refine (HIX.out).mono ?_; rintro e w' ⟨rfl, rfl⟩)
      go_roundw
      case rel => exact ⟨v + 1, by omega, by go_num, (HRo.out.set hlt).congr fun u hu => by
        unfold upd
        dsimp only
        by_cases h2 : u = v
        · subst h2; rw [if_pos rfl, if_pos (by omega)]; exact EY.out
        · rw [if_neg h2]
          by_cases h3 : u < v
          · rw [if_pos h3, if_pos (by omega)]
          · rw [if_neg h3, if_neg (by omega)], HB2.out.setCell (Nat.le_refl _) _⟩
      case measure => simp [intOf]; omega
    · obtain rfl : v = N := by omega
      have HRo := Lib.hid (hrow.congr (g' := canF v f) fun u hu => by rw [if_pos hu])
      have HB2 := Lib.hid (HB.out.trans (hbl.mono hb3))
      clear hrow hbl
      go_wp2_with fail
      go_ret2
      exact ⟨_, rfl, HRo.out, hb3, HB2.out⟩

end Go.Proofs.YtlcojpopngdigaaDoor
