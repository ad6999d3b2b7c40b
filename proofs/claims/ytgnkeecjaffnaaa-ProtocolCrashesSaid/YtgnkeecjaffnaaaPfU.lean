/-
  Walks of layer 54: state of the reference.
-/
import Derived.Test.YtgnkeecjaffnaaaProg
import Derived.Test.YtgnkeecjaffnaaaBase
import Derived.Test.YtgnkeecjaffnaaaRow
import Derived.Test.YtgnkeecjaffnaaaRowsOf
import Derived.Test.YtgnkeecjaffnaaaPc
import Derived.Test.YtgnkeecjaffnaaaPd
import Derived.Test.YtgnkeecjaffnaaaPfP
import Derived.Test.YtgnkeecjaffnaaaPfA
import Derived.Test.YtgnkeecjaffnaaaPfQ
import Derived.Test.YtgnkeecjaffnaaaPfS
import Derived.Test.YtgnkeecjaffnaaaPfT
import Derived.Maps.AppendAt
import Derived.BigQuiet
namespace Go.Proofs.Ytgnkeecjaffnaaa
open Go.RowKit

theorem dgS_kv (x kb k : Nat) : dgS x kb (k + 1) = dgS x kb k + kvN x kb k * 3 ^ k := by
  show dgS x kb k + (if kb.testBit k then 3 ^ k * (1 + (if x.testBit k then 1 else 0)) else 0) = _
  unfold kvN
  cases kb.testBit k
  · simp
  · simp only [if_true]; rw [Nat.mul_comm]
def stG (rd : Nat → Int) (n x t : Nat) (kb : Nat → Nat) (i : Nat) : Nat := if goB rd i t then 0 else 1 + t * 3 ^ n + dgS x (kb i) n
set_option maxHeartbeats 4000000 in
set_option maxRecDepth 100000 in
theorem state_any (t x n ck c : Nat) (Ak A : Option Addr) (R : Nat → Option Addr) (cc : Nat → Nat) (kb : Nat → Nat) (rd tv : Nat → Int) (w : World) (hK : MatI w Ak n R (fun _ => n) cc (fun i k => (kvN x (kb i) k : Int))) (hx : CrS w A n rd tv) (hn : n ≤ 4) (ht : t ≤ 3) (hX : x < 2 ^ n) :
    Calls Try.prog 72 #[.int .i64 t, .int .i64 x, .slice Ak n ck, .slice A n c] w fun e w' => ∃ v, e = .returned (.tuple #[v, .int .u64 (fcN rd n x t n : Nat)]) ∧ w'.ownsRow w.heap.size 3 1 v n (i64L (fun i => (stG rd n x t kb i : Int)) n) ∧ Below w.heap.size w w' := by
  have HK := Lib.hid hK
  have HX := Lib.hid hx
  have h16 : (2 : Nat) ^ n ≤ 16 := Nat.pow_le_pow_right (n := 2) (j := 4) (by decide) hn
  have hX16 : x < 16 := Nat.lt_of_lt_of_le hX h16
  have HPW := Lib.hid (fun k w (hk : k ≤ 4) => power_any k w hk)
  obtain ⟨S, hS⟩ : ∃ S, S = stG rd n x t kb := ⟨_, rfl⟩
  obtain ⟨G, hG⟩ : ∃ G, G = fcN rd n x t := ⟨_, rfl⟩
  rw [← hS, ← hG]
  have HSd := Lib.hid (fun a => (show S a = if goB rd a t then 0 else 1 + t * 3 ^ n + dgS x (kb a) n by rw [hS]; rfl))
  have HGd := Lib.hid (fun a => (show G (a + 1) = if goB rd a t then G a else G a ||| 2 ^ (n + a) by rw [hG]; rfl))
  have HG0 := Lib.hid (show G 0 = x by rw [hG]; rfl)
  have HGl := Lib.hid (fun a (ha : a ≤ n) => (show G a < 2 ^ (n + n) by rw [hG]; exact fcN_lt (Nat.lt_of_lt_of_le hX (Nat.pow_le_pow_right (by decide) (by omega))) a ha))
  have hP := three_le hn
  clear hK hx hS hG hX
  go_enter Try.func72, Try.ntmps72
  go_wp2_with fail
  go_loopw [11, 12, 13] (fun lv fv av wx => ∃ a : Nat, a ≤ n ∧ av = .int .i64 a ∧ fv = .int .u64 (G a : Nat) ∧ wx.ownsRow w.heap.size 3 1 lv a (i64L (fun j => (S j : Int)) a) ∧ Below w.heap.size w wx) (fun _ _ av _ => n - (intOf av).toNat)
  case atStart => exact ⟨0, Nat.zero_le _, rfl, by rw [HG0.out], World.ownsRow_nil _ _ _ _, Below.refl _ _⟩
  case round =>
    obtain ⟨a, ha, rfl, rfl, hown, hbx⟩ := hrel
    have HBX := Lib.hid hbx
    have HOW := Lib.hid hown
    by_cases hla : a < n
    · obtain ⟨bc, oc, rfl, c1, c2, -, -⟩ := HX.out.below hbx a hla
      have HA := Lib.hid (fun z w => alive_any (rd a) z t w)
      rw [alive_go] at HA
      have hsa := HSd.out a
      have hga := HGd.out a
      have hgl := HGl.out a ha
      obtain ⟨y, ey⟩ : ∃ y, y = rd a := ⟨_, rfl⟩
      obtain ⟨z, ez⟩ : ∃ z, z = tv a := ⟨_, rfl⟩
      rw [← ey] at c1 HA
      rw [← ez] at c2
      clear hbx hown ey ez
      cases hgo : goB rd a t
      · rw [hgo] at HA hsa hga
        have hsh := shl_one (u := n + a) rfl (by omega)
        have h256 : (2 : Nat) ^ (n + n) ≤ 256 := Nat.pow_le_pow_right (n := 2) (j := 8) (by decide) (by omega)
        have hp2 : (2 : Nat) ^ (n + a) < 2 ^ (n + n) := Nat.pow_lt_pow_right (by decide) (by omega)
        have hor := u64_or_nat (G a) (2 ^ (n + a)) (by omega) (by omega)
        have HOR := Lib.hid (show bits .or .u64 (G a : Int) ((2 : Int) ^ (n + a)) = ((G (a + 1) : Nat) : Int) by rw [show G (a + 1) = G a ||| 2 ^ (n + a) from hga, ← hor, Int.natCast_pow]; rfl)
        have HSHI := Lib.hid (show IntKind.u64.wrap ((2 : Int) ^ (n + a)) = (2 : Int) ^ (n + a) by rw [hsh, Int.natCast_pow]; rfl)
        have hS1 := Lib.hid (show S a = 1 + t * 3 ^ n + dgS x (kb a) n from hsa)
        obtain ⟨g, eg⟩ : ∃ z, z = G a := ⟨_, rfl⟩
        rw [← eg] at HOR hgl ⊢
        obtain ⟨P, eP⟩ : ∃ P, P = 3 ^ n := ⟨_, rfl⟩
        rw [← eP] at hP hS1
        have HPn : Hid (∀ w, Calls Try.prog 81 #[.int .i64 n] w fun e w' => e = .returned (.int .i64 (P : Nat)) ∧ w = w') := Lib.hid fun w => by rw [eP]; exact HPW.out n w hn
        obtain ⟨M, eM⟩ : ∃ M, M = t * P := ⟨_, rfl⟩
        have hM : M ≤ 243 := by rw [eM]; exact Nat.mul_le_mul ht hP
        have htp : (t : Int) * (P : Int) = (M : Int) := by rw [eM, Int.natCast_mul]
        rw [← eM] at hS1
        obtain ⟨B, eB⟩ : ∃ B, B = kb a := ⟨_, rfl⟩
        have hrw := HK.out
        rw [← eB] at hS1
        clear hsa hga hgo hor eg eP eM hsh hp2
        go_upto_region 11 with (first
          | (go_at_call 74; refine (HA.out _ _).mono ?_; rintro e w1 ⟨rfl, hb⟩; have HOW := Lib.hid (own_below HOW.out hb (Nat.le_refl _)); have HBX := Lib.hid (HBX.out.trans (hb.mono HBX.out.size)); have hsz := HBX.out.size; clear hb)
          | (go_at_call 81; refine (HPn.out _).mono ?_; rintro e w' ⟨rfl, rfl⟩))
        obtain ⟨bk, ok, rfl, ck0, -, hrow⟩ := HK.out.below HBX.out a hla
        dsimp only at hrow
        rw [← eB] at hrow
        have HROW := Lib.hid hrow
        clear hrow eB hrw
        go_loopw [14, 15] (fun sv kv wx => ∃ k : Nat, k ≤ n ∧ kv = .int .i64 k ∧ sv = .int .i64 ((1 + M + dgS x B k : Nat) : Int) ∧ Below w1.heap.size w1 wx) (fun _ kv _ => n - (intOf kv).toNat)
        case atStart => exact ⟨0, Nat.zero_le _, rfl, by simp [dgS], Below.refl _ _⟩
        case round =>
          obtain ⟨k, hk, rfl, rfl, hbk⟩ := hrel
          have hd1 := dgS_lt x B k
          have hD := three_le (Nat.le_trans hk hn)
          by_cases hlk : k < n
          · have hds := dgS_kv x B k
            have hv := kvN_le x B k
            have ck0 := cell_below hbk ck0
            obtain ⟨br, or0, eRR, cr, -⟩ := HROW.out.below hbk k hlk
            rw [eRR] at ck0
            dsimp only at cr
            have HPk : Hid (∀ w, Calls Try.prog 81 #[.int .i64 k] w fun e w' => e = .returned (.int .i64 ((3 ^ k : Nat) : Int)) ∧ w = w') := Lib.hid fun w => HPW.out k w (by omega)
            obtain ⟨D, eD⟩ : ∃ D, D = 3 ^ k := ⟨_, rfl⟩
            obtain ⟨v, ev⟩ : ∃ v, v = kvN x B k := ⟨_, rfl⟩
            obtain ⟨s1, es1⟩ : ∃ D, D = dgS x B k := ⟨_, rfl⟩
            obtain ⟨s2, es2⟩ : ∃ D, D = dgS x B (k + 1) := ⟨_, rfl⟩
            rw [← ev, ← eD, ← es1, ← es2] at hds
            rw [← eD] at hd1 hD HPk
            rw [← es1] at hd1 ⊢
            rw [← ev] at hv cr
            have ES := Lib.hid es2
            obtain ⟨vd, evd⟩ : ∃ vd, vd = v * D := ⟨_, rfl⟩
            have hvd : vd ≤ 162 := by rw [evd]; exact Nat.mul_le_mul hv hD
            have hmul : (v : Int) * (D : Int) = (vd : Int) := by rw [evd, Int.natCast_mul]
            rw [← evd] at hds
            have hw1 : IntKind.i64.wrap ((v : Int) * (D : Int)) = (vd : Int) := by rw [hmul, IntKind.wrap_i64]; omega
            have hw2 : IntKind.i64.wrap (((1 + M + s1 : Nat) : Int) + (vd : Int)) = ((1 + M + s2 : Nat) : Int) := by rw [IntKind.wrap_i64]; omega
            have hw3 : IntKind.i64.wrap (1 + (M : Int) + (s1 : Int) + (vd : Int)) = ((1 + M + s2 : Nat) : Int) := by rw [IntKind.wrap_i64]; omega
            have hia : (a : Int) < (n : Int) := by omega
            have hik : (k : Int) < (n : Int) := by omega
            have HBK := Lib.hid hbk
            clear eD ev es1 es2 evd hbk eRR hmul
            go_upto_region 13 with (fail)
            go_quiet ((go_at_call 81; first | exact quiet_l0 (HPk.out _) | exact quiet_l1 (HPk.out _)))
            generalize hV : World.drewN _ _ = X
            have HBY : Hid (Below w1.heap.size w1 X) := by rw [← hV]; exact Lib.hid (below_drewN HBK.out _)
            clear hV hw1 hw2 hw3 ck0 cr
            go_wp2_with fail
            go_roundw
            case rel => exact ⟨k + 1, by omega, by go_num, by rw [← ES.out]; congr 1; omega, HBY.out⟩
            case measure => simp [intOf]; omega
          · obtain rfl : k = n := by omega
            have HV := Lib.hid (show ((1 + M + dgS x B k : Nat) : Int) = (S a : Int) by rw [hS1.out])
            obtain ⟨Y, eY⟩ : ∃ Y, Y = 1 + M + dgS x B k := ⟨_, rfl⟩
            rw [← eY] at HV ⊢
            have HOW2 := Lib.hid (own_below HOW.out hbk (Nat.le_refl _))
            have HBX2 := Lib.hid (HBX.out.trans (hbk.mono HBX.out.size))
            have hsz2 := HBX2.out.size
            clear eY hd1 hD hbk
            go_wp2_with (at_builtin; obtain ⟨i0, hi, hz0, hz1, hz2⟩ := info_parts Try.infoInt; refine wpList_append_own_at _ rfl _ _ 38 rfl w.heap.size 3 i0 (.int .i64 0) 1 8 Try.underlying38 hi hz0 hz1 hz2 rfl (by decide) _ _ _ rfl (HOW2.out.alloc _) ⟨wr.heap.size, 0, none⟩ 1 1 [.int .i64 Y] rfl rfl (cell_one_new _ _ _) (one_oneCell rfl) (by unfold maxLen; omega) (by omega) (by simp; omega) ?_; intro v' w3 hown' hgrow _ _; have HOW3 := Lib.hid hown'; have HB3 := Lib.hid (below_append HBX2.out rfl HOW2.out hgrow); clear hown' hgrow hi hz0 hz1 hz2)
            go_roundw
            case rel => exact ⟨a + 1, by omega, by go_num, by first | rw [HOR.out] | rw [HSHI.out, HOR.out], by rw [i64L_succ, ← HV.out]; exact HOW3.out, HB3.out⟩
            case measure => simp [intOf]; omega
      · rw [hgo] at HA hsa hga
        have HS0 := Lib.hid (show S a = 0 from hsa)
        have HGa := Lib.hid (show G (a + 1) = G a from hga)
        clear hsa hga hgo
        go_wp2_with (first
          | (go_at_call 74; refine (HA.out _ _).mono ?_; rintro e w1 ⟨rfl, hb⟩; have HOW := Lib.hid (own_below HOW.out hb (Nat.le_refl _)); have HBX := Lib.hid (HBX.out.trans (hb.mono HBX.out.size)); have hsz := HBX.out.size; clear hb)
          | (at_builtin; obtain ⟨i0, hi, hz0, hz1, hz2⟩ := info_parts Try.infoInt; refine wpList_append_own_at _ rfl _ _ 38 rfl w.heap.size 3 i0 (.int .i64 0) 1 8 Try.underlying38 hi hz0 hz1 hz2 rfl (by decide) _ _ _ rfl (HOW.out.alloc _) ⟨w1.heap.size, 0, none⟩ 1 1 [.int .i64 0] rfl rfl (cell_one_new _ _ _) (one_oneCell rfl) (by unfold maxLen; omega) (by omega) (by simp; omega) ?_; intro v' w3 hown' hgrow _ _; have HOW3 := Lib.hid hown'; have HB3 := Lib.hid (below_append HBX.out rfl HOW.out hgrow); clear hown' hgrow hi hz0 hz1 hz2))
        go_roundw
        case rel => exact ⟨a + 1, by omega, by go_num, by rw [HGa.out], by rw [i64L_succ, HS0.out]; exact HOW3.out, HB3.out⟩
        case measure => simp [intOf]; omega
    · obtain rfl : a = n := by omega
      clear hbx hown
      go_wp2_with fail
      go_ret2
      exact ⟨_, rfl, HOW.out, HBX.out⟩
end Go.Proofs.Ytgnkeecjaffnaaa
