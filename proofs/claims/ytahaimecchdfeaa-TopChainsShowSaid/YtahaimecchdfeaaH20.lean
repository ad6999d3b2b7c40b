/-
  Texts of this claim, one after the other: what each proves is said at its head. No condition beyond those that its theorems name.
-/
import Derived.Test.YtahaimecchdfeaaProg
import Derived.Deep.DeepCutAuto
import Derived.Deep.RegionHeld3
import Derived.Maps.AppendAt
import Derived.Test.YtahaimecchdfeaaH01
import Derived.Test.YtahaimecchdfeaaH03
import Derived.Test.YtahaimecchdfeaaH06
import Derived.Test.YtahaimecchdfeaaH09
import Derived.Test.YtahaimecchdfeaaH11
import Derived.Test.YtahaimecchdfeaaH13
import Derived.Test.YtahaimecchdfeaaH16

/-
  Walks of package attack: Alternating.
-/
namespace Go.Proofs.Ytahaimecchdfeaa
open Go.RowKit

theorem alt_after : ∀ k, k ≤ 3 → afV ((altN k).2 : Nat) 1 = ((4 * (altN k).2 + 1 : Nat) : Int) ∧ afV ((altN k).1 : Nat) 0 = ((4 * (altN k).1 : Nat) : Int)
  | 0, _ => ⟨by kernel_rfl, by kernel_rfl⟩
  | 1, _ => ⟨by kernel_rfl, by kernel_rfl⟩
  | 2, _ => ⟨by kernel_rfl, by kernel_rfl⟩
  | 3, _ => ⟨by kernel_rfl, by kernel_rfl⟩
  | _ + 4, h => absurd h (by omega)
set_option maxHeartbeats 4000000 in
theorem Alternating_any (R : Int) (w : World) :
    Calls Try.prog 28 #[.int .i64 R] w (ExPost w (if 0 ≤ R ∧ R ≤ 4 then R else 0) (if 0 ≤ R ∧ R ≤ 4 then 0 else 2) (if 0 ≤ R ∧ R ≤ 4 then altS R.toNat else [])) := by
  by_cases hR : 0 ≤ R ∧ R ≤ 4
  case neg =>
    have q0 := (Blk.new w #[.int .i64 0, .slice none 0 0] 43).cell (k := 0) rfl
    have q1 := (Blk.new w #[.int .i64 0, .slice none 0 0] 43).cell (k := 1) rfl
    have HB := Lib.hid (below_alloc w (.cells #[.int .i64 0, .slice none 0 0] 43))
    rw [if_neg hR, if_neg hR, if_neg hR]
    by_cases h1 : R < 0
    · have e1 : decide (R < 0) = true := decide_eq_true h1
      clear hR
      go_enter Try.func28, Try.ntmps28
      go_wp2_with fail
      exact bodyPost_ret (v := .tuple #[.agg #[.int .i64 0, .slice none 0 0], .int .i64 2]) (by simp [results, Try.results28, go_sem, q0, q1]) rfl ⟨_, rfl, RuO.nil _ _, HB.out⟩
    · have e1 : decide (R < 0) = false := decide_eq_false h1
      have e2 : decide (4 < R) = true := decide_eq_true (by omega)
      clear hR
      go_enter Try.func28, Try.ntmps28
      go_wp2_with fail
      exact bodyPost_ret (v := .tuple #[.agg #[.int .i64 0, .slice none 0 0], .int .i64 2]) (by simp [results, Try.results28, go_sem, q0, q1]) rfl ⟨_, rfl, RuO.nil _ _, HB.out⟩
  rw [if_pos hR, if_pos hR, if_pos hR]
  obtain ⟨n, rfl⟩ : ∃ n : Nat, R = n := ⟨R.toNat, by omega⟩
  have hn : n ≤ 4 := by omega
  have e1 : decide ((n : Int) < 0) = false := decide_eq_false (by omega)
  have e2 : decide ((4 : Int) < (n : Int)) = false := decide_eq_false (by omega)
  have e3 : decide (4 < n) = false := decide_eq_false (by omega)
  have hs1 : stV 0 1 = 5 := by kernel_rfl
  have hs2 : stV 1 0 = 4 := by kernel_rfl
  rw [Int.toNat_natCast]
  clear hR
  go_enter Try.func28, Try.ntmps28
  go_wp2_with (go_at_call 68; refine (Start_any _ _ _).mono ?_; rintro e w' ⟨rfl, rfl⟩)
  obtain ⟨W, hW⟩ : ∃ W, W = (w.alloc (.cells #[.int .i64 0, .slice none 0 0] 43)).alloc (.cells #[.int .i64 n, .slice none 0 0] 43) := ⟨_, rfl⟩
  obtain ⟨k0, k1, hB, hs⟩ := two_allocs w _ _ _ _ W hW
  rw [← hW]
  have HB := Lib.hid hB
  have HK0 := Lib.hid k0
  have HK1 := Lib.hid k1
  clear hW k0 k1 hB hs
  go_loopw [5, 6, 20] (fun pv qv kv wr => ∃ k : Nat, k ≤ n ∧ kv = .int .i64 k ∧ pv = .int .i64 ((altN k).1 : Nat) ∧ qv = .int .i64 ((altN k).2 : Nat) ∧ ∃ v, RuO wr w.heap.size v (altR k) ∧ Blk wr (w.heap.size + 1) 43 #[.int .i64 n, v] ∧ Blk wr w.heap.size 43 #[.int .i64 0, .slice none 0 0] ∧ Below w.heap.size w wr) (fun _ _ kv _ => n - (intOf kv).toNat)
  case atStart => exact ⟨0, Nat.zero_le _, rfl, rfl, rfl, _, RuO.nil _ _, HK1.out, HK0.out, HB.out⟩
  case round =>
    clear HB HK0 HK1
    obtain ⟨k, hk, rfl, rfl, rfl, v, ho, h1, h0, hb⟩ := hrel
    have HO := Lib.hid ho
    have H1 := Lib.hid h1
    have H0 := Lib.hid h0
    have HB := Lib.hid hb
    have c0 := h1.cell (k := 0) rfl
    have c1 := h1.cell (k := 1) rfl
    obtain ⟨Av, cv, rfl⟩ := ho.shape
    have hsz := hb.size
    have hbb : w.heap.size + 1 < wr.heap.size := h1.lt
    by_cases hlt : k < n
    · have hkk : (k : Int) < (n : Int) := by omega
      obtain ⟨ha1, ha2⟩ := alt_after k (by omega)
      obtain ⟨hn1, hn2⟩ := altN_le k (by omega)
      obtain ⟨p, ep⟩ : ∃ p, p = (altN k).1 := ⟨_, rfl⟩
      obtain ⟨q, eq⟩ : ∃ q, q = (altN k).2 := ⟨_, rfl⟩
      rw [← ep] at ha2 hn1 ⊢
      rw [← eq] at ha1 hn2 ⊢
      have hl := altR_len k
      obtain ⟨l, el⟩ : ∃ l, l = altR k := ⟨_, rfl⟩
      rw [← el] at HO hl c1 H1
      have EL := Lib.hid el
      have EP := Lib.hid ep
      have EQ := Lib.hid eq
      have hl8 : l.length ≤ 8 := by omega
      clear ho h1 h0 hb el ep eq hl
      go_wp2_with (first | (at_builtin; obtain ⟨i0, hi, hz0, hz1, hz2⟩ := info_parts Try.infoRule; refine wpList_append_own_at _ rfl _ _ 41 rfl w.heap.size 71 i0 _ 3 24 Try.underlying41 hi hz0 hz1 hz2 rfl (by decide) _ _ _ rfl (own_alloc' HO.out _) ⟨wr.heap.size, 0, none⟩ 1 1 [.int .i64 ((k : Int) % 2), .int .i64 p, .int .i64 1] rfl rfl (World.news_of_block (cs := #[.int .i64 ((k : Int) % 2), .int .i64 p, .int .i64 1]) (t := 71) (fr := (0, 0)) (heap_alloc_new wr _)) (by simp [Value.oneCell']) (by unfold maxLen; omega) (by omega) (by simp; omega) ?_; intro v' w3 hown' hgrow _ _; obtain ⟨A', c', -, rfl⟩ : ∃ A' c', True ∧ v' = .slice A' (l.length + 1) c' := (by obtain ⟨A', c', e, -⟩ := own_form' hown'; exact ⟨A', c', trivial, e⟩); have HOW := Lib.hid hown'; have HX1 := Lib.hid (Blk.kept_row (H1.out.alloc _) (own_alloc' HO.out _) (by decide) hgrow); have HX0 := Lib.hid (Blk.kept_row (H0.out.alloc _) (own_alloc' HO.out _) (by decide) hgrow); have HB3 := Lib.hid (below_append HB.out rfl HO.out hgrow); have d0 := HX1.out.cell (k := 0) rfl; have d1 := HX1.out.cell (k := 1) rfl; have f1 := HX1.out.frozen (k := 1); clear hown' hgrow hi hz0 hz1 hz2) | (go_at_call 69; refine (After_any _ _ _ (by omega)).mono ?_; rintro e w' ⟨rfl, rfl⟩))
      go_roundw
      case rel =>
        refine ⟨k + 1, by omega, by go_num, congrArg (Value.int .i64) ?_, congrArg (Value.int .i64) ?_, _, ?_, HX1.out.set 1 _, HX0.out.set_ne (by omega) _ _, HB3.out.setCell (p := ⟨w.heap.size + 1, 1, none⟩) (Nat.le_succ _) _⟩
        · rw [show (altN (k + 1)).1 = 4 * q + 1 from by rw [EQ.out]; rfl]
          first | exact ha1 | rfl | omega
        · rw [show (altN (k + 1)).2 = 4 * p from by rw [EP.out]; rfl]
          first | exact ha2 | rfl | omega
        have h := own_keeps HOW.out (Keeps.of_set HX1.out (by decide) 1 (.slice A' (l.length + 1) c'))
        unfold RuO
        rw [show altR (k + 1) = l ++ [((k : Int) % 2, (p : Int), 1)] from by rw [EL.out, EP.out]; rfl, rlL_app, List.length_append]
        exact h
      case measure => simp [intOf]; omega
    · obtain rfl : k = n := by omega
      have hkk : ¬ (k : Int) < (k : Int) := by omega
      have hl8 : (altR k).length ≤ 16 := by rw [altR_len]; omega
      have hso := sortO HO.out hl8 (alt_sorted k hn) (altS_len k hn)
      obtain ⟨N, eN⟩ : ∃ N, N = (altR k).length := ⟨_, rfl⟩
      rw [← eN] at c1 hso H1 HO
      have HSO := Lib.hid hso
      have EN := Lib.hid eN
      clear ho h1 h0 hb hso eN hl8
      go_wp2_with (go_at_call 70; refine HSO.out.mono ?_; rintro e w9 ⟨⟨u, rfl⟩, hr, hg⟩; have HR := Lib.hid hr; have hX1 := Blk.kept_row H1.out HO.out (by decide) hg; have hX0 := Blk.kept_row H0.out HO.out (by decide) hg; have HB9 := Lib.hid (HB.out.grown hg hsz (fun b e => (World.ownsRow.lt HO.out b e).1)); have x0 := hX1.cell (k := 0) rfl; have x1 := hX1.cell (k := 1) rfl; have z1 := hX0.set 0 (.int .i64 k); have z2 := z1.set 1 (.slice Av N cv); have y0 := hX0.cell (k := 0) rfl; have y1 := z1.cell (k := 1) rfl; have g0 := hX0.frozen (k := 0); have g1 := z1.frozen (k := 1); have q0 := z2.cell (k := 0) rfl; have q1 := z2.cell (k := 1) rfl; have HFIN := Lib.hid (show RuO ((w9.setCell ⟨w.heap.size, 0, none⟩ (.int .i64 k)).setCell ⟨w.heap.size, 1, none⟩ (.slice Av N cv)) w.heap.size (.slice Av N cv) (altS k) ∧ Below w.heap.size w ((w9.setCell ⟨w.heap.size, 0, none⟩ (.int .i64 k)).setCell ⟨w.heap.size, 1, none⟩ (.slice Av N cv)) from ⟨own_keeps (own_keeps HR.out (Keeps.of_set hX0 (by decide) 0 _)) (Keeps.of_set z1 (by decide) 1 _), (HB9.out.setCell (p := ⟨w.heap.size, 0, none⟩) (Nat.le_refl _) _).setCell (p := ⟨w.heap.size, 1, none⟩) (Nat.le_refl _) _⟩); clear hr hg hX1 hX0 z1 z2)
      exact bodyPost_ret (v := .tuple #[.agg #[.int .i64 k, .slice Av N cv], .int .i64 0]) (by simp [results, Try.results28, go_sem, q0, q1]) rfl ⟨_, rfl, HFIN.out.1, HFIN.out.2⟩
end Go.Proofs.Ytahaimecchdfeaa
