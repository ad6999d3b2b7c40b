/-
  Texts of this claim, one after the other: what each proves is said at its head. No condition beyond those that its theorems name.
-/
import Derived.Test.YtahaimecchdfeaaProg
import Derived.Deep.DeepCutAuto
import Derived.Deep.RegionHeld3
import Derived.Maps.AppendAt
import Derived.Test.YtahaimecchdfeaaH01
import Derived.Test.YtahaimecchdfeaaH03
import Derived.Test.YtahaimecchdfeaaH06
import Derived.Test.YtahaimecchdfeaaH09
import Derived.Test.YtahaimecchdfeaaH13
import Derived.Test.YtahaimecchdfeaaH16

/-
  Walks of the reference: Alternating.
-/
namespace Go.Proofs.Ytahaimecchdfeaa
open Go.RowKit

/-- What each general knows, and the rules, as the reference has them. -/
def raN : Nat → Nat × Nat
  | 0 => (5, 4)
  | k + 1 => if k % 2 = 0 then (4 * (raN k).1, 4 * (raN k).2 + 1) else (4 * (raN k).1 + 1, 4 * (raN k).2)
def raR : Nat → List (Int × Int × Int)
  | 0 => []
  | k + 1 => raR k ++ [if k % 2 = 0 then (0, (((raN k).1 : Nat) : Int), 1) else (1, (((raN k).2 : Nat) : Int), 1)]
theorem raN_ev {k : Nat} (h : k % 2 = 0) : raN (k + 1) = (4 * (raN k).1, 4 * (raN k).2 + 1) := by
  show (if k % 2 = 0 then _ else _) = _
  rw [if_pos h]
theorem raN_od {k : Nat} (h : ¬ k % 2 = 0) : raN (k + 1) = (4 * (raN k).1 + 1, 4 * (raN k).2) := by
  show (if k % 2 = 0 then _ else _) = _
  rw [if_neg h]
theorem raR_len : ∀ k, (raR k).length = k
  | 0 => rfl
  | k + 1 => by unfold raR; rw [List.length_append, raR_len k]; rfl
theorem raN_le : ∀ k, k ≤ 4 → (raN k).1 ≤ 2000 ∧ (raN k).2 ≤ 2000 := le4 (by decide) (by decide) (by decide) (by decide) (by decide)
/-- Sorted by their agents. -/
def srtR (l : List (Int × Int × Int)) (h : Nat) : List (Int × Int × Int) := (List.range h).flatMap fun (a : Nat) => l.filter fun x => x.1 == (a : Int)
theorem srtR_succ (l : List (Int × Int × Int)) (h : Nat) : srtR l (h + 1) = srtR l h ++ l.filter fun x => x.1 == (h : Int) := by unfold srtR; rw [List.range_succ, List.flatMap_append]; simp
theorem raR_alt : ∀ k, k ≤ 4 → srtR (raR k) 2 = altS k := le4 (by decide) (by decide) (by decide) (by decide) (by decide)
theorem srtR_len (l : List (Int × Int × Int)) (h : Nat) : (srtR l h).length ≤ h * l.length := by
  induction h with
  | zero => exact Nat.zero_le _
  | succ h ih =>
    rw [srtR_succ, List.length_append, Nat.succ_mul]
    exact Nat.add_le_add ih (List.length_filter_le _ _)
/-- A rule in a row, read. -/
theorem RuO.at {w : World} {base : Nat} {A : Option Addr} {n c : Nat} {l : List (Int × Int × Int)} (h : RuO w base (.slice A n c) l) {j : Nat} (hj : j < l.length) : ∃ b, A = some ⟨b, 0, none⟩ ∧ w.cell? ⟨b, j * 3, none⟩ = some (.int .i64 l[j]!.1) ∧ w.cell? ⟨b, j * 3 + 1, none⟩ = some (.int .i64 l[j]!.2.1) ∧ w.cell? ⟨b, j * 3 + 2, none⟩ = some (.int .i64 l[j]!.2.2) := by
  obtain ⟨A', c', e, hA⟩ := own_form' h
  injection e with e
  subst e
  obtain ⟨b, rfl, _, _, h0⟩ := hA (j * 3) (by omega)
  obtain ⟨b', e1, _, _, h1⟩ := hA (j * 3 + 1) (by omega)
  injection e1 with e1
  injection e1 with e1 _
  subst e1
  obtain ⟨b', e2, _, _, h2⟩ := hA (j * 3 + 2) (by omega)
  injection e2 with e2
  injection e2 with e2 _
  subst e2
  have g0 := rlL_get l j 0 (by decide) hj
  have g1 := rlL_get l j 1 (by decide) hj
  have g2 := rlL_get l j 2 (by decide) hj
  rw [Nat.add_zero] at g0
  exact ⟨b, rfl, h0.trans g0, h1.trans g1, h2.trans g2⟩
set_option maxHeartbeats 4000000 in
theorem rAlternating_any (R : Int) (w : World) :
    Calls Try.prog 29 #[.int .i64 R] w (ExPost w (if 0 ≤ R ∧ R ≤ 4 then R else 0) (if 0 ≤ R ∧ R ≤ 4 then 0 else 2) (if 0 ≤ R ∧ R ≤ 4 then altS R.toNat else [])) := by
  by_cases hR : 0 ≤ R ∧ R ≤ 4
  case neg =>
    have q0 := (Blk.new w #[.int .i64 0, .slice none 0 0] 43).cell (k := 0) rfl
    have q1 := (Blk.new w #[.int .i64 0, .slice none 0 0] 43).cell (k := 1) rfl
    have HB := Lib.hid (below_alloc w (.cells #[.int .i64 0, .slice none 0 0] 43))
    rw [if_neg hR, if_neg hR, if_neg hR]
    by_cases h1 : R < 0
    · have e1 : decide (R < 0) = true := decide_eq_true h1
      clear hR
      go_enter Try.func29, Try.ntmps29
      go_wp2_with fail
      exact bodyPost_ret (v := .tuple #[.agg #[.int .i64 0, .slice none 0 0], .int .i64 2]) (by simp [results, Try.results29, go_sem, q0, q1]) rfl ⟨_, rfl, RuO.nil _ _, HB.out⟩
    · have e1 : decide (R < 0) = false := decide_eq_false h1
      have e2 : decide (4 < R) = true := decide_eq_true (by omega)
      clear hR
      go_enter Try.func29, Try.ntmps29
      go_wp2_with fail
      exact bodyPost_ret (v := .tuple #[.agg #[.int .i64 0, .slice none 0 0], .int .i64 2]) (by simp [results, Try.results29, go_sem, q0, q1]) rfl ⟨_, rfl, RuO.nil _ _, HB.out⟩
  rw [if_pos hR, if_pos hR, if_pos hR]
  obtain ⟨n, rfl⟩ : ∃ n : Nat, R = n := ⟨R.toNat, by omega⟩
  have hn : n ≤ 4 := by omega
  have e1 : decide ((n : Int) < 0) = false := decide_eq_false (by omega)
  have e2 : decide ((4 : Int) < (n : Int)) = false := decide_eq_false (by omega)
  have e3 : decide (4 < n) = false := decide_eq_false (by omega)
  rw [Int.toNat_natCast]
  clear hR
  go_enter Try.func29, Try.ntmps29
  go_wp2_with fail
  obtain ⟨W, hW⟩ : ∃ W, W = (w.alloc (.cells #[.int .i64 0, .slice none 0 0] 43)).alloc (.cells #[.int .i64 n, .slice none 0 0] 43) := ⟨_, rfl⟩
  obtain ⟨k0, k1, hB, hs⟩ := two_allocs w _ _ _ _ W hW
  rw [← hW]
  have HB := Lib.hid hB
  have HK0 := Lib.hid k0
  have HK1 := Lib.hid k1
  clear hW k0 k1 hB hs
  go_loopw [5, 6, 7] (fun pv qv kv wr => ∃ k : Nat, k ≤ n ∧ kv = .int .i64 k ∧ pv = .int .i64 ((raN k).1 : Nat) ∧ qv = .int .i64 ((raN k).2 : Nat) ∧ ∃ v, RuO wr w.heap.size v (raR k) ∧ Blk wr (w.heap.size + 1) 43 #[.int .i64 n, v] ∧ Blk wr w.heap.size 43 #[.int .i64 0, .slice none 0 0] ∧ Below w.heap.size w wr) (fun _ _ kv _ => n - (intOf kv).toNat)
  case atStart => exact ⟨0, Nat.zero_le _, rfl, rfl, rfl, _, RuO.nil _ _, HK1.out, HK0.out, HB.out⟩
  case round =>
    clear HB HK0 HK1
    obtain ⟨k, hk, rfl, rfl, rfl, v, ho, h1, h0, hb⟩ := hrel
    have HO := Lib.hid ho
    have H1 := Lib.hid h1
    have H0 := Lib.hid h0
    have HB := Lib.hid hb
    have c0 := h1.cell (k := 0) rfl
    have c1 := h1.cell (k := 1) rfl
    obtain ⟨Av, cv, rfl⟩ := ho.shape
    have hsz := hb.size
    have hbb : w.heap.size + 1 < wr.heap.size := h1.lt
    by_cases hlt : k < n
    · have hkk : (k : Int) < (n : Int) := by omega
      obtain ⟨hn1, hn2⟩ := raN_le k (by omega)
      obtain ⟨p, ep⟩ : ∃ p, p = (raN k).1 := ⟨_, rfl⟩
      obtain ⟨q, eq⟩ : ∃ q, q = (raN k).2 := ⟨_, rfl⟩
      rw [← ep] at hn1 ⊢
      rw [← eq] at hn2 ⊢
      have hw1 : IntKind.i64.wrap (4 * (p : Int)) = 4 * (p : Int) := by rw [IntKind.wrap_i64]; omega
      have hw2 : IntKind.i64.wrap (4 * (q : Int)) = 4 * (q : Int) := by rw [IntKind.wrap_i64]; omega
      have hw3 : IntKind.i64.wrap (4 * (p : Int) + 1) = 4 * (p : Int) + 1 := by rw [IntKind.wrap_i64]; omega
      have hw4 : IntKind.i64.wrap (4 * (q : Int) + 1) = 4 * (q : Int) + 1 := by rw [IntKind.wrap_i64]; omega
      have hl := raR_len k
      obtain ⟨l, el⟩ : ∃ l, l = raR k := ⟨_, rfl⟩
      rw [← el] at HO hl c1 H1
      have EL := Lib.hid el
      have EP := Lib.hid ep
      have EQ := Lib.hid eq
      have hl8 : l.length ≤ 8 := by omega
      clear ho h1 h0 hb el ep eq hl
      by_cases hev : k % 2 = 0
      · have hm : ((k : Int) % 2) = 0 := by omega
        have HEV := Lib.hid hev
        clear hev
        go_wp2_with (at_builtin; obtain ⟨i0, hi, hz0, hz1, hz2⟩ := info_parts Try.infoRule; refine wpList_append_own_at _ rfl _ _ 41 rfl w.heap.size 71 i0 _ 3 24 Try.underlying41 hi hz0 hz1 hz2 rfl (by decide) _ _ _ rfl (own_alloc' HO.out _) ⟨wr.heap.size, 0, none⟩ 1 1 [.int .i64 0, .int .i64 p, .int .i64 1] rfl rfl (World.news_of_block (cs := #[.int .i64 0, .int .i64 p, .int .i64 1]) (t := 71) (fr := (0, 0)) (heap_alloc_new wr _)) (by simp [Value.oneCell']) (by unfold maxLen; omega) (by omega) (by simp; omega) ?_; intro v' w3 hown' hgrow _ _; obtain ⟨A', c', -, rfl⟩ : ∃ A' c', True ∧ v' = .slice A' (l.length + 1) c' := (by obtain ⟨A', c', e, -⟩ := own_form' hown'; exact ⟨A', c', trivial, e⟩); have HOW := Lib.hid hown'; have HX1 := Lib.hid (Blk.kept_row (H1.out.alloc _) (own_alloc' HO.out _) (by decide) hgrow); have HX0 := Lib.hid (Blk.kept_row (H0.out.alloc _) (own_alloc' HO.out _) (by decide) hgrow); have HB3 := Lib.hid (below_append HB.out rfl HO.out hgrow); have d0 := HX1.out.cell (k := 0) rfl; have d1 := HX1.out.cell (k := 1) rfl; have f1 := HX1.out.frozen (k := 1); clear hown' hgrow hi hz0 hz1 hz2)
        go_roundw
        case rel =>
          refine ⟨k + 1, by omega, by go_num, congrArg (Value.int .i64) ?_, congrArg (Value.int .i64) ?_, _, ?_, HX1.out.set 1 _, HX0.out.set_ne (by omega) _ _, HB3.out.setCell (p := ⟨w.heap.size + 1, 1, none⟩) (Nat.le_succ _) _⟩
          · rw [show (raN (k + 1)).1 = 4 * p from by rw [EP.out, raN_ev HEV.out]]; omega
          · rw [show (raN (k + 1)).2 = 4 * q + 1 from by rw [EQ.out, raN_ev HEV.out]]; omega
          have h := own_keeps HOW.out (Keeps.of_set HX1.out (by decide) 1 (.slice A' (l.length + 1) c'))
          unfold RuO
          rw [show raR (k + 1) = l ++ [(0, (p : Int), 1)] from by rw [EL.out, EP.out]; show raR k ++ [_] = _; rw [if_pos HEV.out], rlL_app, List.length_append]
          exact h
        case measure => simp [intOf]; omega
      · have hm : ((k : Int) % 2) = 1 := by omega
        have HEV := Lib.hid hev
        clear hev
        go_wp2_with (at_builtin; obtain ⟨i0, hi, hz0, hz1, hz2⟩ := info_parts Try.infoRule; refine wpList_append_own_at _ rfl _ _ 41 rfl w.heap.size 71 i0 _ 3 24 Try.underlying41 hi hz0 hz1 hz2 rfl (by decide) _ _ _ rfl (own_alloc' HO.out _) ⟨wr.heap.size, 0, none⟩ 1 1 [.int .i64 1, .int .i64 q, .int .i64 1] rfl rfl (World.news_of_block (cs := #[.int .i64 1, .int .i64 q, .int .i64 1]) (t := 71) (fr := (0, 0)) (heap_alloc_new wr _)) (by simp [Value.oneCell']) (by unfold maxLen; omega) (by omega) (by simp; omega) ?_; intro v' w3 hown' hgrow _ _; obtain ⟨A', c', -, rfl⟩ : ∃ A' c', True ∧ v' = .slice A' (l.length + 1) c' := (by obtain ⟨A', c', e, -⟩ := own_form' hown'; exact ⟨A', c', trivial, e⟩); have HOW := Lib.hid hown'; have HX1 := Lib.hid (Blk.kept_row (H1.out.alloc _) (own_alloc' HO.out _) (by decide) hgrow); have HX0 := Lib.hid (Blk.kept_row (H0.out.alloc _) (own_alloc' HO.out _) (by decide) hgrow); have HB3 := Lib.hid (below_append HB.out rfl HO.out hgrow); have d0 := HX1.out.cell (k := 0) rfl; have d1 := HX1.out.cell (k := 1) rfl; have f1 := HX1.out.frozen (k := 1); clear hown' hgrow hi hz0 hz1 hz2)
        go_roundw
        case rel =>
          refine ⟨k + 1, by omega, by go_num, congrArg (Value.int .i64) ?_, congrArg (Value.int .i64) ?_, _, ?_, HX1.out.set 1 _, HX0.out.set_ne (by omega) _ _, HB3.out.setCell (p := ⟨w.heap.size + 1, 1, none⟩) (Nat.le_succ _) _⟩
          · rw [show (raN (k + 1)).1 = 4 * p + 1 from by rw [EP.out, raN_od HEV.out]]; omega
          · rw [show (raN (k + 1)).2 = 4 * q from by rw [EQ.out, raN_od HEV.out]]; omega
          have h := own_keeps HOW.out (Keeps.of_set HX1.out (by decide) 1 (.slice A' (l.length + 1) c'))
          unfold RuO
          rw [show raR (k + 1) = l ++ [(1, (q : Int), 1)] from by rw [EL.out, EQ.out]; show raR k ++ [_] = _; rw [if_neg HEV.out], rlL_app, List.length_append]
          exact h
        case measure => simp [intOf]; omega
    · obtain rfl : k = n := by omega
      have hkk : ¬ (k : Int) < (k : Int) := by omega
      have hlk := raR_len k
      have hal := raR_alt k hn
      obtain ⟨l, el⟩ : ∃ l, l = raR k := ⟨_, rfl⟩
      rw [← el] at HO hlk c1 H1 hal
      obtain ⟨N, eN⟩ : ∃ N, N = l.length := ⟨_, rfl⟩
      rw [← eN] at HO c1 H1 hlk
      have EN := Lib.hid eN
      have HAL := Lib.hid hal
      have hN4 : N ≤ 4 := by omega
      clear ho h1 h0 hb el eN hal hlk
      obtain ⟨W2, eW⟩ : ∃ W2, W2 = wr := ⟨_, rfl⟩
      subst eW
      go_wp2_with fail
      clear c0 c1
      go_loopw [8, 9] (fun sv hv wr => ∃ h : Nat, h ≤ 2 ∧ hv = .int .i64 h ∧ RuO wr W2.heap.size sv (srtR l h) ∧ Below W2.heap.size W2 wr) (fun _ hv _ => 2 - (intOf hv).toNat)
      case atStart => exact ⟨0, Nat.zero_le _, rfl, RuO.nil _ _, Below.refl _ _⟩
      case round =>
        obtain ⟨h, hh, rfl, hs, hb⟩ := hrel
        have HS := Lib.hid hs
        have HBX := Lib.hid hb
        by_cases hlt2 : h < 2
        · have hh2 : (h : Int) < 2 := by omega
          clear hs hb
          go_wp2_with fail
          obtain ⟨W3, eW3⟩ : ∃ W3, W3 = wr := ⟨_, rfl⟩
          subst eW3
          go_loopw [8, 10] (fun sv jv wr => ∃ j : Nat, j ≤ N ∧ jv = .int .i64 j ∧ RuO wr W2.heap.size sv (srtR l h ++ (l.take j).filter fun x => x.1 == (h : Int)) ∧ Below W2.heap.size W2 wr) (fun _ jv _ => N - (intOf jv).toNat)
          case atStart => exact ⟨0, Nat.zero_le _, rfl, by simpa using HS.out, HBX.out⟩
          case round =>
            clear HS HBX
            obtain ⟨j, hj, rfl, hs, hb⟩ := hrel
            have HS := Lib.hid hs
            have HBX := Lib.hid hb
            have c1 := cell_below hb (H1.out.cell (k := 1) rfl)
            obtain ⟨As, cs, rfl⟩ := hs.shape
            by_cases hjN : j < N
            · have hjj : (j : Int) < (N : Int) := by omega
              obtain ⟨bv, rfl, x0, x1, x2⟩ := (HO.out.below hb).at (j := j) (by rw [← EN.out]; exact hjN)
              have hel : l[j]? = some l[j]! := by rw [getElem!_pos l j (by rw [← EN.out]; exact hjN)]; exact List.getElem?_eq_getElem _
              have htk : l.take (j + 1) = l.take j ++ [l[j]!] := by rw [List.take_add_one, hel]; rfl
              obtain ⟨x, ex⟩ : ∃ x, x = l[j]! := ⟨_, rfl⟩
              rw [← ex] at x0 x1 x2 htk
              obtain ⟨a, b, c⟩ := x
              dsimp only at x0 x1 x2
              obtain ⟨M, eM⟩ : ∃ M, M = srtR l h ++ (l.take j).filter fun x => x.1 == (h : Int) := ⟨_, rfl⟩
              have hM : M.length ≤ 100 := by
                have h1 := srtR_len l h
                have h2 : (l.take j).length ≤ 4 := by rw [List.length_take]; have := EN.out; omega
                have h3 := List.length_filter_le (fun x : Int × Int × Int => x.1 == (h : Int)) (l.take j)
                have h4 : h * l.length ≤ 2 * 4 := Nat.mul_le_mul hh (by rw [← EN.out]; exact hN4)
                rw [eM, List.length_append]
                omega
              rw [← eM] at HS ⊢
              have EM := Lib.hid eM
              have HTK := Lib.hid htk
              have hsz2 := hb.size
              by_cases hx : a = (h : Int)
              · subst hx
                have hq : ((h : Int) == (h : Int)) = true := by simp
                have HT : Hid (M ++ [((h : Int), b, c)] = srtR l h ++ (l.take (j + 1)).filter fun x => x.1 == (h : Int)) := Lib.hid (by rw [HTK.out, List.filter_append, EM.out, ← List.append_assoc]; simp)
                clear hs hb hel htk ex eM
                go_wp2_with (at_builtin; obtain ⟨i0, hi, hz0, hz1, hz2⟩ := info_parts Try.infoRule; refine wpList_append_own_at _ rfl _ _ 41 rfl W2.heap.size 71 i0 _ 3 24 Try.underlying41 hi hz0 hz1 hz2 rfl (by decide) _ _ _ rfl (own_alloc' HS.out _) ⟨wr.heap.size, 0, none⟩ 1 1 [.int .i64 (h : Nat), .int .i64 b, .int .i64 c] rfl rfl (World.news_of_block (cs := #[.int .i64 (h : Nat), .int .i64 b, .int .i64 c]) (t := 71) (fr := (0, 0)) (heap_alloc_new wr _)) (by simp [Value.oneCell']) (by unfold maxLen; omega) (by omega) (by simp; omega) ?_; intro v' w3 hown' hgrow _ _; have HOW := Lib.hid hown'; have HB3 := Lib.hid (below_append HBX.out rfl HS.out hgrow); clear hown' hgrow hi hz0 hz1 hz2)
                go_roundw
                case rel => exact ⟨j + 1, by omega, by go_num, by rw [← HT.out]; unfold RuO; rw [rlL_app, List.length_append]; exact HOW.out, HB3.out⟩
                case measure => simp [intOf]; omega
              · have hq : (a == (h : Int)) = false := by rw [beq_eq_false_iff_ne]; exact hx
                have HT : Hid (M = srtR l h ++ (l.take (j + 1)).filter fun x => x.1 == (h : Int)) := Lib.hid (by rw [HTK.out, List.filter_append, EM.out]; simp [hq])
                clear hs hb hel htk ex eM
                go_wp2_with fail
                go_roundw
                case rel => exact ⟨j + 1, by omega, by go_num, by rw [← HT.out]; exact HS.out, HBX.out⟩
                case measure => simp [intOf]; omega
            · obtain rfl : j = N := by omega
              have hjj : ¬ (j : Int) < (j : Int) := by omega
              have HT : Hid ((l.take j).filter (fun x => x.1 == (h : Int)) = l.filter fun x => x.1 == (h : Int)) := Lib.hid (by rw [EN.out, List.take_length])
              clear hs hb
              go_wp2_with fail
              go_roundw
              case rel => exact ⟨h + 1, by omega, by go_num, by rw [srtR_succ, ← HT.out]; exact HS.out, HBX.out⟩
              case measure => simp [intOf]; omega
        · obtain rfl : h = 2 := by omega
          have hh2 : ¬ ((2 : Nat) : Int) < 2 := by omega
          obtain ⟨As, cs, rfl⟩ := hs.shape
          rw [HAL.out] at HS
          have hs3 : (srtR l 2).length = (altS k).length := by rw [HAL.out]
          rw [hs3]
          obtain ⟨Q, eQ⟩ : ∃ Q, Q = (altS k).length := ⟨_, rfl⟩
          rw [← eQ] at HS ⊢
          have k1 := H1.out.below hb
          have k0 := H0.out.below hb
          have c1 := k1.cell (k := 1) rfl
          have f1 := k1.frozen (k := 1)
          have m1 := k1.set 1 (.slice As Q cs)
          have m0 := k0.set_ne (show w.heap.size ≠ w.heap.size + 1 by omega) 1 (.slice As Q cs)
          have d0 := m1.cell (k := 0) rfl
          have d1 := m1.cell (k := 1) rfl
          have z1 := m0.set 0 (.int .i64 k)
          have z2 := z1.set 1 (.slice As Q cs)
          have y0 := m0.cell (k := 0) rfl
          have y1 := z1.cell (k := 1) rfl
          have g0 := m0.frozen (k := 0)
          have g1 := z1.frozen (k := 1)
          have q0 := z2.cell (k := 0) rfl
          have q1 := z2.cell (k := 1) rfl
          have HFIN := Lib.hid (show RuO (((wr.setCell ⟨w.heap.size + 1, 1, none⟩ (.slice As Q cs)).setCell ⟨w.heap.size, 0, none⟩ (.int .i64 k)).setCell ⟨w.heap.size, 1, none⟩ (.slice As Q cs)) w.heap.size (.slice As Q cs) (altS k) ∧ Below w.heap.size w (((wr.setCell ⟨w.heap.size + 1, 1, none⟩ (.slice As Q cs)).setCell ⟨w.heap.size, 0, none⟩ (.int .i64 k)).setCell ⟨w.heap.size, 1, none⟩ (.slice As Q cs)) from
            ⟨own_mono' (own_keeps (own_keeps (own_keeps HS.out (Keeps.of_set k1 (by decide) 1 _)) (Keeps.of_set m0 (by decide) 0 _)) (Keeps.of_set z1 (by decide) 1 _)) hsz, (((HB.out.trans (hb.mono hsz)).setCell (p := ⟨w.heap.size + 1, 1, none⟩) (Nat.le_succ _) _).setCell (p := ⟨w.heap.size, 0, none⟩) (Nat.le_refl _) _).setCell (p := ⟨w.heap.size, 1, none⟩) (Nat.le_refl _) _⟩)
          clear hs hb k1 k0 m1 m0 z1 z2 eQ hs3
          go_wp2_with fail
          exact bodyPost_ret (v := .tuple #[.agg #[.int .i64 k, .slice As Q cs], .int .i64 0]) (by simp [results, Try.results29, go_sem, q0, q1]) rfl ⟨_, rfl, HFIN.out.1, HFIN.out.2⟩
end Go.Proofs.Ytahaimecchdfeaa
