/-
  Texts of this claim, one after the other: what each proves is said at its head. No condition beyond those that its theorems name.
-/
import Derived.Test.YtahaimecchdfeaaProg
import Derived.Deep.DeepCutAuto
import Derived.Deep.RegionHeld3
import Derived.Maps.AppendAt
import Derived.Test.YtahaimecchdfeaaH01
import Derived.Test.YtahaimecchdfeaaH03
import Derived.Test.YtahaimecchdfeaaH06
import Derived.Test.YtahaimecchdfeaaH09

/-
  Walks of the reference: Telling.
-/
namespace Go.Proofs.Ytahaimecchdfeaa
open Go.RowKit

/-- The cells of rules. -/
def rlL (l : List (Int × Int × Int)) : List Value := l.flatMap fun x => [.int .i64 x.1, .int .i64 x.2.1, .int .i64 x.2.2]
theorem rlL_len : ∀ l : List (Int × Int × Int), (rlL l).length = l.length * 3
  | [] => rfl
  | x :: l => by
    have e : rlL (x :: l) = [.int .i64 x.1, .int .i64 x.2.1, .int .i64 x.2.2] ++ rlL l := rfl
    rw [e, List.length_append, rlL_len l, List.length_cons]
    simp
    omega
theorem rlL_app (l l' : List (Int × Int × Int)) : rlL (l ++ l') = rlL l ++ rlL l' := by unfold rlL; rw [List.flatMap_append]
/-- Rules in a row of the call's own. -/
def RuO (w : World) (base : Nat) (v : Value) (l : List (Int × Int × Int)) : Prop := w.ownsRow base 71 3 v l.length (rlL l)
theorem RuO.nil (w : World) (base : Nat) : RuO w base (.slice none 0 0) [] := World.ownsRow_nil _ _ _ _
theorem RuO.shape {w : World} {base : Nat} {v : Value} {l : List (Int × Int × Int)} (h : RuO w base v l) : ∃ A c, v = .slice A l.length c := by
  obtain ⟨A, c, e, _⟩ := own_form' h
  exact ⟨A, c, e⟩
theorem RuO.below {w w1 : World} {base : Nat} {v : Value} {l : List (Int × Int × Int)} (h : RuO w base v l) (hb : Below w.heap.size w w1) : RuO w1 base v l := own_keeps h (Keeps.of_below hb _)
theorem Try.infoRule : (Try.prog.info? 71).map (fun i => (i.zero, i.size, i.bytes)) = some (some (.agg #[.int .i64 0, .int .i64 0, .int .i64 0]), 3, 24) := by kernel_rfl
/-- The rules of telling. -/
def telR : Nat → List (Int × Int × Int)
  | 0 => []
  | k + 1 => telR k ++ [(0, ((4 * 4 ^ k : Nat) : Int), 1), (0, ((5 * 4 ^ k : Nat) : Int), 2)]
theorem telR_len : ∀ k, (telR k).length = 2 * k
  | 0 => rfl
  | k + 1 => by unfold telR; rw [List.length_append, telR_len k]; simp; omega
theorem pow4_le {k : Nat} (h : k ≤ 4) : 4 ^ k ≤ 256 := Nat.le_trans (Nat.pow_le_pow_right (by decide) h) (by decide)
/-- What a function leaves that makes an exchange. -/
def ExPost (w : World) (R : Int) (E : Int) (l : List (Int × Int × Int)) (e : Ending) (w' : World) : Prop := ∃ v, e = .returned (.tuple #[.agg #[.int .i64 R, v], .int .i64 E]) ∧ RuO w' w.heap.size v l ∧ Below w.heap.size w w'
set_option maxHeartbeats 4000000 in
theorem rTelling_any (R : Int) (w : World) :
    Calls Try.prog 31 #[.int .i64 R] w (ExPost w (if 0 ≤ R ∧ R ≤ 4 then R else 0) (if 0 ≤ R ∧ R ≤ 4 then 0 else 2) (if 0 ≤ R ∧ R ≤ 4 then telR R.toNat else [])) := by
  by_cases hR : 0 ≤ R ∧ R ≤ 4
  case neg =>
    rw [if_neg hR, if_neg hR, if_neg hR]
    by_cases h1 : R < 0
    · have e1 : decide (R < 0) = true := decide_eq_true h1
      clear hR
      go_enter Try.func31, Try.ntmps31
      have q0 := (Blk.new w #[.int .i64 0, .slice none 0 0] 43).cell (k := 0) rfl
      have q1 := (Blk.new w #[.int .i64 0, .slice none 0 0] 43).cell (k := 1) rfl
      have HB := Lib.hid (below_alloc w (.cells #[.int .i64 0, .slice none 0 0] 43))
      go_wp2_with fail
      exact bodyPost_ret (v := .tuple #[.agg #[.int .i64 0, .slice none 0 0], .int .i64 2]) (by simp [results, Try.results31, go_sem, q0, q1]) rfl ⟨_, rfl, RuO.nil _ _, HB.out⟩
    · have e1 : decide (R < 0) = false := decide_eq_false h1
      have e2 : decide (4 < R) = true := decide_eq_true (by omega)
      clear hR
      go_enter Try.func31, Try.ntmps31
      have q0 := (Blk.new w #[.int .i64 0, .slice none 0 0] 43).cell (k := 0) rfl
      have q1 := (Blk.new w #[.int .i64 0, .slice none 0 0] 43).cell (k := 1) rfl
      have HB := Lib.hid (below_alloc w (.cells #[.int .i64 0, .slice none 0 0] 43))
      go_wp2_with fail
      exact bodyPost_ret (v := .tuple #[.agg #[.int .i64 0, .slice none 0 0], .int .i64 2]) (by simp [results, Try.results31, go_sem, q0, q1]) rfl ⟨_, rfl, RuO.nil _ _, HB.out⟩
  rw [if_pos hR, if_pos hR, if_pos hR]
  obtain ⟨n, rfl⟩ : ∃ n : Nat, R = n := ⟨R.toNat, by omega⟩
  have hn : n ≤ 4 := by omega
  have e1 : decide ((n : Int) < 0) = false := decide_eq_false (by omega)
  have e2 : decide ((4 : Int) < (n : Int)) = false := decide_eq_false (by omega)
  have e3 : decide (4 < n) = false := decide_eq_false (by omega)
  rw [Int.toNat_natCast]
  clear hR
  go_enter Try.func31, Try.ntmps31
  go_wp2_with fail
  obtain ⟨W, hW⟩ : ∃ W, W = (w.alloc (.cells #[.int .i64 0, .slice none 0 0] 43)).alloc (.cells #[.int .i64 n, .slice none 0 0] 43) := ⟨_, rfl⟩
  obtain ⟨k0, k1, hB, hs⟩ := two_allocs w _ _ _ _ W hW
  rw [← hW]
  have HB := Lib.hid hB
  have HK0 := Lib.hid k0
  have HK1 := Lib.hid k1
  clear hW k0 k1 hB hs
  go_loopw [5, 6, 7] (fun pv qv kv wr => ∃ k : Nat, k ≤ n ∧ kv = .int .i64 k ∧ pv = .int .i64 (4 * 4 ^ k : Nat) ∧ qv = .int .i64 (5 * 4 ^ k : Nat) ∧ ∃ v, RuO wr w.heap.size v (telR k) ∧ Blk wr (w.heap.size + 1) 43 #[.int .i64 n, v] ∧ Blk wr w.heap.size 43 #[.int .i64 0, .slice none 0 0] ∧ Below w.heap.size w wr) (fun _ _ kv _ => n - (intOf kv).toNat)
  case atStart => exact ⟨0, Nat.zero_le _, rfl, rfl, rfl, _, RuO.nil _ _, HK1.out, HK0.out, HB.out⟩
  case round =>
    clear HB HK0 HK1
    obtain ⟨k, hk, rfl, rfl, rfl, v, ho, h1, h0, hb⟩ := hrel
    have HO := Lib.hid ho
    have H1 := Lib.hid h1
    have H0 := Lib.hid h0
    have HB := Lib.hid hb
    have c0 := h1.cell (k := 0) rfl
    have c1 := h1.cell (k := 1) rfl
    obtain ⟨Av, cv, rfl⟩ := ho.shape
    have hsz := hb.size
    have hbb : w.heap.size + 1 < wr.heap.size := h1.lt
    by_cases hlt : k < n
    · have hkk : (k : Int) < (n : Int) := by omega
      have hp4 := pow4_le (k := k) (by omega)
      obtain ⟨p, ep⟩ : ∃ p, p = 4 * 4 ^ k := ⟨_, rfl⟩
      obtain ⟨q, eq⟩ : ∃ q, q = 5 * 4 ^ k := ⟨_, rfl⟩
      have hw1 : IntKind.i64.wrap (4 * (p : Int)) = 4 * (p : Int) := by rw [IntKind.wrap_i64]; omega
      have hw2 : IntKind.i64.wrap (4 * (q : Int)) = 4 * (q : Int) := by rw [IntKind.wrap_i64]; omega
      have hl := telR_len k
      obtain ⟨l, el⟩ : ∃ l, l = telR k := ⟨_, rfl⟩
      rw [← el] at HO hl c1 H1
      have EL := Lib.hid el
      have EP := Lib.hid ep
      have EQ := Lib.hid eq
      rw [← ep, ← eq]
      have hl8 : l.length ≤ 8 := by omega
      clear ho h1 h0 hb el ep eq hp4 hl
      go_wp2_with (at_builtin; obtain ⟨i0, hi, hz0, hz1, hz2⟩ := info_parts Try.infoRule; refine wpList_append_own_at _ rfl _ _ 41 rfl w.heap.size 71 i0 _ 3 24 Try.underlying41 hi hz0 hz1 hz2 rfl (by decide) _ _ _ rfl (own_alloc' HO.out _) ⟨wr.heap.size, 0, none⟩ 2 2 [.int .i64 0, .int .i64 p, .int .i64 1, .int .i64 0, .int .i64 q, .int .i64 2] rfl rfl (World.news_of_block (cs := #[.int .i64 0, .int .i64 p, .int .i64 1, .int .i64 0, .int .i64 q, .int .i64 2]) (t := 71) (fr := (0, 0)) (heap_alloc_new wr _)) (by simp [Value.oneCell']) (by unfold maxLen; omega) (by omega) (by simp; omega) ?_; intro v' w3 hown' hgrow _ _; obtain ⟨A', c', -, rfl⟩ : ∃ A' c', True ∧ v' = .slice A' (l.length + 2) c' := (by obtain ⟨A', c', e, -⟩ := own_form' hown'; exact ⟨A', c', trivial, e⟩); have HOW := Lib.hid hown'; have HX1 := Lib.hid (Blk.kept_row (H1.out.alloc _) (own_alloc' HO.out _) (by decide) hgrow); have HX0 := Lib.hid (Blk.kept_row (H0.out.alloc _) (own_alloc' HO.out _) (by decide) hgrow); have HB3 := Lib.hid (below_append HB.out rfl HO.out hgrow); have d0 := HX1.out.cell (k := 0) rfl; have d1 := HX1.out.cell (k := 1) rfl; have f1 := HX1.out.frozen (k := 1); clear hown' hgrow hi hz0 hz1 hz2)
      go_roundw
      case rel =>
        refine ⟨k + 1, by omega, by go_num, congrArg (Value.int .i64) (by have := EP.out; rw [Nat.pow_succ]; omega), congrArg (Value.int .i64) (by have := EQ.out; rw [Nat.pow_succ]; omega), _, ?_, HX1.out.set 1 _, HX0.out.set_ne (by omega) _ _, HB3.out.setCell (p := ⟨w.heap.size + 1, 1, none⟩) (Nat.le_succ _) _⟩
        have h := own_keeps HOW.out (Keeps.of_set HX1.out (by decide) 1 (.slice A' (l.length + 2) c'))
        unfold RuO
        rw [show telR (k + 1) = l ++ [(0, (p : Int), 1), (0, (q : Int), 2)] from by rw [EL.out, EP.out, EQ.out]; rfl, rlL_app, List.length_append]
        exact h
      case measure => simp [intOf]; omega
    · obtain rfl : k = n := by omega
      have hkk : ¬ (k : Int) < (k : Int) := by omega
      obtain ⟨l, el⟩ : ∃ l, l = telR k := ⟨_, rfl⟩
      rw [← el] at HO c1 H1
      have EL := Lib.hid el
      have z1 := h0.set 0 (.int .i64 k)
      have z2 := z1.set 1 (.slice Av l.length cv)
      have y0 := h0.cell (k := 0) rfl
      have y1 := z1.cell (k := 1) rfl
      have g0 := h0.frozen (k := 0)
      have g1 := z1.frozen (k := 1)
      have q0 := z2.cell (k := 0) rfl
      have q1 := z2.cell (k := 1) rfl
      have HFIN := Lib.hid (show RuO ((wr.setCell ⟨w.heap.size, 0, none⟩ (.int .i64 k)).setCell ⟨w.heap.size, 1, none⟩ (.slice Av l.length cv)) w.heap.size (.slice Av l.length cv) l ∧ Below w.heap.size w ((wr.setCell ⟨w.heap.size, 0, none⟩ (.int .i64 k)).setCell ⟨w.heap.size, 1, none⟩ (.slice Av l.length cv)) from
        ⟨own_keeps (own_keeps HO.out (Keeps.of_set h0 (by decide) 0 _)) (Keeps.of_set z1 (by decide) 1 _), (hb.setCell (p := ⟨w.heap.size, 0, none⟩) (Nat.le_refl _) _).setCell (p := ⟨w.heap.size, 1, none⟩) (Nat.le_refl _) _⟩)
      clear ho h1 h0 hb el z1 z2
      go_wp2_with fail
      exact bodyPost_ret (v := .tuple #[.agg #[.int .i64 k, .slice Av l.length cv], .int .i64 0]) (by simp [results, Try.results31, go_sem, q0, q1]) rfl ⟨_, rfl, by rw [← EL.out]; exact HFIN.out.1, HFIN.out.2⟩
end Go.Proofs.Ytahaimecchdfeaa
