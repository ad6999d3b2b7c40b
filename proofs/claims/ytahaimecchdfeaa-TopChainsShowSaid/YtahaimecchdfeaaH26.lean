/-
  Texts of this claim, one after the other: what each proves is said at its head. No condition beyond those that its theorems name.
-/
import Derived.Test.YtahaimecchdfeaaProg
import Derived.Deep.DeepCutAuto
import Derived.Deep.RegionHeld3
import Derived.Deep.RegionLaw
import Derived.Maps.AppendAt
import Derived.Test.YtahaimecchdfeaaH01
import Derived.Test.YtahaimecchdfeaaH02
import Derived.Test.YtahaimecchdfeaaH03
import Derived.Test.YtahaimecchdfeaaH06
import Derived.Test.YtahaimecchdfeaaH09
import Derived.Test.YtahaimecchdfeaaH11
import Derived.Test.YtahaimecchdfeaaH13
import Derived.Test.YtahaimecchdfeaaH22

/-
  Walks of package attack: Telling.
-/
namespace Go.Proofs.Ytahaimecchdfeaa
open Go.RowKit

theorem tel_after : ∀ k, k ≤ 3 → afV ((4 * 4 ^ k : Nat) : Int) 0 = ((4 * 4 ^ (k + 1) : Nat) : Int) ∧ afV ((5 * 4 ^ k : Nat) : Int) 0 = ((5 * 4 ^ (k + 1) : Nat) : Int)
  | 0, _ => ⟨by kernel_rfl, by kernel_rfl⟩
  | 1, _ => ⟨by kernel_rfl, by kernel_rfl⟩
  | 2, _ => ⟨by kernel_rfl, by kernel_rfl⟩
  | 3, _ => ⟨by kernel_rfl, by kernel_rfl⟩
  | _ + 4, h => absurd h (by omega)
/-- What lies in memory while the exchange of telling is made. -/
structure TlI (w X : World) (n : Nat) (v : Value) (l : List (Int × Int × Int)) (p q : Nat) : Prop where
  own : RuO X w.heap.size v l
  ex : Blk X (w.heap.size + 1) 43 #[.int .i64 n, v]
  arr : Blk X (w.heap.size + 1 + 1) 38 #[.int .i64 p, .int .i64 q]
  res : Blk X w.heap.size 43 #[.int .i64 0, .slice none 0 0]
  below : Below w.heap.size w X
theorem TlI.drew {w X : World} {n p q : Nat} {v : Value} {l : List (Int × Int × Int)} (h : TlI w X n v l p q) : TlI w X.drew n v l p q := ⟨h.own, h.ex, h.arr, h.res, below_drew h.below⟩
theorem TlI.more {w X X3 : World} {n p q : Nat} {v v' : Value} {l : List (Int × Int × Int)} {x : Int × Int × Int} (h : TlI w X n v l p q) {o : Obj} (ho : X3.ownsRow w.heap.size 71 3 v' (l.length + 1) (rlL l ++ [.int .i64 x.1, .int .i64 x.2.1, .int .i64 x.2.2])) (hg : (X.alloc o).grownBy X3 v.ownBlock) :
    Blk X3 (w.heap.size + 1) 43 #[.int .i64 n, v] ∧ TlI w (X3.setCell ⟨w.heap.size + 1, 1, none⟩ v') n v' (l ++ [x]) p q := by
  have k1 := Blk.kept_row (h.ex.alloc o) (own_alloc' h.own _) (by decide) hg
  have k2 := Blk.kept_row (h.arr.alloc o) (own_alloc' h.own _) (by decide) hg
  have k3 := Blk.kept_row (h.res.alloc o) (own_alloc' h.own _) (by decide) hg
  refine ⟨k1, ?_, k1.set 1 v', k2.set_ne (by omega) _ _, k3.set_ne (by omega) _ _, (below_append h.below rfl h.own hg).setCell (p := ⟨w.heap.size + 1, 1, none⟩) (Nat.le_succ _) _⟩
  have h2 := own_keeps ho (Keeps.of_set k1 (by decide) 1 v')
  unfold RuO
  rw [rlL_app, List.length_append]
  exact h2
theorem TlI.set {w X : World} {n p q : Nat} {v : Value} {l : List (Int × Int × Int)} (h : TlI w X n v l p q) (i : Nat) (x p' q' : Nat) (e : (#[Value.int .i64 (p : Nat), .int .i64 (q : Nat)] : Array Value).setIfInBounds i (.int .i64 (x : Nat)) = #[.int .i64 (p' : Nat), .int .i64 (q' : Nat)]) : TlI w (X.setCell ⟨w.heap.size + 1 + 1, i, none⟩ (.int .i64 (x : Nat))) n v l p' q' :=
  ⟨own_keeps h.own (Keeps.of_set h.arr (by decide) _ _), h.ex.set_ne (by omega) _ _, by rw [← e]; exact h.arr.set i _, h.res.set_ne (by omega) _ _, h.below.setCell (p := ⟨w.heap.size + 1 + 1, i, none⟩) (by show w.heap.size ≤ w.heap.size + 1 + 1; omega) _⟩
set_option maxHeartbeats 4000000 in
theorem Telling_any (R : Int) (w : World) :
    Calls Try.prog 30 #[.int .i64 R] w (ExPost w (if 0 ≤ R ∧ R ≤ 4 then R else 0) (if 0 ≤ R ∧ R ≤ 4 then 0 else 2) (if 0 ≤ R ∧ R ≤ 4 then telR R.toNat else [])) := by
  by_cases hR : 0 ≤ R ∧ R ≤ 4
  case neg =>
    have q0 := (Blk.new w #[.int .i64 0, .slice none 0 0] 43).cell (k := 0) rfl
    have q1 := (Blk.new w #[.int .i64 0, .slice none 0 0] 43).cell (k := 1) rfl
    have HB := Lib.hid (below_alloc w (.cells #[.int .i64 0, .slice none 0 0] 43))
    rw [if_neg hR, if_neg hR, if_neg hR]
    by_cases h1 : R < 0
    · have e1 : decide (R < 0) = true := decide_eq_true h1
      clear hR
      go_enter Try.func30, Try.ntmps30
      go_wp2_with fail
      exact bodyPost_ret (v := .tuple #[.agg #[.int .i64 0, .slice none 0 0], .int .i64 2]) (by simp [results, Try.results30, go_sem, q0, q1]) rfl ⟨_, rfl, RuO.nil _ _, HB.out⟩
    · have e1 : decide (R < 0) = false := decide_eq_false h1
      have e2 : decide (4 < R) = true := decide_eq_true (by omega)
      clear hR
      go_enter Try.func30, Try.ntmps30
      go_wp2_with fail
      exact bodyPost_ret (v := .tuple #[.agg #[.int .i64 0, .slice none 0 0], .int .i64 2]) (by simp [results, Try.results30, go_sem, q0, q1]) rfl ⟨_, rfl, RuO.nil _ _, HB.out⟩
  rw [if_pos hR, if_pos hR, if_pos hR]
  obtain ⟨n, rfl⟩ : ∃ n : Nat, R = n := ⟨R.toNat, by omega⟩
  have hn : n ≤ 4 := by omega
  have e1 : decide ((n : Int) < 0) = false := decide_eq_false (by omega)
  have e2 : decide ((4 : Int) < (n : Int)) = false := decide_eq_false (by omega)
  have e3 : decide (4 < n) = false := decide_eq_false (by omega)
  have hs1 : stV 0 0 = 4 := by kernel_rfl
  have hs2 : stV 0 1 = 5 := by kernel_rfl
  rw [Int.toNat_natCast]
  clear hR
  go_enter Try.func30, Try.ntmps30
  go_wp2_with (go_at_call 68; refine (Start_any _ _ _).mono ?_; rintro e w' ⟨rfl, rfl⟩)
  have HI0 := Lib.hid (show TlI w (((w.alloc (.cells #[.int .i64 0, .slice none 0 0] 43)).alloc (.cells #[.int .i64 n, .slice none 0 0] 43)).alloc (.cells #[.int .i64 4, .int .i64 5] 38)) n (.slice none 0 0) (telR 0) (4 * 4 ^ 0) (5 * 4 ^ 0) from
    ⟨RuO.nil _ _, (Blk.new' (w.alloc _) _ _ _ (by simp)).alloc _, Blk.new' _ _ _ _ (by simp), ((Blk.new w _ _).alloc _).alloc _, ((below_alloc w _).alloc (by simp) _).alloc (by simp; omega) _⟩)
  obtain ⟨W, hW⟩ : ∃ W, W = ((w.alloc (.cells #[.int .i64 0, .slice none 0 0] 43)).alloc (.cells #[.int .i64 n, .slice none 0 0] 43)).alloc (.cells #[.int .i64 4, .int .i64 5] 38) := ⟨_, rfl⟩
  rw [← hW] at HI0 ⊢
  clear hW
  go_loopw [6, 20, 22] (fun _ kv _ wr => ∃ k : Nat, k ≤ n ∧ kv = .int .i64 k ∧ ∃ v, TlI w wr n v (telR k) (4 * 4 ^ k) (5 * 4 ^ k)) (fun _ kv _ _ => n - (intOf kv).toNat)
  case atStart => exact ⟨0, Nat.zero_le _, rfl, _, HI0.out⟩
  case round =>
    clear HI0
    obtain ⟨k, hk, rfl, v, hi⟩ := hrel
    have HI := Lib.hid hi
    by_cases hlt : k < n
    · have hkk : (k : Int) < (n : Int) := by omega
      obtain ⟨ha1, ha2⟩ := tel_after k (by omega)
      have hp4 := pow4_le (k := k) (by omega)
      obtain ⟨p, ep⟩ : ∃ p, p = 4 * 4 ^ k := ⟨_, rfl⟩
      obtain ⟨q, eq⟩ : ∃ q, q = 5 * 4 ^ k := ⟨_, rfl⟩
      obtain ⟨p', ep'⟩ : ∃ p, p = 4 * 4 ^ (k + 1) := ⟨_, rfl⟩
      obtain ⟨q', eq'⟩ : ∃ q, q = 5 * 4 ^ (k + 1) := ⟨_, rfl⟩
      rw [← ep, ← ep'] at ha1
      rw [← eq, ← eq'] at ha2
      rw [← ep, ← eq] at HI
      have hl := telR_len k
      obtain ⟨l, el⟩ : ∃ l, l = telR k := ⟨_, rfl⟩
      rw [← el] at HI hl
      have EL := Lib.hid el
      have EP := Lib.hid ep
      have EQ := Lib.hid eq
      have EP' := Lib.hid ep'
      have EQ' := Lib.hid eq'
      have hl8 : l.length ≤ 8 := by omega
      have hp : p ≤ 2000 := by omega
      have hq : q ≤ 2000 := by omega
      have hm0 : IntKind.i64.wrap 1 = 1 := by rw [IntKind.wrap_i64]; decide
      have hm1 : IntKind.i64.wrap 2 = 2 := by rw [IntKind.wrap_i64]; decide
      have mixed : Try.prog.follows .mixedOrders = true := by kernel_rfl
      clear hi el ep eq ep' eq' hl hp4
      go_wp2_with fail
      obtain ⟨W0, eW⟩ : ∃ W0, W0 = wr := ⟨_, rfl⟩
      subst eW
      go_loopw [6, 22] (fun _ bv wr => (bv = .int .i64 0 ∧ ∃ v, TlI w wr n v l p q) ∨ (bv = .int .i64 1 ∧ ∃ v, TlI w wr n v (l ++ [(0, (p : Int), 1)]) p' q) ∨ (bv = .int .i64 2 ∧ ∃ v, TlI w wr n v (l ++ [(0, (p : Int), 1)] ++ [(0, (q : Int), 2)]) p' q')) (fun _ bv _ => 2 - (intOf bv).toNat)
      case atStart => exact .inl ⟨rfl, _, HI.out⟩
      case round =>
        clear HI
        rcases hrel with ⟨rfl, v, hi⟩ | ⟨rfl, v, hi⟩ | ⟨rfl, v, hi⟩
        · obtain ⟨L, eL⟩ : ∃ L, L = l := ⟨_, rfl⟩
          rw [← eL] at hi
          have hL : L.length ≤ 20 := by rw [eL]; omega
          have ELL := Lib.hid eL
          clear eL
          obtain ⟨Av, cv, rfl⟩ := hi.own.shape
          have hsz := hi.below.size
          have c1 := hi.ex.cell (k := 1) rfl
          have c1b := (hi.ex.alloc (.cells #[.int .i64 0, .int .i64 p, .int .i64 1] 71)).cell (k := 1) rfl
          have y0 := hi.arr.cell (k := 0) rfl
          have HI := Lib.hid hi
          have HD := Lib.hid hi.drew
          have HCS := Lib.hid (World.news_of_block (cs := #[.int .i64 0, .int .i64 p, .int .i64 1]) (t := 71) (fr := (0, 0)) (heap_alloc_new wr.drew (.cells #[.int .i64 0, .int .i64 p, .int .i64 1] 71)))
          have HBS : Hid (w.heap.size ≤ ((wr.alloc (.cells #[.int .i64 0, .int .i64 p, .int .i64 1] 71)).drew).heap.size) := Lib.hid (Nat.le_trans hsz (below_alloc wr (.cells #[.int .i64 0, .int .i64 p, .int .i64 1] 71)).size)
          clear hi
          go_wp2_with fail
          go_region_law (obtain ⟨i0, hi, hz0, hz1, hz2⟩ := info_parts Try.infoRule; refine step_append_own rfl (.tmp 26) (.tmp 33) 41 rfl w.heap.size 71 i0 _ 3 24 Try.underlying41 hi hz0 hz1 hz2 rfl (by decide) _ _ _ rfl (own_alloc' HD.out.own _) ⟨wr.heap.size, 0, none⟩ 1 1 [.int .i64 0, .int .i64 p, .int .i64 1] rfl rfl HCS.out (by simp [Value.oneCell']) (by unfold maxLen; omega) (by omega) HBS.out ?_; intro v' w7 hown' hgrow; obtain ⟨A', c', rfl⟩ : ∃ A' c', v' = .slice A' (L.length + 1) c' := (by obtain ⟨A', c', e, -⟩ := own_form' hown'; exact ⟨A', c', e⟩); have hmo := HD.out.more (x := (0, (p : Int), 1)) hown' hgrow; have HMO := Lib.hid hmo; have d1 := hmo.1.cell (k := 1) rfl; have f1 := hmo.1.frozen (k := 1); have z0 := hmo.2.arr.cell (k := 0) rfl; have g0 := hmo.2.arr.frozen (k := 0); clear hown' hgrow hi hz0 hz1 hz2 hmo)
          all_goals (
            go_wp2_with (go_at_call 69; refine (After_any _ _ _ (by omega)).mono ?_; rintro e w' ⟨rfl, rfl⟩)
            go_roundw
            case rel => exact .inr (.inl ⟨rfl, _, by rw [← ELL.out]; exact HMO.out.2.set 0 p' p' q rfl⟩)
            case measure => decide)
        · obtain ⟨L, eL⟩ : ∃ L, L = l ++ [(0, (p : Int), 1)] := ⟨_, rfl⟩
          rw [← eL] at hi
          have hL : L.length ≤ 20 := by rw [eL, List.length_append]; simp; omega
          have ELL := Lib.hid eL
          clear eL
          obtain ⟨Av, cv, rfl⟩ := hi.own.shape
          have hsz := hi.below.size
          have c1 := hi.ex.cell (k := 1) rfl
          have c1b := (hi.ex.alloc (.cells #[.int .i64 0, .int .i64 q, .int .i64 2] 71)).cell (k := 1) rfl
          have y1 := hi.arr.cell (k := 1) rfl
          have HI := Lib.hid hi
          have HD := Lib.hid hi.drew
          have HCS := Lib.hid (World.news_of_block (cs := #[.int .i64 0, .int .i64 q, .int .i64 2]) (t := 71) (fr := (0, 0)) (heap_alloc_new wr.drew (.cells #[.int .i64 0, .int .i64 q, .int .i64 2] 71)))
          have HBS : Hid (w.heap.size ≤ ((wr.alloc (.cells #[.int .i64 0, .int .i64 q, .int .i64 2] 71)).drew).heap.size) := Lib.hid (Nat.le_trans hsz (below_alloc wr (.cells #[.int .i64 0, .int .i64 q, .int .i64 2] 71)).size)
          clear hi
          go_wp2_with fail
          go_region_law (obtain ⟨i0, hi, hz0, hz1, hz2⟩ := info_parts Try.infoRule; refine step_append_own rfl (.tmp 26) (.tmp 33) 41 rfl w.heap.size 71 i0 _ 3 24 Try.underlying41 hi hz0 hz1 hz2 rfl (by decide) _ _ _ rfl (own_alloc' HD.out.own _) ⟨wr.heap.size, 0, none⟩ 1 1 [.int .i64 0, .int .i64 q, .int .i64 2] rfl rfl HCS.out (by simp [Value.oneCell']) (by unfold maxLen; omega) (by omega) HBS.out ?_; intro v' w7 hown' hgrow; obtain ⟨A', c', rfl⟩ : ∃ A' c', v' = .slice A' (L.length + 1) c' := (by obtain ⟨A', c', e, -⟩ := own_form' hown'; exact ⟨A', c', e⟩); have hmo := HD.out.more (x := (0, (q : Int), 2)) hown' hgrow; have HMO := Lib.hid hmo; have d1 := hmo.1.cell (k := 1) rfl; have f1 := hmo.1.frozen (k := 1); have z1 := hmo.2.arr.cell (k := 1) rfl; have g1 := hmo.2.arr.frozen (k := 1); clear hown' hgrow hi hz0 hz1 hz2 hmo)
          all_goals (
            go_wp2_with (go_at_call 69; refine (After_any _ _ _ (by omega)).mono ?_; rintro e w' ⟨rfl, rfl⟩)
            go_roundw
            case rel => exact .inr (.inr ⟨rfl, _, by rw [← ELL.out]; exact HMO.out.2.set 1 q' p' q' rfl⟩)
            case measure => decide)
        · have HI := Lib.hid hi
          clear hi
          go_wp2_with fail
          go_roundw
          case rel =>
            refine ⟨k + 1, by omega, by go_num, v, ?_⟩
            have e : telR (k + 1) = l ++ [(0, (p : Int), 1)] ++ [(0, (q : Int), 2)] := by rw [EL.out, EP.out, EQ.out, List.append_assoc]; rfl
            rw [e, ← EP'.out, ← EQ'.out]
            exact HI.out
          case measure => simp [intOf]; omega
    · obtain rfl : k = n := by omega
      have hkk : ¬ (k : Int) < (k : Int) := by omega
      obtain ⟨Av, cv, rfl⟩ := hi.own.shape
      obtain ⟨l, el⟩ : ∃ l, l = telR k := ⟨_, rfl⟩
      rw [← el] at hi HI ⊢
      have EL := Lib.hid el
      have d0 := hi.ex.cell (k := 0) rfl
      have d1 := hi.ex.cell (k := 1) rfl
      have z1 := hi.res.set 0 (.int .i64 k)
      have z2 := z1.set 1 (.slice Av l.length cv)
      have y0 := hi.res.cell (k := 0) rfl
      have y1 := z1.cell (k := 1) rfl
      have g0 := hi.res.frozen (k := 0)
      have g1 := z1.frozen (k := 1)
      have q0 := z2.cell (k := 0) rfl
      have q1 := z2.cell (k := 1) rfl
      have HFIN := Lib.hid (show RuO ((wr.setCell ⟨w.heap.size, 0, none⟩ (.int .i64 k)).setCell ⟨w.heap.size, 1, none⟩ (.slice Av l.length cv)) w.heap.size (.slice Av l.length cv) l ∧ Below w.heap.size w ((wr.setCell ⟨w.heap.size, 0, none⟩ (.int .i64 k)).setCell ⟨w.heap.size, 1, none⟩ (.slice Av l.length cv)) from
        ⟨own_keeps (own_keeps hi.own (Keeps.of_set hi.res (by decide) 0 _)) (Keeps.of_set z1 (by decide) 1 _), (hi.below.setCell (p := ⟨w.heap.size, 0, none⟩) (Nat.le_refl _) _).setCell (p := ⟨w.heap.size, 1, none⟩) (Nat.le_refl _) _⟩)
      clear hi el z1 z2
      go_wp2_with fail
      exact bodyPost_ret (v := .tuple #[.agg #[.int .i64 k, .slice Av l.length cv], .int .i64 0]) (by simp [results, Try.results30, go_sem, q0, q1]) rfl ⟨_, rfl, by rw [← EL.out]; exact HFIN.out.1, HFIN.out.2⟩
end Go.Proofs.Ytahaimecchdfeaa
