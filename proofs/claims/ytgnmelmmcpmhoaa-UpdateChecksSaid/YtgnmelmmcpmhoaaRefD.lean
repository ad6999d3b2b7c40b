/-
  Walks: the reference of layer 41: Distance, build, Winslett, Forbus.
-/
import Derived.Test.YtgnmelmmcpmhoaaProg
import Derived.Test.YtgnmelmmcpmhoaaBase
import Derived.Test.YtgnmelmmcpmhoaaRowsOf
import Derived.Test.YtgnmelmmcpmhoaaUpdA
import Derived.Test.YtgnmelmmcpmhoaaUpdB
import Derived.Test.YtgnmelmmcpmhoaaUpdC
import Derived.Test.YtgnmelmmcpmhoaaUpdE
import Derived.Test.YtgnmelmmcpmhoaaUpdF
import Derived.Test.YtgnmelmmcpmhoaaRefA
namespace Go.Proofs.Ytgnmelmmcpmhoaa
open Go.RowKit

/-! ### Distance -/
def difB (u v i : Nat) : Bool := u / 2 ^ i % 2 != v / 2 ^ i % 2
def difN (u v i : Nat) : Nat := ((List.range i).filter (difB u v)).length
theorem difN_succ (u v i : Nat) : difN u v (i + 1) = difN u v i + (if difB u v i then 1 else 0) := by
  unfold difN
  rw [List.range_succ, List.filter_append, List.length_append]
  cases h : difB u v i <;> simp [h]
theorem difN_le (u v i : Nat) : difN u v i ≤ i := by
  unfold difN; exact Nat.le_trans (List.length_filter_le _ _) (by rw [List.length_range]; exact Nat.le_refl _)
theorem difN_popc {kk n u v : Nat} (hk : kk ≤ 3) (hn : n = 2 ^ kk) (hu : u < n) (hv : v < n) : difN u v kk = popc (u ^^^ v) := by
  have key : ∀ k : Nat, k < 4 → ∀ u : Nat, u < 2 ^ k → ∀ v : Nat, v < 2 ^ k → difN u v k = popc (u ^^^ v) := by decide +kernel
  subst hn
  exact key kk (by omega) u hu v hv

set_option maxHeartbeats 1000000 in
theorem refDist_any (kk n u v : Nat) (w : World) (hk : kk ≤ 3) (hn : n = 2 ^ kk) (hu : u < n) (hv : v < n) :
    Calls Try.prog 57 #[.int .i64 u, .int .i64 v, .int .i64 kk] w fun e w' => e = .returned (.int .i64 (popc (u ^^^ v) : Nat)) ∧ Below w.heap.size w w' := by
  have hn8 := pow_le8 hn hk
  have hw := wrap_pow hn (by omega)
  have HD := Lib.hid (difN_popc hk hn hu hv)
  have hd1 : decide ((kk : Int) < 0) = false := by simp
  have hd2 : decide (4 < (kk : Int)) = false := by simp; omega
  have hd3 : decide ((u : Int) < 0) = false := by simp
  have hd4 : decide ((v : Int) < 0) = false := by simp
  have hd5 : decide ((n : Int) ≤ (u : Int)) = false := by simp; omega
  have hd6 : decide ((n : Int) ≤ (v : Int)) = false := by simp; omega
  clear hn
  go_enter Try.func57, Try.ntmps57
  go_wp2_with fail
  go_loopw [7, 8] (fun o i wr => ∃ j : Nat, j ≤ kk ∧ i = .int .i64 j ∧ o = .int .i64 (difN u v j : Nat) ∧ Below w.heap.size w wr) (fun _ i _ => kk - (intOf i).toNat)
  case atStart => exact ⟨0, Nat.zero_le _, rfl, rfl, Below.refl _ _⟩
  case round =>
    obtain ⟨j, hj, rfl, rfl, hbl⟩ := hrel
    have HB := Lib.hid hbl
    clear hbl
    by_cases hlt : j < kk
    · have HS := Lib.hid (difN_succ u v j)
      have hdn := difN_le u v j
      have hsh1 : (u : Int) / 2 ^ j = ((u / 2 ^ j : Nat) : Int) := by rw [Int.natCast_ediv, Int.natCast_pow]; rfl
      have hsh2 : (v : Int) / 2 ^ j = ((v / 2 ^ j : Nat) : Int) := by rw [Int.natCast_ediv, Int.natCast_pow]; rfl
      have hm : ∀ a : Nat, (a : Int).tmod 2 = ((a % 2 : Nat) : Int) := fun a => by rw [Int.tmod_eq_emod_of_nonneg (by omega)]; rfl
      have HM := Lib.hid hm
      have H1 := Lib.hid hsh1
      have H2 := Lib.hid hsh2
      clear hm hsh1 hsh2
      have HT := Lib.hid (show (((u : Int) / 2 ^ j).tmod 2 != ((v : Int) / 2 ^ j).tmod 2) = difB u v j by
        rw [H1.out, H2.out, HM.out, HM.out]; unfold difB
        rw [Bool.eq_iff_iff, bne_iff_ne, bne_iff_ne]; omega)
      cases hd : difB u v j
      all_goals
        go_wp2_with fail
        go_quiet (fail)
        rw [hd] at HT HS
        have hne := HT.out
        have HB := Lib.hid (below_drewN HB.out nq)
        go_wp2
        go_round
        case rel => exact ⟨j + 1, by omega, by go_num, by rw [HS.out]; simp, HB.out⟩
        case measure => simp [intOf]; omega
    · obtain rfl : kk = j := by omega
      go_wp2
      go_ret
      exact ⟨ret_int (by rw [HD.out]), HB.out⟩

theorem refDist_val (kk n u v p : Nat) (w : World) (hk : kk ≤ 3) (hn : n = 2 ^ kk) (hu : u < n) (hv : v < n) (hp : p = popc (u ^^^ v)) :
    Calls Try.prog 57 #[.int .i64 u, .int .i64 v, .int .i64 kk] w fun e w' => e = .returned (.int .i64 (p : Nat)) ∧ Below w.heap.size w w' := by
  rw [hp]; exact refDist_any kk n u v w hk hn hu hv

/-! ### build -/
set_option maxHeartbeats 1000000 in
theorem build_W (kk n : Nat) (w : World) (hk : kk ≤ 3) (hn : n = 2 ^ kk) :
    Calls Try.prog 40 #[.int .i64 kk, .bool false] w (FamPost0 kk n subB w) := by
  have hw := wrap_pow hn (by omega)
  have hn8 := pow_le8 hn hk
  have hd1 : decide ((kk : Int) < 0) = false := by simp
  have hd2 : decide (3 < (kk : Int)) = false := by simp; omega
  have HN := Lib.hid hn
  clear hn
  obtain ⟨i0, hi, hz0, hz1, hz2⟩ := info_parts Try.infoU64
  obtain ⟨j0, hj, hy0, hy1, hy2⟩ := info_parts Try.infoU64s
  go_enter Try.func40, Try.ntmps40
  go_wp2
  go_loopw [7] (fun i wr => ∃ v : Nat, v ≤ n ∧ i = .int .i64 v ∧ FamInv w kk n subB v wr) (fun i _ => n - (intOf i).toNat)
  case atStart =>
    refine ⟨0, Nat.zero_le _, rfl, none, 0, [], ?_, ?_, World.ownsRow_nil _ _ _ _, fun i hi => absurd hi (Nat.not_lt_zero _), ?_, ?_⟩
    · exact ⟨by go_simp, by go_simp, by go_simp, by go_simp⟩
    · exact ⟨by go_simp, by go_simp, by go_simp⟩
    · exact ((Below.refl _ _).alloc (Nat.le_refl _) _).alloc (by simp) _
    · simp
  case round =>
    obtain ⟨v, hv, rfl, hinv⟩ := hrel
    by_cases hlt : v < n
    · go_wp2
      obtain ⟨wo, rfl⟩ : ∃ wo : World, wo = wr := ⟨_, rfl⟩
      go_loopw [8, 9] (fun o i wi => ∃ u : Nat, u ≤ n ∧ i = .int .i64 u ∧ wi.ownsRow wo.heap.size 32 1 o u (u64L (famF n subB v) u) ∧ Below wo.heap.size wo wi) (fun _ i _ => n - (intOf i).toNat)
      case atStart => exact ⟨0, Nat.zero_le _, rfl, World.ownsRow_nil _ _ _ _, Below.refl _ _⟩
      case round =>
        obtain ⟨u, hu, rfl, hown, hbl⟩ := hrel
        by_cases hult : u < n
        · go_wp2
          have hxv := i64_xor_nat u v (by omega) (by omega)
          have hxl : u ^^^ v < 8 := Nat.xor_lt_two_pow (n := 3) (by omega) (by omega)
          obtain ⟨w1, rfl⟩ : ∃ w1 : World, w1 = wr := ⟨_, rfl⟩
          go_loopw [10, 11] (fun o i wx => ∃ x : Nat, x ≤ n ∧ i = .int .i64 x ∧ o = .int .u64 (mkSet x (famIn subB v u) : Nat) ∧ Below w1.heap.size w1 wx) (fun _ i _ => n - (intOf i).toNat)
          case atStart => exact ⟨0, Nat.zero_le _, rfl, rfl, Below.refl _ _⟩
          case round =>
            obtain ⟨x, hx, rfl, rfl, hbx⟩ := hrel
            have HB := Lib.hid hbx
            clear hbx
            by_cases hxlt : x < n
            · have hxw := i64_xor_nat x v (by omega) (by omega)
              have hxm : x ^^^ v < 8 := Nat.xor_lt_two_pow (n := 3) (by omega) (by omega)
              obtain ⟨P, hP⟩ : ∃ P, P = 2 ^ x := ⟨_, rfl⟩
              have hsh := shl_one hP (by omega)
              have HP := Lib.hid hP
              clear hP
              have htest := sub_val (u ^^^ v) (x ^^^ v) hxl hxm
              cases hcl : subB (u ^^^ v) (x ^^^ v)
              · rw [hcl] at htest
                go_wp2_with fail
                go_round
                case rel => exact ⟨x + 1, by omega, by go_num, by rw [mkSet_succ_no (p := famIn subB v u) hcl], HB.out⟩
                case measure => simp [intOf]; omega
              · rw [hcl] at htest
                have hor := or_mkSet (p := famIn subB v u) HP.out (by omega) hcl
                go_wp2_with fail
                go_round
                case rel => exact ⟨x + 1, by omega, by go_num, rfl, HB.out⟩
                case measure => simp [intOf]; omega
            · obtain rfl : n = x := by omega
              have hown := own_below hown HB.out (Nat.le_refl _)
              have hbl := hbl.trans (HB.out.mono hbl.size)
              have hsz1 := hbl.size
              clear HB
              go_wp2_with (at_builtin; refine wpList_append_own _ rfl _ _ 53 rfl wo.heap.size 32 i0 (.int .u64 0) 1 8 Try.underlying53 hi hz0 hz1 hz2 rfl (by decide) _ _ _ rfl (hown.alloc _) ⟨wr.heap.size, 0, none⟩ 1 1 [.int .u64 (mkSet n (famIn subB v u) : Nat)] rfl rfl (cell_one_new _ _ _) (one_oneCell rfl) (by unfold maxLen; omega) (by omega) (by simp; omega) ?_; intro v' w1 hown' hgrow _)
              go_round
              case rel => exact ⟨u + 1, by omega, by go_num, by rw [u64L_succ]; exact hown', (hbl.alloc hsz1 _).grown hgrow (by simp; omega) (fun k hk => (hown.lt k hk).1)⟩
              case measure => simp [intOf]; omega
        · obtain rfl : n = u := by omega
          obtain ⟨A, c, rows, hparts⟩ := hinv.below hbl
          have hbase : w.heap.size + 2 ≤ wr.heap.size := hparts.2.2.2.2.2
          have hbase2 : w.heap.size + 2 ≤ wo.heap.size := hinv.choose_spec.choose_spec.choose_spec.2.2.2.2.2
          have hrow := own_mono hown hbase2
          obtain ⟨A2, c2, rfl, _⟩ := own_form hrow
          have HP := Lib.hid hparts
          have HR := Lib.hid hrow
          obtain ⟨_, ⟨d0, d1, g1⟩, hoo, _⟩ := hparts
          have HO := Lib.hid hoo
          clear hoo hrow hown hinv
          go_wp2_with (at_builtin; refine wpList_append_own _ rfl _ _ 22 rfl (w.heap.size + 2) 53 j0 (.slice none 0 0) 1 24 Try.underlying22 hj hy0 hy1 hy2 rfl (by decide) _ _ _ rfl (HO.out.alloc _) ⟨wr.heap.size, 0, none⟩ 1 1 [.slice A2 n c2] rfl rfl (cell_one_new _ _ _) (one_oneCell rfl) (by unfold maxLen; omega) (by omega) (by simp; omega) ?_; intro v' w1 hown' hgrow _; obtain ⟨g', cap', rfl⟩ := own_succ hown'; obtain ⟨e0, e1⟩ := FamParts.cells1 HP.out hgrow)
          go_round
          case rel => exact ⟨v + 1, by omega, by go_num, FamInv.step HP.out HR.out hown' hgrow⟩
          case measure => simp [intOf]; omega
    · obtain rfl : n = v := by omega
      obtain ⟨A, c, rows, hparts⟩ := hinv
      have HM := Lib.hid (FamInv.mat hparts (by omega) (.int .i64 kk) (.slice A n c))
      obtain ⟨⟨c0, c1, f0, f1⟩, ⟨d0, d1, g1⟩, _⟩ := hparts
      obtain ⟨k0, k1⟩ := set2 (x := .int .i64 kk) (y := .slice A n c) c0 c1
      go_wp2
      refine bodyPost_ret (v := .tuple #[.agg #[.int .i64 kk, .slice A n c], .int .i64 0]) (by simp [results, Try.results40, go_sem, k0, k1]) rfl ?_
      obtain ⟨⟨R, cc, hm, hf⟩, hb⟩ := HM.out
      exact ⟨A, c, R, cc, rfl, hm, hf.mono (by omega), hb⟩
set_option maxHeartbeats 1000000 in
theorem build_F (kk n : Nat) (w : World) (hk : kk ≤ 3) (hn : n = 2 ^ kk) :
    Calls Try.prog 40 #[.int .i64 kk, .bool true] w (FamPost0 kk n cntB w) := by
  have hw := wrap_pow hn (by omega)
  have hn8 := pow_le8 hn hk
  have hd1 : decide ((kk : Int) < 0) = false := by simp
  have hd2 : decide (3 < (kk : Int)) = false := by simp; omega
  have HN := Lib.hid hn
  clear hn
  obtain ⟨i0, hi, hz0, hz1, hz2⟩ := info_parts Try.infoU64
  obtain ⟨j0, hj, hy0, hy1, hy2⟩ := info_parts Try.infoU64s
  go_enter Try.func40, Try.ntmps40
  go_wp2
  go_loopw [7] (fun i wr => ∃ v : Nat, v ≤ n ∧ i = .int .i64 v ∧ FamInv w kk n cntB v wr) (fun i _ => n - (intOf i).toNat)
  case atStart =>
    refine ⟨0, Nat.zero_le _, rfl, none, 0, [], ?_, ?_, World.ownsRow_nil _ _ _ _, fun i hi => absurd hi (Nat.not_lt_zero _), ?_, ?_⟩
    · exact ⟨by go_simp, by go_simp, by go_simp, by go_simp⟩
    · exact ⟨by go_simp, by go_simp, by go_simp⟩
    · exact ((Below.refl _ _).alloc (Nat.le_refl _) _).alloc (by simp) _
    · simp
  case round =>
    obtain ⟨v, hv, rfl, hinv⟩ := hrel
    by_cases hlt : v < n
    · go_wp2
      obtain ⟨wo, rfl⟩ : ∃ wo : World, wo = wr := ⟨_, rfl⟩
      go_loopw [8, 9] (fun o i wi => ∃ u : Nat, u ≤ n ∧ i = .int .i64 u ∧ wi.ownsRow wo.heap.size 32 1 o u (u64L (famF n cntB v) u) ∧ Below wo.heap.size wo wi) (fun _ i _ => n - (intOf i).toNat)
      case atStart => exact ⟨0, Nat.zero_le _, rfl, World.ownsRow_nil _ _ _ _, Below.refl _ _⟩
      case round =>
        obtain ⟨u, hu, rfl, hown, hbl⟩ := hrel
        by_cases hult : u < n
        · go_wp2
          have hxv := i64_xor_nat u v (by omega) (by omega)
          have hxl : u ^^^ v < 8 := Nat.xor_lt_two_pow (n := 3) (by omega) (by omega)
          obtain ⟨w1, rfl⟩ : ∃ w1 : World, w1 = wr := ⟨_, rfl⟩
          go_loopw [10, 11] (fun o i wx => ∃ x : Nat, x ≤ n ∧ i = .int .i64 x ∧ o = .int .u64 (mkSet x (famIn cntB v u) : Nat) ∧ Below w1.heap.size w1 wx) (fun _ i _ => n - (intOf i).toNat)
          case atStart => exact ⟨0, Nat.zero_le _, rfl, rfl, Below.refl _ _⟩
          case round =>
            obtain ⟨x, hx, rfl, rfl, hbx⟩ := hrel
            have HB := Lib.hid hbx
            clear hbx
            by_cases hxlt : x < n
            · have hxw := i64_xor_nat x v (by omega) (by omega)
              have hxm : x ^^^ v < 8 := Nat.xor_lt_two_pow (n := 3) (by omega) (by omega)
              obtain ⟨P, hP⟩ : ∃ P, P = 2 ^ x := ⟨_, rfl⟩
              have hsh := shl_one hP (by omega)
              have HP := Lib.hid hP
              clear hP
              have htest : decide (popc (u ^^^ v) ≤ popc (x ^^^ v)) = cntB (u ^^^ v) (x ^^^ v) := rfl
              have HK := Lib.hid hk
              cases hcl : cntB (u ^^^ v) (x ^^^ v)
              · rw [hcl] at htest
                go_wp2_with (go_at_call 57; refine (refDist_any kk n _ v _ HK.out HN.out (by omega) (by omega)).mono ?_; rintro e w' ⟨rfl, hb1⟩; have HB := Lib.hid (HB.out.trans (hb1.mono HB.out.size)); clear hb1)
                go_round
                case rel => exact ⟨x + 1, by omega, by go_num, by rw [mkSet_succ_no (p := famIn cntB v u) hcl], HB.out⟩
                case measure => simp [intOf]; omega
              · rw [hcl] at htest
                have hor := or_mkSet (p := famIn cntB v u) HP.out (by omega) hcl
                go_wp2_with (go_at_call 57; refine (refDist_any kk n _ v _ HK.out HN.out (by omega) (by omega)).mono ?_; rintro e w' ⟨rfl, hb1⟩; have HB := Lib.hid (HB.out.trans (hb1.mono HB.out.size)); clear hb1)
                go_round
                case rel => exact ⟨x + 1, by omega, by go_num, rfl, HB.out⟩
                case measure => simp [intOf]; omega
            · obtain rfl : n = x := by omega
              have hown := own_below hown HB.out (Nat.le_refl _)
              have hbl := hbl.trans (HB.out.mono hbl.size)
              have hsz1 := hbl.size
              clear HB
              go_wp2_with (at_builtin; refine wpList_append_own _ rfl _ _ 53 rfl wo.heap.size 32 i0 (.int .u64 0) 1 8 Try.underlying53 hi hz0 hz1 hz2 rfl (by decide) _ _ _ rfl (hown.alloc _) ⟨wr.heap.size, 0, none⟩ 1 1 [.int .u64 (mkSet n (famIn cntB v u) : Nat)] rfl rfl (cell_one_new _ _ _) (one_oneCell rfl) (by unfold maxLen; omega) (by omega) (by simp; omega) ?_; intro v' w1 hown' hgrow _)
              go_round
              case rel => exact ⟨u + 1, by omega, by go_num, by rw [u64L_succ]; exact hown', (hbl.alloc hsz1 _).grown hgrow (by simp; omega) (fun k hk => (hown.lt k hk).1)⟩
              case measure => simp [intOf]; omega
        · obtain rfl : n = u := by omega
          obtain ⟨A, c, rows, hparts⟩ := hinv.below hbl
          have hbase : w.heap.size + 2 ≤ wr.heap.size := hparts.2.2.2.2.2
          have hbase2 : w.heap.size + 2 ≤ wo.heap.size := hinv.choose_spec.choose_spec.choose_spec.2.2.2.2.2
          have hrow := own_mono hown hbase2
          obtain ⟨A2, c2, rfl, _⟩ := own_form hrow
          have HP := Lib.hid hparts
          have HR := Lib.hid hrow
          obtain ⟨_, ⟨d0, d1, g1⟩, hoo, _⟩ := hparts
          have HO := Lib.hid hoo
          clear hoo hrow hown hinv
          go_wp2_with (at_builtin; refine wpList_append_own _ rfl _ _ 22 rfl (w.heap.size + 2) 53 j0 (.slice none 0 0) 1 24 Try.underlying22 hj hy0 hy1 hy2 rfl (by decide) _ _ _ rfl (HO.out.alloc _) ⟨wr.heap.size, 0, none⟩ 1 1 [.slice A2 n c2] rfl rfl (cell_one_new _ _ _) (one_oneCell rfl) (by unfold maxLen; omega) (by omega) (by simp; omega) ?_; intro v' w1 hown' hgrow _; obtain ⟨g', cap', rfl⟩ := own_succ hown'; obtain ⟨e0, e1⟩ := FamParts.cells1 HP.out hgrow)
          go_round
          case rel => exact ⟨v + 1, by omega, by go_num, FamInv.step HP.out HR.out hown' hgrow⟩
          case measure => simp [intOf]; omega
    · obtain rfl : n = v := by omega
      obtain ⟨A, c, rows, hparts⟩ := hinv
      have HM := Lib.hid (FamInv.mat hparts (by omega) (.int .i64 kk) (.slice A n c))
      obtain ⟨⟨c0, c1, f0, f1⟩, ⟨d0, d1, g1⟩, _⟩ := hparts
      obtain ⟨k0, k1⟩ := set2 (x := .int .i64 kk) (y := .slice A n c) c0 c1
      go_wp2
      refine bodyPost_ret (v := .tuple #[.agg #[.int .i64 kk, .slice A n c], .int .i64 0]) (by simp [results, Try.results40, go_sem, k0, k1]) rfl ?_
      obtain ⟨⟨R, cc, hm, hf⟩, hb⟩ := HM.out
      exact ⟨A, c, R, cc, rfl, hm, hf.mono (by omega), hb⟩

theorem refFam_bad (k : Int) (b : Bool) (w : World) (hk : ¬ (0 ≤ k ∧ k ≤ 3)) :
    Calls Try.prog 40 #[.int .i64 k, .bool b] w fun e w' => e = .returned (.tuple #[.agg #[.int .i64 0, .slice none 0 0], .int .i64 2]) ∧ Below w.heap.size w w' := by
  have key : ∀ x y : Value, (w.alloc (.cells #[x, y] 24)).cell? ⟨w.heap.size, 0, none⟩ = some x ∧ (w.alloc (.cells #[x, y] 24)).cell? ⟨w.heap.size, 1, none⟩ = some y := fun x y => cells_box2 w x y _
  by_cases h0 : k < 0
  · go_enter Try.func40, Try.ntmps40
    go_wp2
    exact bodyPost_ret (v := .tuple #[.agg #[.int .i64 0, .slice none 0 0], .int .i64 2]) (by simp [results, Try.results40, go_sem]) rfl ⟨rfl, below_alloc _ _⟩
  · have h3 : 3 < k := by omega
    clear hk
    go_enter Try.func40, Try.ntmps40
    go_wp2
    exact bodyPost_ret (v := .tuple #[.agg #[.int .i64 0, .slice none 0 0], .int .i64 2]) (by simp [results, Try.results40, go_sem]) rfl ⟨rfl, below_alloc _ _⟩
end Go.Proofs.Ytgnmelmmcpmhoaa
