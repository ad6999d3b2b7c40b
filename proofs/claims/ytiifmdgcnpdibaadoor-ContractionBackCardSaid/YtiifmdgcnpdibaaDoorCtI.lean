/-
  Walks: slices.Values, slices.Collect, slices.Sorted at []int: the sorted list of a slice.
-/
import Derived.RangeFuncBox
import Derived.RangeFuncLeaves
import Derived.Shelf.Abstract
import Derived.WalkKit
import Derived.OwnWalkIn
import Derived.TacticsInMore
import Derived.LoopNIn
import Derived.LoopIn
import Derived.Maps.AppendAt
import Derived.Test.YtiifmdgcnpdibaaDoorProg
import Derived.Test.YtiifmdgcnpdibaaDoorBase
import Derived.Test.YtiifmdgcnpdibaaDoorRow
import Derived.Test.YtiifmdgcnpdibaaDoorRowsOf
import Derived.Test.YtiifmdgcnpdibaaDoorRkP
import Derived.Test.YtiifmdgcnpdibaaDoorRkS3
namespace Go.Proofs.YtiifmdgcnpdibaaDoor
open Go.RowKit Go.Shelf

attribute [local go_sem] Oper.semAt_some

theorem zsOf_succ (f : Nat → Int) (k : Nat) : zsOf f (k + 1) = zsOf f k ++ [f k] := by simp [zsOf, List.range_succ]
set_option maxRecDepth 100000 in
set_option maxHeartbeats 2000000 in
/-- The closure of slices.Values. -/
theorem values1_in (F : Fence) (n : Nat) (h7 : F.fn 65) (hro : F.round = none) (hn : 1 ≤ n) (l Bs len cap : Nat) (A : Option Addr) (f : Nat → Int) (hlen : len ≤ 65536) (J Jx : List Int → World → Prop) (w : World) (hu : I64s w A len f) (hBs : w.cell? ⟨Bs, 0, none⟩ = some (.slice A len cap))
    (hY : ∀ pre x W, J pre W → pre.length < len → YieldAt F (n - 1) Tryd.prog l #[.int .i64 x] W fun e W' =>
      (e = .returned (.bool true) ∧ J (pre ++ [x]) W' ∧ Below w.heap.size W W') ∨ (e = .returned (.bool false) ∧ Jx (pre ++ [x]) W'))
    (W : World) (hW : Below w.heap.size w W) (h0 : J [] W) :
    CallsIn F n Tryd.prog 65 #[.func (.yield l) #[] #[], .pointer (some ⟨Bs, 0, none⟩)] W fun e W' => (∃ v, e = .returned v) ∧
      ((∃ ys, ys = zsOf f len ∧ J ys W') ∨ (∃ pre, True ∧ Jx pre W')) := by
  have hBW := cell_below hW hBs
  have HU := Lib.hid hu
  clear hu hBs
  refine callsIn_of_wp Tryd.func65 rfl h7 ?_ hro
  simp only [Tryd.ntmps65, List.size_toArray, List.length_cons, List.length_nil, Nat.reduceAdd, Nat.reduceSub, Array.replicate_succ, Array.replicate_zero, List.push_toArray, List.append_toArray, List.nil_append, List.cons_append]
  gi_wp2
  gi_loopw [7] (fun i wr => ∃ k : Nat, k ≤ len ∧ i = .int .i64 k ∧ J (zsOf f k) wr ∧ Below w.heap.size w wr)
    (fun i _ => len - (intOf i).toNat)
  case atStart => exact ⟨0, Nat.zero_le _, rfl, h0, hW⟩
  case round =>
    obtain ⟨k, hk, rfl, hJs, hnx⟩ := hrel
    by_cases hlt : k < len
    · obtain ⟨b, off, rfl, hcx, -⟩ := (HU.out.below hnx) k hlt
      obtain ⟨fn, tmps, assign, body, hy, hR⟩ := hY _ (f k) wr hJs (by rw [zsOf_length]; exact hlt)
      gi_wp2
      refine hR.mono ?_
      rintro e W3 (⟨rfl, hJ3, hk3⟩ | ⟨rfl, hJx3⟩)
      · gi_wp2
        go_roundw
        case rel => exact ⟨k + 1, by omega, by simp, by rw [zsOf_succ]; exact hJ3, hnx.trans hk3⟩
        case measure => simp [intOf]; omega
      · gi_wp2
        refine bodyPost_ret (results_none rfl _ _ _) rfl ?_
        exact ⟨⟨_, rfl⟩, .inr ⟨_, trivial, hJx3⟩⟩
    · obtain rfl : k = len := by omega
      gi_wp2
      go_end0
      exact ⟨⟨_, rfl⟩, .inl ⟨_, rfl, hJs⟩⟩
/-- What slices.Values hands back. -/
theorem values_any (A : Option Addr) (len cap : Nat) (w : World) :
    Calls Tryd.prog 45 #[.slice A len cap] w fun e w' => e = .returned (.func (.func 65) #[] #[.pointer (some ⟨w.heap.size, 0, none⟩)]) ∧ w' = w.alloc (.cells #[.slice A len cap] 32) := by
  go_enter Tryd.func45, Tryd.ntmps45
  go_wp2
  go_ret
  exact ⟨rfl, rfl⟩
theorem values_stops (F : Fence) (n : Nat) (h7 : F.fn 65) (hro : F.round = none) (hn : 1 ≤ n) (Bs len cap : Nat) (A : Option Addr) (f : Nat → Int) (hlen : len ≤ 65536) (w w1 : World) (hb : Below w.heap.size w w1) (hu : I64s w A len f) (hBs : w.cell? ⟨Bs, 0, none⟩ = some (.slice A len cap)) :
    SeqStopsK F n Tryd.prog 65 #[.pointer (some ⟨Bs, 0, none⟩)] (fun x : Int => #[Value.int .i64 x]) (Below w.heap.size) (fun ys => ys = zsOf f len) (fun _ => True) len w1 := fun l J Jx W hW _ _ hY h0 =>
  values1_in F n h7 hro hn l Bs len cap A f hlen J Jx w hu hBs hY W (hb.trans (hW.mono hb.size)) h0
set_option maxRecDepth 100000 in
set_option maxHeartbeats 2000000 in
theorem appendSeq_in (F : Fence) (n : Nat) (h4 : F.fn 74) (h7 : F.fn 65) (hro : F.round = none) (hn : 3 ≤ n) (Bs len cap : Nat) (A : Option Addr) (f : Nat → Int) (hlen : len ≤ 65536) (w : World) (hu : I64s w A len f) (hBs : w.cell? ⟨Bs, 0, none⟩ = some (.slice A len cap)) :
    CallsIn F n Tryd.prog 74 #[.slice none 0 0, .func (.func 65) #[] #[.pointer (some ⟨Bs, 0, none⟩)]] w fun e W' => ∃ v, e = .returned v ∧ W'.ownsRow w.heap.size 3 1 v (zsOf f len).length ((zsOf f len).map (Value.int .i64)) ∧ Below w.heap.size w W' := by
  have h1 : 1 ≤ n := by omega
  obtain ⟨i0, hi, hz0, hz1, hz2⟩ := info_parts Tryd.infoInt
  refine callsIn_of_wp_marks Tryd.func74 rfl h4 ?_ hro
  simp only [Tryd.ntmps74, List.size_toArray, List.length_cons, List.length_nil, Nat.reduceAdd, Nat.reduceSub, Array.replicate_succ, Array.replicate_zero, List.push_toArray, List.append_toArray, List.nil_append, List.cons_append]
  gi_wp2
  have bO := Boxed.new w 32 (.slice none 0 0)
  have hB0 : Below w.heap.size w (w.alloc (.cells #[.slice none 0 0] 32)) := (Below.refl _ w).alloc (Nat.le_refl _) _
  refine wpIn_rangeFunc_ownG hro h1 (gf := 65) (lb := #[.pointer (some ⟨Bs, 0, none⟩)]) rfl h7 (enters_of Tryd.func65 (by kernel_rfl) rfl)
    (values_stops F (n - 1) h7 hro (by omega) Bs len cap A f hlen w _ hB0 hu hBs) belowK_t (belowK_b (by simp)) (Below.refl _ _) (fun _ => rfl)
    (fun pre W => (∃ v, Boxed W w.heap.size 32 v ∧ W.ownsRow w.heap.size 3 1 v pre.length (pre.map (Value.int .i64)) ∧ True) ∧ Below w.heap.size w W)
    (fun _ _ _ => False)
    (OwnFrom.and (Own.from (holdsRow_own w.heap.size w.heap.size 32 3 1 (fun pre : List Int => pre.length) (fun pre => pre.map (Value.int .i64)) (fun _ _ => True)) _) (ownFrom_below (Nat.le_refl _) (by simp)))
    (fun _ _ _ _ _ hs _ _ => hs)
    ⟨⟨_, bO, World.ownsRow_nil _ _ _ _, trivial⟩, hB0⟩
    (fun x => { tmps := #[.slice none 0 0, .func (.func 65) #[] #[.pointer (some ⟨Bs, 0, none⟩)], .pointer (some ⟨w.heap.size, 0, none⟩), undef, .slice none 0 0, .int .i64 x, .func (.func 65) #[] #[.pointer (some ⟨Bs, 0, none⟩)], .int .i64 x, undef, undef, undef, undef, undef], defers := [] }) ?assign ?body ?done ?stop
  case assign =>
    intro l x W K hK
    gi_wp2
    exact hK
  case body =>
    rintro l pre x W ⟨⟨v, hv, hrow, -⟩, hB⟩ hlt
    have hc := hv.cell
    gi_wp2_with (gi_at_builtin; refine wpListIn_append_own _ rfl _ _ 32 rfl w.heap.size 3 i0 (.int .i64 0) 1 8 Tryd.underlying32 hi hz0 hz1 hz2 rfl (by decide) _ _ _ rfl (hrow.alloc _) ⟨W.heap.size, 0, none⟩ 1 1 [.int .i64 x] rfl rfl (cell_one_new _ _ _) (by simp [Value.oneCell']) (by unfold maxLen; omega) (by omega) (by have := hB.size; simp; omega) ?_; intro v' w1 hown' hgrow _; obtain ⟨g', cap', rfl⟩ := ownsRow_succ hown'; obtain ⟨hv1, hv2, hr2, hk2, hb2⟩ := hv.appended (by decide) hrow hB.size (Nat.le_refl _) hown' hgrow; have hc1 := hv1.cell; have hf1 := hv1.frozen)
    exact ⟨hk2.from _, hb2, ⟨_, hv2, by simpa using hr2, trivial⟩, hB.trans hb2⟩
  case done =>
    rintro D ys W hD rfl ⟨⟨v, hv, hrow, -⟩, hB⟩ hK
    have hc := hv.cell
    gi_wp2
    refine ⟨by simp, .inl ⟨_, _, rfl, run_takeDeferred hK, ?_⟩⟩
    exact ⟨_, results_tmp rfl _ _ _, v, rfl, ownsRow_putObj hrow _ hK rfl, hB.trans (belowK_b (w := w) (Nat.le_refl _) W D _ _ (by simp at hD; omega) hK rfl rfl)⟩
  case stop =>
    rintro D c pre W _ _ h _
    exact h.elim
theorem collect_any (Bs len cap : Nat) (A : Option Addr) (f : Nat → Int) (hlen : len ≤ 65536) (w : World) (hu : I64s w A len f) (hBs : w.cell? ⟨Bs, 0, none⟩ = some (.slice A len cap)) :
    Calls Tryd.prog 63 #[.func (.func 65) #[] #[.pointer (some ⟨Bs, 0, none⟩)]] w fun e W' => ∃ v, e = .returned v ∧ W'.ownsRow w.heap.size 3 1 v (zsOf f len).length (intL (zsOf f len)) ∧ Below w.heap.size w W' := by
  have hA := (callsIn_wide (n := 5)).1 (appendSeq_in Fence.wide 5 trivial trivial rfl (by omega) Bs len cap A f hlen w hu hBs)
  have HA := Lib.hid hA
  clear hA hu hBs
  go_enter Tryd.func63, Tryd.ntmps63
  go_wp2_with (go_at_call 74; refine HA.out.mono ?_; rintro e w1 ⟨v, rfl, hown, hb1⟩; have HO := Lib.hid hown; have HB := Lib.hid hb1; clear hown hb1)
  go_ret
  exact ⟨v, rfl, HO.out, HB.out⟩
/-- slices.Sorted of slices.Values of a slice. -/
theorem sorted_any (Bs len cap : Nat) (A : Option Addr) (f : Nat → Int) (hlen : len ≤ 65536) (w : World) (hu : I64s w A len f) (hBs : w.cell? ⟨Bs, 0, none⟩ = some (.slice A len cap)) :
    Calls Tryd.prog 44 #[.func (.func 65) #[] #[.pointer (some ⟨Bs, 0, none⟩)]] w fun e W' => ∃ B c, e = .returned (.slice B len c) ∧ I64s W' B len (fun k => (sortZ (zsOf f len)).getD k 0) ∧ Below w.heap.size w W' := by
  have HC := Lib.hid (collect_any Bs len cap A f hlen w hu hBs)
  have HF : Hid (∀ k, k < len → -9223372036854775808 ≤ f k ∧ f k ≤ 9223372036854775807) := Lib.hid fun k hk => by
    obtain ⟨_, _, _, _, h⟩ := hu k hk
    exact h
  clear hu hBs
  go_enter Tryd.func44, Tryd.ntmps44
  go_upto_region 2 with (go_at_call 63; refine HC.out.mono ?_; rintro e w1 ⟨v, rfl, hown, hb1⟩; have HO := Lib.hid hown; have HB := Lib.hid hb1; clear hown hb1)
  rcases HO.out.2 with ⟨hv, h0⟩ | ⟨g, cp, cur, hv, -⟩
  · have hl0 : len = 0 := by rw [zsOf_length] at h0; exact h0
    subst hl0
    rw [hv]
    go_wp2_with (go_at_call 64; refine (Tryd.slices_Sort_int_none none 0 w1).mono ?_; rintro e w2 ⟨rfl, rfl⟩)
    go_ret
    exact ⟨none, 0, rfl, i64s_nil _ _ _, HB.out⟩
  · have hoz : OwnZ w.heap.size w1 g cp (zsOf f len) := by unfold OwnZ; rw [← hv]; exact HO.out
    have HS := Lib.hid (sort_any HB.out hoz (by rw [zsOf_length]; exact hlen))
    rw [zsOf_length] at hv HS
    rw [hv]
    go_wp2_with (go_at_call 64; refine HS.out.mono ?_; rintro e w2 ⟨rfl, ho2, hb2⟩; have HO2 := Lib.hid ho2; have HB2 := Lib.hid hb2; clear ho2 hb2)
    go_ret
    refine ⟨some ⟨g, 0, none⟩, cp, rfl, fun k hk => ?_, HB2.out⟩
    have hls : (sortZ (zsOf f len)).length = len := by rw [(sortZ_perm _).length_eq, zsOf_length]
    have hc := (HO2.out.cell (k := k) (by rw [hls]; exact hk)).1
    refine ⟨g, 0, rfl, by rw [Nat.zero_add]; exact hc, ?_⟩
    have hm : (sortZ (zsOf f len)).getD k 0 ∈ zsOf f len := by
      rw [← (sortZ_perm (zsOf f len)).mem_iff]
      rw [List.getD_eq_getElem?_getD, List.getElem?_eq_getElem (by rw [hls]; exact hk)]
      exact List.getElem_mem _
    obtain ⟨u, hu, e⟩ := zsOf_mem.1 hm
    have h2 := HF.out u hu
    rw [e] at h2
    exact h2
end Go.Proofs.YtiifmdgcnpdibaaDoor
