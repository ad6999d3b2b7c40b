/-
  Walks of package runs: Points, local.
-/
import Derived.Test.YtgnkeecjaffnaaaProg
import Derived.Test.YtgnkeecjaffnaaaBase
import Derived.Test.YtgnkeecjaffnaaaRow
import Derived.Test.YtgnkeecjaffnaaaRowsOf
import Derived.Test.YtgnkeecjaffnaaaPc
import Derived.Test.YtgnkeecjaffnaaaPd
import Derived.Test.YtgnkeecjaffnaaaPrI
import Derived.Test.YtgnkeecjaffnaaaPtQ
import Derived.Test.YtgnkeecjaffnaaaQcB
import Derived.Deep.DeepCutAuto
import Derived.Deep.RegionHeld3
namespace Go.Proofs.Ytgnkeecjaffnaaa
open Go.RowKit

theorem Try.infoPoint : (Try.prog.info? 94).map (fun i => (i.zero, i.size, i.bytes)) = some (some (.agg #[.int .i64 0, .int .i64 0]), 2, 16) := by kernel_rfl
/-- A list of points, owned. -/
def PnO (w : World) (base : Nat) (v : Value) (l : List (Nat × Nat)) : Prop := w.ownsRow base 94 2 v l.length (crL l)
theorem pnO_at {w : World} {base : Nat} {v : Value} {l : List (Nat × Nat)} (h : PnO w base v l) {k : Nat} {c : Nat × Nat} (hk : l[k]? = some c) : ∃ b cap, v = .slice (some ⟨b, 0, none⟩) l.length cap ∧ w.cell? ⟨b, k * 2, none⟩ = some (.int .i64 (c.1 : Nat)) ∧ w.cell? ⟨b, k * 2 + 1, none⟩ = some (.int .i64 (c.2 : Nat)) := by
  obtain ⟨A, cap, rfl, hA⟩ := own_form' h
  have hlt := (List.getElem?_eq_some_iff.1 hk).1
  obtain ⟨b, rfl, _, _, h1⟩ := hA (k * 2) (by omega)
  obtain ⟨b', e, _, _, h2⟩ := hA (k * 2 + 1) (by omega)
  injection e with e
  injection e with e _ _
  subst e
  obtain ⟨g1, g2⟩ := crL_get l k c hk
  exact ⟨b, cap, rfl, h1.trans g1, h2.trans g2⟩
theorem PnO.below {w w1 : World} {base : Nat} {v : Value} {l : List (Nat × Nat)} (h : PnO w base v l) (hb : Below w.heap.size w w1) : PnO w1 base v l := own_keeps h (Keeps.of_below hb _)
theorem PnO.shape {w : World} {base : Nat} {v : Value} {l : List (Nat × Nat)} (h : PnO w base v l) : ∃ A c, v = .slice A l.length c := by
  obtain ⟨A, c, e, _⟩ := own_form' h
  exact ⟨A, c, e⟩
/-- The points of the first i runs, and of the next one the first t. -/
def ptU (l i t : Nat) : List (Nat × Nat) := ((List.range i).flatMap fun r => (List.range l).map fun t => (r, t)) ++ (List.range t).map fun t => (i, t)
def ptL (n l : Nat) : List (Nat × Nat) := (List.range n).flatMap fun r => (List.range l).map fun t => (r, t)
theorem ptU_step (l i t : Nat) : ptU l i (t + 1) = ptU l i t ++ [(i, t)] := by unfold ptU; rw [List.range_succ, List.map_append, List.append_assoc]; rfl
theorem ptU_row (l i : Nat) : ptU l i l = ptU l (i + 1) 0 := by unfold ptU; rw [List.range_succ, List.flatMap_append]; simp
theorem ptU_end (n l : Nat) : ptU l n 0 = ptL n l := by unfold ptU ptL; simp
theorem ptU_len (l i t : Nat) : (ptU l i t).length = i * l + t := by
  unfold ptU
  rw [List.length_append, List.length_map, List.length_range]
  congr 1
  induction i with
  | zero => simp
  | succ i ih => rw [List.range_succ, List.flatMap_append, List.length_append, ih, Nat.succ_mul]; simp
theorem ptL_len (n l : Nat) : (ptL n l).length = n * l := by rw [← ptU_end, ptU_len]; omega
theorem ptL_mem {n l : Nat} {p : Nat × Nat} : p ∈ ptL n l ↔ p.1 < n ∧ p.2 < l := by
  unfold ptL
  simp only [List.mem_flatMap, List.mem_range, List.mem_map]
  constructor
  · rintro ⟨r, hr, t, ht, rfl⟩; exact ⟨hr, ht⟩
  · rintro ⟨h1, h2⟩; exact ⟨p.1, h1, p.2, h2, rfl⟩
set_option maxHeartbeats 2000000 in
theorem Points_any (x : Value) (a f l : Int) (n : Nat) (T : Nat → Nat) (m : Nat → Nat → Nat) (L : Nat → Nat → Nat → Int) (K : Nat → Nat) (F : Nat → Nat → Nat) (w : World) (h : SysR w x a f l n T m L K F) (hn : n ≤ 65536) (hE : chkE a f l n T m K F = 0) :
    Calls Try.prog 67 #[x] w fun e w' => ∃ v, e = .returned v ∧ PnO w' w.heap.size v (ptL n l.toNat) ∧ Below w.heap.size w w' := by
  obtain ⟨-, -, hl, hn64, h512, -, -, -⟩ := chkE_ok hE
  have HCK := Lib.hid (fun W (h : SysR W x a f l n T m L K F) => rCheckS_any x a f l n T m L K F W h hn)
  rw [hE] at HCK
  have HS := Lib.hid h
  obtain ⟨A, c, rfl, hR⟩ := h
  obtain ⟨l', rfl⟩ : ∃ N : Nat, l = N := ⟨l.toNat, by omega⟩
  have hl16 : l' ≤ 16 := by omega
  have HB := Lib.hid (below_alloc w (.cells #[.int .i64 a, .int .i64 f, .int .i64 l', .slice A n c] 44))
  have HK := Lib.hid (Blk.new w #[.int .i64 a, .int .i64 f, .int .i64 l', .slice A n c] 44)
  clear hR hE h512 hl
  rw [Int.toNat_natCast]
  go_enter Try.func67, Try.ntmps67
  go_upto_region 1 with (fail)
  generalize w.alloc (.cells #[.int .i64 a, .int .i64 f, .int .i64 l', .slice A n c] 44) = W at HB HK ⊢
  have d0 := HK.out.cell (k := 0) rfl
  have d1 := HK.out.cell (k := 1) rfl
  have d2 := HK.out.cell (k := 2) rfl
  have d3 := HK.out.cell (k := 3) rfl
  have HSW : Hid (SysR W (.agg #[.int .i64 a, .int .i64 f, .int .i64 l', .slice A n c]) a f l' n T m L K F) := Lib.hid (by
    obtain ⟨A', c', e, hr⟩ := HS.out
    exact ⟨A', c', e, hr.below HB.out⟩)
  go_upto_region 4 with (go_at_call 39; refine (HCK.out _ HSW.out).mono ?_; rintro e w1 ⟨rfl, hb1⟩; have HK := Lib.hid (HK.out.below hb1); have HB := Lib.hid (HB.out.trans (hb1.mono HB.out.size)); clear hb1)
  have d2 := HK.out.cell (k := 2) rfl
  have d3 := HK.out.cell (k := 3) rfl
  have D2 := Lib.hid d2
  have hsw := HB.out.size
  obtain ⟨V, eW⟩ : ∃ V, V = w1 := ⟨_, rfl⟩
  subst eW
  clear HSW HCK d0 d1 HS
  go_wp2_with fail
  clear d2 d3
  go_loopw [3, 12] (fun lv iv wr => ∃ i : Nat, i ≤ n ∧ iv = .int .i64 i ∧ PnO wr V.heap.size lv (ptU l' i 0) ∧ Below V.heap.size V wr) (fun _ iv _ => n - (intOf iv).toNat)
  case atStart => exact ⟨0, Nat.zero_le _, rfl, by unfold ptU; exact World.ownsRow_nil _ _ _ _, Below.refl _ _⟩
  case round =>
    obtain ⟨i, hi, rfl, ho, hb⟩ := hrel
    have HO := Lib.hid ho
    have HBX := Lib.hid hb
    by_cases hlt : i < n
    · have hii : (i : Int) < (n : Int) := by omega
      have d2 := cell_below hb D2.out
      have hnl : n * l' ≤ 64 * 16 := Nat.mul_le_mul hn64 hl16
      clear ho hb
      go_wp2_with fail
      go_loopw [3, 17] (fun lv tv wr => ∃ t : Nat, t ≤ l' ∧ tv = .int .i64 t ∧ PnO wr V.heap.size lv (ptU l' i t) ∧ Below V.heap.size V wr) (fun _ tv _ => l' - (intOf tv).toNat)
      case atStart => exact ⟨0, Nat.zero_le _, rfl, HO.out, HBX.out⟩
      case round =>
        clear HO HBX
        obtain ⟨t, ht, rfl, ho, hb⟩ := hrel
        have HO := Lib.hid ho
        have HBX := Lib.hid hb
        by_cases hlu : t < l'
        · have htt : (t : Int) < (l' : Int) := by omega
          have hlen := ptU_len l' i t
          have h1 : (i + 1) * l' ≤ n * l' := Nat.mul_le_mul_right l' hlt
          rw [Nat.succ_mul] at h1
          obtain ⟨N, eN⟩ : ∃ N, N = (ptU l' i t).length := ⟨_, rfl⟩
          rw [← eN] at hlen
          have hN : N ≤ 2000 := by omega
          unfold PnO at ho
          rw [← eN] at ho
          have HO2 := Lib.hid ho
          have EN := Lib.hid eN
          have hsz := hb.size
          have HST := Lib.hid (ptU_step l' i t)
          clear ho hb hlen eN h1 HO
          go_wp2_with (at_builtin; obtain ⟨i0, hi, hz0, hz1, hz2⟩ := info_parts Try.infoPoint; refine wpList_append_own_at _ rfl _ _ 91 rfl V.heap.size 94 i0 _ 2 16 Try.underlying91 hi hz0 hz1 hz2 rfl (by decide) _ _ _ rfl (own_alloc' HO2.out _) ⟨wr.heap.size, 0, none⟩ 1 1 [.int .i64 i, .int .i64 t] rfl rfl (World.news_of_block (cs := #[.int .i64 i, .int .i64 t]) (t := 94) (fr := (0, 0)) (heap_alloc_new wr _)) (by simp [Value.oneCell']) (by unfold maxLen; omega) (by omega) (by simp; omega) ?_; intro v' w3 hown' hgrow _ _; have HOW3 := Lib.hid hown'; have HB3 := Lib.hid (below_append HBX.out rfl HO2.out hgrow); clear hown' hgrow hi hz0 hz1 hz2)
          go_roundw
          case rel =>
            refine ⟨t + 1, by omega, by go_num, ?_, HB3.out⟩
            unfold PnO
            rw [HST.out, crL_snoc, List.length_append, ← EN.out]
            exact HOW3.out
          case measure => simp [intOf]; omega
        · obtain rfl : t = l' := by omega
          have HO2 := Lib.hid ho
          rw [ptU_row] at HO2
          have htt : ¬ (t : Int) < (t : Int) := by omega
          clear ho hb HO
          go_wp2_with fail
          go_roundw
          case rel => exact ⟨i + 1, by omega, by go_num, HO2.out, HBX.out⟩
          case measure => simp [intOf]; omega
    · obtain rfl : i = n := by omega
      have HO2 := Lib.hid ho
      rw [ptU_end] at HO2
      have hii : ¬ (i : Int) < (i : Int) := by omega
      clear ho hb HO
      go_wp2_with fail
      go_ret
      exact ⟨_, rfl, own_mono' HO2.out hsw, HB.out.trans (HBX.out.mono HB.out.size)⟩
set_option maxHeartbeats 2000000 in
theorem local_any (a f l : Int) (n r t g : Nat) (A : Option Addr) (c : Nat) (T : Nat → Nat) (m : Nat → Nat → Nat) (L : Nat → Nat → Nat → Int) (K : Nat → Nat) (F : Nat → Nat → Nat) (w : World) (h : RunsR w A n T m L K F) (_hn : n ≤ 65536) (hr : r < n) (ht : t < T r) (hg : g < m r t) :
    Calls Try.prog 68 #[.agg #[.int .i64 a, .int .i64 f, .int .i64 l, .slice A n c], .int .i64 g, .agg #[.int .i64 r, .int .i64 t]] w fun e w' => e = .returned (.int .i64 (L r t g)) ∧ Below w.heap.size w w' := by
  obtain ⟨W, hW⟩ : ∃ W, W = (w.alloc (.cells #[.int .i64 a, .int .i64 f, .int .i64 l, .slice A n c] 44)).alloc (.cells #[.int .i64 r, .int .i64 t] 94) := ⟨_, rfl⟩
  obtain ⟨k0, k1, hB⟩ := two_boxes4 w _ _ _ _ W hW
  obtain ⟨b, off, u, v, rfl, c0, c1, hT, hK, Au, cu, Bv, dv, Ru, ccu, euv, hM, hU⟩ := h.below hB r hr
  obtain ⟨rfl, rfl⟩ : u = .slice Au (T r) cu ∧ v = .slice Bv (K r) dv := by simpa using euv
  obtain ⟨b1, off1, rfl, c2, hm, hI⟩ := hM t ht
  obtain ⟨b2, off2, eR, c3, h3, h4⟩ := hI g hg
  have d3 := k0.cell (k := 3) rfl
  have p0 := k1.cell (k := 0) rfl
  have p1 := k1.cell (k := 1) rfl
  obtain ⟨x, ex⟩ : ∃ x, x = L r t g := ⟨_, rfl⟩
  rw [← ex] at c3 ⊢
  obtain ⟨k, ek⟩ : ∃ k, k = ccu t := ⟨_, rfl⟩
  obtain ⟨mm, emm⟩ : ∃ k, k = m r t := ⟨_, rfl⟩
  obtain ⟨TT, eTT⟩ : ∃ k, k = T r := ⟨_, rfl⟩
  rw [eR, ← ek, ← emm] at c2
  rw [← eTT] at c0 ht hT
  rw [← emm] at hg
  have hrn : (r : Int) < (n : Int) := by omega
  have htT : (t : Int) < (TT : Int) := by omega
  have hgm : (g : Int) < (mm : Int) := by omega
  have HB := Lib.hid hB
  have HW := Lib.hid hW
  clear k0 k1 hB hW hM hU hI eR ex ek emm eTT euv c1
  go_enter Try.func68, Try.ntmps68
  go_upto_region 1 with (fail)
  rw [← HW.out]
  clear HW
  go_quiet (fail)
  go_wp2_with fail
  go_ret
  exact ⟨rfl, below_drewN HB.out _⟩
end Go.Proofs.Ytgnkeecjaffnaaa
