/-
  Walks of package runs: history.
-/
import Derived.Test.YtgnkeecjaffnaaaProg
import Derived.Test.YtgnkeecjaffnaaaBase
import Derived.Test.YtgnkeecjaffnaaaRow
import Derived.Test.YtgnkeecjaffnaaaRowsOf
import Derived.Test.YtgnkeecjaffnaaaPc
import Derived.Test.YtgnkeecjaffnaaaPd
import Derived.Test.YtgnkeecjaffnaaaPrI
import Derived.Test.YtgnkeecjaffnaaaPrL
import Derived.Test.YtgnkeecjaffnaaaShelf
import Derived.Test.YtgnkeecjaffnaaaQcC
import Derived.Deep.DeepCutAuto
import Derived.Lib.SlBuf
import Derived.Lib.SlicesCompact
import Derived.Sort.OwnSortedInts
namespace Go.Proofs.Ytgnkeecjaffnaaa
open Go.RowKit

def intLs (l : List Int) : List Value := l.map (Value.int .i64)
/-- A slice of ints that lies in a block of its own from a block on, read. -/
def HisR (w : World) (lo : Nat) (v : Value) (l : List Int) : Prop := ∃ g cap, v = .slice (some ⟨g, 0, none⟩) l.length cap ∧ lo ≤ g ∧ g < w.heap.size ∧ ∀ k, k < l.length → w.cell? ⟨g, k, none⟩ = some (.int .i64 (l.getD k 0))
theorem HisR.below {w w1 : World} {lo : Nat} {v : Value} {l : List Int} (h : HisR w lo v l) (hb : Below w.heap.size w w1) : HisR w1 lo v l := by
  obtain ⟨g, cap, e, h1, h2, h3⟩ := h
  exact ⟨g, cap, e, h1, Nat.lt_of_lt_of_le h2 hb.size, fun k hk => cell_below hb (h3 k hk)⟩
theorem HisR.grown {w w1 : World} {lo b : Nat} {v : Value} {l : List Int} (h : HisR w lo v l) (hg : w.grownBy w1 (some b)) (hb : b < lo) : HisR w1 lo v l := by
  obtain ⟨g, cap, e, h1, h2, h3⟩ := h
  exact ⟨g, cap, e, h1, Nat.lt_of_lt_of_le h2 hg.size, fun k hk => (hg.cell_far ⟨g, k, none⟩ h2 (fun e => by injection e with e; have : g = b := e; omega)).trans (h3 k hk)⟩
theorem HisR.i64s {w : World} {lo : Nat} {v : Value} {l : List Int} (h : HisR w lo v l) (hr : ∀ x, x ∈ l → -9223372036854775808 ≤ x ∧ x ≤ 9223372036854775807) : ∃ A c, v = .slice A l.length c ∧ I64s w A l.length (fun k => l.getD k 0) := by
  obtain ⟨g, cap, e, h1, h2, h3⟩ := h
  refine ⟨_, cap, e, fun k hk => ⟨g, 0, rfl, by rw [Nat.zero_add]; exact h3 k hk, ?_⟩⟩
  show _ ≤ l.getD k 0 ∧ l.getD k 0 ≤ _
  rw [List.getD_eq_getElem?_getD, List.getElem?_eq_getElem hk]
  exact hr _ (List.getElem_mem _)
theorem compactO (w0 w : World) (v : Value) (l : List Int) (hb : Below w0.heap.size w0 w) (h : w.ownsRow w0.heap.size 3 1 v l.length (intLs l)) (h0 : 0 < l.length) (hl : l.length ≤ 65536) :
    Calls Try.prog 80 #[v] w fun e w' => ∃ u, e = .returned u ∧ HisR w' w0.heap.size u (Lib.compact l) ∧ Below w0.heap.size w0 w' := by
  rcases h.2 with ⟨_, hn⟩ | ⟨g, cap, cur, rfl, hg, hh, h1, h2, h3, h4⟩
  · omega
  have hcl : ∀ k, k < l.length → w.cell? ⟨g, k, none⟩ = some (.int .i64 (l.getD k 0)) ∧ w.frozen? ⟨g, k, none⟩ = false := fun k hk => by
    have := holds_of_blockI hh (by rw [Nat.mul_one] at h4; exact h4) k (by simpa using hk)
    rw [Nat.zero_add] at this
    exact ⟨by rw [this.1]; simp [hk], this.2⟩
  refine (Try.slices_Compact_int_cells g 0 l.length cap l w (Nat.le_refl _) (by omega) h1 (fun j hj => by rw [Nat.zero_add]; exact (hcl j hj).1) (fun j hj => by rw [Nat.zero_add]; exact (hcl j hj).2)).mono ?_
  rintro e w' ⟨rfl, q, rfl⟩
  rw [List.take_of_length_le (Nat.le_refl _)]
  have hle := Lib.compact_length_le l
  have hgs := (Array.getElem?_eq_some_iff.1 hh).1
  refine ⟨_, rfl, ⟨g, cap, rfl, hg, Nat.lt_of_lt_of_le hgs (Lib.below_setCells (B := g) _ (Nat.le_refl g) _ _ (below_drewN (Below.refl g w) q)).size, fun k hk => ?_⟩, Lib.below_setCells _ hg _ _ (below_drewN hb q)⟩
  rw [← Nat.zero_add k]
  rw [World.cell?_setCells_in _ _ _ _ (fun j hj => ?_) k (by simp; omega)]
  · rw [Nat.zero_add]; simp [hk]
  · simp at hj
    have := (hcl j (by omega)).1
    show (w.cell? ⟨g, 0 + j, none⟩).isSome = true
    rw [Nat.zero_add, this]; rfl
/-- The states of an agent up to a time. -/
def hisL (L : Nat → Nat → Nat → Int) (r t g : Nat) : List Int := (List.range (t + 1)).map fun j => L r j g
set_option maxHeartbeats 2000000 in
theorem history_any (a f l : Int) (n r t g : Nat) (A : Option Addr) (c : Nat) (T : Nat → Nat) (m : Nat → Nat → Nat) (L : Nat → Nat → Nat → Int) (K : Nat → Nat) (F : Nat → Nat → Nat) (w : World) (h : RunsR w A n T m L K F) (_hn : n ≤ 65536) (hr : r < n) (ht : t < T r) (hg : ∀ j, j ≤ t → g < m r j) :
    Calls Try.prog 69 #[.agg #[.int .i64 a, .int .i64 f, .int .i64 l, .slice A n c], .int .i64 g, .agg #[.int .i64 r, .int .i64 t]] w fun e w' => ∃ u, e = .returned u ∧ HisR w' w.heap.size u (Lib.compact (hisL L r t g)) ∧ Below w.heap.size w w' := by
  obtain ⟨W, hW⟩ : ∃ W, W = (w.alloc (.cells #[.int .i64 a, .int .i64 f, .int .i64 l, .slice A n c] 44)).alloc (.cells #[.int .i64 r, .int .i64 t] 94) := ⟨_, rfl⟩
  obtain ⟨k0, k1, hB⟩ := two_boxes4 w _ _ _ _ W hW
  obtain ⟨b, off, u, v, rfl, c0, c1, hT, hK, Au, cu, Bv, dv, Ru, ccu, euv, hM, hU⟩ := h.below hB r hr
  obtain ⟨rfl, rfl⟩ : u = .slice Au (T r) cu ∧ v = .slice Bv (K r) dv := by simpa using euv
  have d3 := k0.cell (k := 3) rfl
  have p0 := k1.cell (k := 0) rfl
  have p1 := k1.cell (k := 1) rfl
  obtain ⟨TT, eTT⟩ : ∃ k, k = T r := ⟨_, rfl⟩
  rw [← eTT] at c0 ht hT hM
  have HM := Lib.hid hM
  have HG := Lib.hid hg
  have HB := Lib.hid hB
  have HW := Lib.hid hW
  have D3 := Lib.hid d3
  have P0 := Lib.hid p0
  have C0 := Lib.hid c0
  have hrn : (r : Int) < (n : Int) := by omega
  have hw1 : IntKind.i64.wrap ((t : Int) + 1) = (t : Int) + 1 := by rw [IntKind.wrap_i64]; omega
  clear k0 k1 hB hW hM hU eTT euv c1 hg h
  go_enter Try.func69, Try.ntmps69
  go_upto_region 1 with (fail)
  rw [← HW.out]
  clear HW
  obtain ⟨bp, ebp⟩ : ∃ b, b = w.heap.size + 1 := ⟨_, rfl⟩
  rw [← ebp] at p0 p1 P0 ⊢
  obtain ⟨bs, ebs⟩ : ∃ b, b = w.heap.size := ⟨_, rfl⟩
  rw [← ebs] at d3 D3 ⊢
  obtain ⟨q, eq⟩ : ∃ q, q = t + 1 := ⟨_, rfl⟩
  have hqi : (t : Int) + 1 = (q : Int) := by omega
  have hw2 : IntKind.i64.wrap ((t : Int) + 1) = (q : Int) := by rw [hw1, hqi]
  have EQ := Lib.hid eq
  clear ebp ebs hw1 eq
  go_wp2_with fail
  clear p0 p1 d3 c0 hw2
  go_loopw [7, 12] (fun lv jv wr => ∃ j : Nat, j ≤ q ∧ jv = .int .i64 j ∧ wr.ownsRow W.heap.size 3 1 lv j (i64L (fun k => L r k g) j) ∧ Below W.heap.size W wr) (fun _ jv _ => q - (intOf jv).toNat)
  case atStart => exact ⟨0, Nat.zero_le _, rfl, World.ownsRow_nil _ _ _ _, Below.refl _ _⟩
  case round =>
    obtain ⟨j, hj, rfl, ho, hb⟩ := hrel
    have HO := Lib.hid ho
    have HBX := Lib.hid hb
    by_cases hlt : j < q
    · obtain ⟨b1, off1, rfl, c2, hm, hI⟩ := (HM.out.below hb) j (by have := EQ.out; omega)
      obtain ⟨b2, off2, eR, c3, h3, h4⟩ := hI g (HG.out j (by have := EQ.out; omega))
      have hgm0 := HG.out j (by have := EQ.out; omega)
      have d3 := cell_below hb D3.out
      have p0 := cell_below hb P0.out
      have c0 := cell_below hb C0.out
      obtain ⟨x, ex⟩ : ∃ x, x = L r j g := ⟨_, rfl⟩
      rw [← ex] at c3
      obtain ⟨k, ek⟩ : ∃ k, k = ccu j := ⟨_, rfl⟩
      obtain ⟨mm, emm⟩ : ∃ k, k = m r j := ⟨_, rfl⟩
      rw [eR, ← ek, ← emm] at c2
      rw [← emm] at hgm0
      have hjT : (j : Int) < (TT : Int) := by have := EQ.out; omega
      have hgm : (g : Int) < (mm : Int) := by omega
      have hjq : (j : Int) < (q : Int) := by omega
      have hsz := hb.size
      have EX := Lib.hid ex
      clear ho hb hI eR ex ek emm
      go_wp2_with (at_builtin; obtain ⟨i0, hi, hz0, hz1, hz2⟩ := info_parts Try.infoInt; refine wpList_append_own_at _ rfl _ _ 38 rfl W.heap.size 3 i0 (.int .i64 0) 1 8 Try.underlying38 hi hz0 hz1 hz2 rfl (by decide) _ _ _ rfl (own_alloc' HO.out _) ⟨wr.heap.size, 0, none⟩ 1 1 [.int .i64 x] rfl rfl (cell_one_new _ _ _) (one_oneCell rfl) (by unfold maxLen; omega) (by omega) (by simp; omega) ?_; intro v' w3 hown' hgrow _ _; have HOW3 := Lib.hid hown'; have HB3 := Lib.hid (below_append HBX.out rfl HO.out hgrow); clear hown' hgrow hi hz0 hz1 hz2)
      go_roundw
      case rel => exact ⟨j + 1, by omega, by go_num, by rw [i64L_succ, ← EX.out]; exact HOW3.out, HB3.out⟩
      case measure => simp [intOf]; omega
    · obtain rfl : j = q := by omega
      have hl : (hisL L r t g).length = j := by unfold hisL; simp [EQ.out]
      have hL : i64L (fun k => L r k g) j = intLs (hisL L r t g) := by unfold i64L intLs hisL; rw [← EQ.out, List.map_map]; rfl
      rw [hL] at ho
      have HC := Lib.hid (compactO W wr u7 (hisL L r t g) hb (by rw [hl]; exact ho) (by rw [hl]; omega) (by rw [hl]; omega))
      have hjj : ¬ (j : Int) < (j : Int) := by omega
      clear ho hb HO hl hL
      go_wp2_with (go_at_call 80; refine HC.out.mono ?_; rintro e w5 ⟨u5, rfl, hh, hb5⟩; have HH := Lib.hid hh; have HB5 := Lib.hid hb5; clear hh hb5)
      go_ret
      refine ⟨_, rfl, ?_, HB.out.trans (HB5.out.mono HB.out.size)⟩
      obtain ⟨g5, cap5, e5, h5, h6, h7⟩ := HH.out
      exact ⟨g5, cap5, e5, Nat.le_trans HB.out.size h5, h6, h7⟩
end Go.Proofs.Ytgnkeecjaffnaaa
