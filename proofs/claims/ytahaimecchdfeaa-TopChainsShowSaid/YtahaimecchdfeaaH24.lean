/-
  Texts of this claim, one after the other: what each proves is said at its head. No condition beyond those that its theorems name.
-/
import Derived.RangeFuncNested
import Derived.RangeFuncBound
import Derived.RangeFuncCalls
import Derived.RangeFuncLeaves
import Derived.Shelf.Abstract
import Derived.Shelf.RegionOpen
import Derived.WalkKit
import Derived.OwnWalkIn
import Derived.TacticsInMore
import Derived.LoopNIn
import Derived.LoopIn
import Derived.BigRegionIn
import Derived.Sort.QuietIn
import Derived.Sort.CutIn
import Derived.Test.YtahaimecchdfeaaProg
import Derived.Test.YtahaimecchdfeaaH01
import Derived.Test.YtahaimecchdfeaaH02
import Derived.Test.YtahaimecchdfeaaH03
import Derived.Test.YtahaimecchdfeaaH09
import Derived.Test.YtahaimecchdfeaaH12
import Derived.Test.YtahaimecchdfeaaH15
import Derived.Test.YtahaimecchdfeaaH19
import Derived.Test.YtahaimecchdfeaaH22

/-
  Walks of package attack: component.
-/
namespace Go.Proofs.Ytahaimecchdfeaa
open Go.RowKit Go.Shelf
attribute [local go_sem] Oper.semAt_some

theorem mem_alkL {a : Nat} {L : Nat → Nat → Nat → Int} {pts : List (Nat × Nat)} {i k : Nat} : k ∈ alkL a L pts i ↔ akB a L pts i k = true := by
  unfold alkL akB idA ptG
  simp only [List.mem_flatMap, List.mem_range, List.mem_filter, Bool.and_eq_true, decide_eq_true_eq, List.any_eq_true]
  constructor
  · rintro ⟨g, h1, h2, h3⟩; exact ⟨h2, g, h1, h3⟩
  · rintro ⟨h2, g, h1, h3⟩; exact ⟨g, h1, h2, h3⟩
theorem alkL_lt {a : Nat} {L : Nat → Nat → Nat → Int} {pts : List (Nat × Nat)} {i k : Nat} (h : k ∈ alkL a L pts i) : k < pts.length := by
  have := mem_alkL.1 h
  unfold akB at this
  simp at this
  exact this.1
theorem Try.infoBool : (Try.prog.info? 4).map (fun i => (i.zero, i.size, i.bytes)) = some (some (.bool false), 1, 1) := by kernel_rfl
/-- What lies in memory while the points that are reached are looked for. -/
structure CmpI (w W : World) (gF bF bT N : Nat) (S : Nat → Bool) (q : List Nat) (v : Value) : Prop where
  below : Below w.heap.size w W
  row : Blk W gF 4 (boolA S N)
  box : Blk W bF 65 #[.slice (some ⟨gF, 0, none⟩) N N]
  todo : Blk W bT 75 #[v]
  que : QueR W w.heap.size v q
  hF : w.heap.size ≤ gF
  hT : w.heap.size ≤ bT
theorem CmpI.kept {w W W' : World} {gF bF bT N : Nat} {S : Nat → Bool} {q : List Nat} {v : Value} (h : CmpI w W gF bF bT N S q v) (hb : Below W.heap.size W W') : CmpI w W' gF bF bT N S q v :=
  ⟨below_trans h.below hb, h.row.below hb, h.box.below hb, h.todo.below hb, h.que.below hb, h.hF, h.hT⟩
theorem CmpI.rows {w W W' : World} {gF bF bT N : Nat} {S : Nat → Bool} {q : List Nat} {v : Value} (h : CmpI w W gF bF bT N S q v) (hk : KeepRow W W' none) (hb : Below w.heap.size w W') : CmpI w W' gF bF bT N S q v :=
  ⟨hb, h.row.keepRow hk, h.box.keepRow hk, h.todo.keepRow hk, h.que.keepRow hk, h.hF, h.hT⟩
theorem CmpI.push {w W W1 W2 W3 : World} {gF bF bT N k B1 B2 : Nat} {S : Nat → Bool} {q : List Nat} {v v' : Value} (h : CmpI w W gF bF bT N S q v) (hk : k < N) (h1 : gF < B1) (h2 : bT < B1) (h3 : ∀ g, v.ownBlock = some g → g < B1 ∨ B2 ≤ g) (h4 : B2 ≤ W.heap.size)
    (e1 : W1 = W.setCell ⟨gF, k, none⟩ (.bool true)) (e2 : W2 = W1.alloc (.cells #[.int .i64 k] 3)) (hq : QueR W3 w.heap.size v' (q ++ [k])) (hg : W2.grownBy W3 v.ownBlock) (hn : ∀ g, v'.ownBlock = some g → v.ownBlock = some g ∨ W2.heap.size ≤ g) :
    (W3.cell? ⟨bT, 0, none⟩ = some v ∧ W3.frozen? ⟨bT, 0, none⟩ = false) ∧ CmpI w (W3.setCell ⟨bT, 0, none⟩ v') gF bF bT N (fun x => S x || x == k) (q ++ [k]) v' ∧ KpA w.heap.size B1 B2 W (W3.setCell ⟨bT, 0, none⟩ v') ∧ KeepsOthers W (W3.setCell ⟨bT, 0, none⟩ v') ∧ (∀ g, v'.ownBlock = some g → g < B1 ∨ B2 ≤ g) := by
  have a1 : Blk W1 gF 4 (boolA (fun x => S x || x == k) N) := by
    have := h.row.set k (.bool true)
    rw [← e1, boolA_set (S' := fun x => S x || x == k) hk (fun j _ => by
      by_cases e : j = k
      · rw [if_pos e]; subst e; simp
      · rw [if_neg e]; simp [e])] at this
    exact this
  have nTF := h.todo.ne h.row (by decide)
  have nBF := h.box.ne h.row (by decide)
  have nBT := h.box.ne h.todo (by decide)
  have a2 : Blk W1 bF 65 #[.slice (some ⟨gF, 0, none⟩) N N] := by rw [e1]; exact h.box.set_ne nBF _ _
  have a3 : Blk W1 bT 75 #[v] := by rw [e1]; exact h.todo.set_ne nTF _ _
  have a4 : QueR W1 w.heap.size v q := by rw [e1]; exact h.que.keeps (Keeps.of_set h.row (by decide) _ _)
  have hb2 := below_alloc W1 (.cells #[.int .i64 k] 3)
  rw [← e2] at hb2
  have b1 := a1.below hb2
  have b2 := a2.below hb2
  have b3 := a3.below hb2
  have b4 := a4.below hb2
  have c1 := b1.kept hg (b4.ne_blk b1 (by decide))
  have c2 := b2.kept hg (b4.ne_blk b2 (by decide))
  have c3 := b3.kept hg (b4.ne_blk b3 (by decide))
  have s1 : W1.heap.size = W.heap.size := by rw [e1]; simp
  have s2 : W2.heap.size = W.heap.size + 1 := by rw [e2]; simp [s1]
  have k1 : W.grownBy W1 (some gF) := by rw [e1]; exact gr_set W gF k _
  have k3 := gr_set W3 bT 0 v'
  have hlow : ∀ C, C ≤ W.heap.size → Below C W W1 → Below C W2 W3 → Below C W W3 := fun C hC x y => x.trans ((hb2.mono (by rw [s1]; exact hC)).trans y)
  have d1 : Below w.heap.size W W3 := hlow _ h.below.size ((Below.refl _ W).grown k1 h.below.size (fun g e => by cases e; exact h.hF)) ((Below.refl _ W2).grown hg (by rw [s2]; have := h.below.size; omega) (fun g e => (b4.lt e).1))
  have d2 : Below w.heap.size W3 (W3.setCell ⟨bT, 0, none⟩ v') := (Below.refl _ W3).setCell (p := ⟨bT, 0, none⟩) h.hT _
  have hsz := h.below.size
  refine ⟨⟨c3.cell rfl, c3.frozen⟩, ⟨(h.below.trans d1).trans d2, c1.set_ne nTF.symm _ _, c2.set_ne nBT _ _, c3.set 0 v', hq.keeps (Keeps.of_set c3 (by decide) _ _), h.hF, h.hT⟩, ⟨d1.trans d2, fun b x y => ?_⟩, ?_, fun g hg' => ?_⟩
  · have hbW : b < W.heap.size := by omega
    rw [k3.block b (by have := hg.size; omega) (fun e => by injection e with e; omega), hg.block b (by omega) (fun e => by rcases h3 b e.symm with u | u <;> omega), hb2.block b (by omega), k1.block b hbW (fun e => by injection e with e; omega)]
  · have o1 : KeepsOthers W W1 := by rw [e1]; exact KeepsOthers.setCell _ _ _
    have o2 : KeepsOthers W1 W2 := by rw [e2]; exact KeepsOthers.alloc _ _
    refine KeepsOthers.trans (KeepsOthers.trans (o1.trans o2) (KeepsOthers.of_grownBy hg fun j o e hj => ?_)) (KeepsOthers.setCell _ _ _)
    obtain ⟨g, off, cap, cur, rfl, -, hh, -⟩ := b4
    injection e with e
    subst e
    rw [hh] at hj
    injection hj with hj
    subst hj
    rfl
  · rcases hn g hg' with u | u
    · exact h3 g u
    · right; omega
theorem CmpI.turn {w W : World} {gF bF bT N : Nat} {S : Nat → Bool} {q q' : List Nat} {v v' : Value} (h : CmpI w W gF bF bT N S q v) (hq : QueR W w.heap.size v' q') : CmpI w (W.alloc (.cells #[v'] 75)) gF bF W.heap.size N S q' v' := by
  have hb := below_alloc W (.cells #[v'] 75)
  have h1 := h.kept hb
  exact ⟨h1.below, h1.row, h1.box, Blk.new W #[v'] 75, hq.below hb, h.hF, h.below.size⟩
theorem CmpI.own {β : Type} {w : World} {gF bF bT N B : Nat} {S : β → Nat → Bool} {q : β → List Nat} {p : β → Value → Prop} (hB : w.heap.size ≤ B) : OwnFrom B (fun s W => ∃ v, CmpI w W gF bF bT N (S s) (q s) v ∧ p s v) :=
  ownFrom_rows hB (fun _ _ ⟨_, h, _⟩ => h.below.size) fun _ _ _ hk hb ⟨v, h, hp⟩ => ⟨v, h.rows hk (h.below.trans hb), hp⟩
set_option maxHeartbeats 8000000 in
set_option maxRecDepth 100000 in
theorem component_any (i : Nat) (w : World) (bx bM a l n c : Nat) (f : Int) (A : Option Addr) (T : Nat → Nat) (m : Nat → Nat → Nat) (L : Nat → Nat → Nat → Int) (K : Nat → Nat) (F : Nat → Nat → Nat) (vP : Value) (hs : SpV w bx bM a l n f A c T m L K F vP) (hi : i < (ptL n l).length) :
    Calls Try.prog 42 #[.pointer (some ⟨bx, 0, none⟩), .int .i64 i] w fun e w' => ∃ v, e = .returned v ∧ OwnN w' w.heap.size v (cmpL (akB a L (ptL n l)) (ptL n l).length i) ∧ Below w.heap.size w w' := by
  have HSV := Lib.hid hs
  obtain ⟨base, hpts⟩ := hs.pts
  obtain ⟨Ap, cp, rfl⟩ := hpts.shape
  have hpl : (ptL n l).length ≤ 1024 := by
    have h1 := (chkE_ok hs.chk).2.2.1
    have h2 := (chkE_ok hs.chk).2.2.2.1
    rw [ptL_len]
    exact Nat.le_trans (Nat.mul_le_mul h2 (show l ≤ 16 by omega)) (by decide)
  have b4 := hs.box.cell (k := 4) rfl
  obtain ⟨NP, eNP⟩ : ∃ q, q = (ptL n l).length := ⟨_, rfl⟩
  rw [← eNP] at hpl hi b4 ⊢
  have ENP := Lib.hid eNP
  have hmk := fun w1 => run_make_row' (P := Try.prog) (w := w1) 65 4 (.bool false) 1 Try.underlying65 Try.infoBool rfl .i64 .i64 NP (by omega) (by omega)
  clear hs hpts eNP
  refine (callsIn_wide (n := 8)).1 ?_
  refine callsIn_of_wp_marks Try.func42 rfl trivial ?_ rfl
  simp only [Try.ntmps42, List.size_toArray, List.length_cons, List.length_nil, Nat.reduceAdd, Nat.reduceSub, Array.replicate_succ, Array.replicate_zero, List.push_toArray, List.append_toArray, List.nil_append, List.cons_append]
  gi_wp2
  obtain ⟨V, hV⟩ : ∃ V, V = (w.alloc (.cells (madeCells #[.bool false] NP) 4)).alloc (.cells #[.slice (some ⟨w.heap.size, 0, none⟩) NP NP] 65) := ⟨_, rfl⟩
  obtain ⟨hf0, hx0, hb0, hs0⟩ := two_allocs w _ _ _ _ V hV
  rw [← hV]
  obtain ⟨W0, hW0⟩ : ∃ W0, W0 = (V.alloc (.cells #[.int .i64 i] 3)).alloc (.cells #[.slice (some ⟨w.heap.size + 1 + 1, 0, none⟩) 1 1] 75) := ⟨_, rfl⟩
  obtain ⟨hq0, ht0, hb1, hs1⟩ := two_allocs V _ _ _ _ W0 hW0
  rw [hs0] at hq0 ht0 hs1
  rw [← hW0]
  clear hW0 hV hmk b4
  have hC0 : CmpI w W0 w.heap.size (w.heap.size + 1) (w.heap.size + 1 + 1 + 1) NP (fun _ => false) [i] (.slice (some ⟨w.heap.size + 1 + 1, 0, none⟩) 1 1) :=
    ⟨below_trans hb0 hb1, by rw [← madeCells_bool]; exact hf0.below hb1, hx0.below hb1, ht0, QueR.of_block hq0 (by omega), Nat.le_refl _, by omega⟩
  have HC0 := Lib.hid hC0
  obtain ⟨gF, egF⟩ : ∃ g, g = w.heap.size := ⟨_, rfl⟩
  rw [← egF] at HC0 ⊢
  have EGF := Lib.hid egF
  clear hf0 hx0 hb0 hs0 hq0 ht0 hb1 hs1 hC0 egF
  refine wpIn_loopM (fun mm a' W => ∃ (ds : List Deferred) (bT : Nat) (S : Nat → Bool) (q : List Nat) (vq u19 u20 u21 u22 u23 u24 u25 u26 u27 u28 u42 : Value), mm = unf NP S + q.length ∧ mm ≤ NP + 1 ∧ a' = { tmps := #[.pointer (some ⟨bx, 0, none⟩), .int .i64 i, undef, undef, .slice none 0 0, .pointer (some ⟨gF + 1, 0, none⟩), .pointer (some ⟨bT, 0, none⟩), undef, undef, undef, undef, .pointer (some ⟨bx, 0, none⟩), .pointer (some ⟨bx, 0, none⟩), .pointer (some ⟨bx, 4, none⟩), .slice Ap NP cp, .int .i64 NP, .slice (some ⟨gF, 0, none⟩) NP NP, .int .i64 i, .slice (some ⟨gF + 1 + 1, 0, none⟩) 1 1, u19, u20, u21, u22, u23, u24, u25, u26, u27, u28, undef, undef, undef, undef, undef, undef, undef, undef, undef, undef, undef, undef, undef, u42, undef, undef, undef, undef, undef, undef, undef, undef, undef, undef, undef, undef, undef, undef], defers := ds } ∧ CmpI w W gF (gF + 1) bT NP S q vq ∧ Marks w.heap.size ds W ∧ Bfs (akB a L (ptL n l)) NP i S q) ?start ?round
  case start => exact ⟨_, [], _, _, _, _, _, _, _, _, _, _, _, _, _, _, _, rfl, unf_start NP i, rfl, HC0.out, trivial, Bfs.start _ hi⟩
  case round =>
    clear HC0
    rintro mm a' W ⟨ds, bT, S, q, vq, u19, u20, u21, u22, u23, u24, u25, u26, u27, u28, u42, hmm, hm1, rfl, hC, hM, hB⟩
    have HC := Lib.hid hC
    have HM := Lib.hid hM
    have HBF := Lib.hid hB
    have HMM := Lib.hid hmm
    have t0 := hC.todo.cell (k := 0) rfl
    obtain ⟨g, off, cap, rfl⟩ := hC.que.shape
    cases q with
    | nil =>
      have HSL := Lib.hid (cmpL_eq (R := akB a L (ptL n l)) (N := NP) (i := i) (S := S) fun k _ => hB.end k)
      have x0 := hC.box.cell (k := 0) rfl
      have hsz := hC.below.size
      simp only [List.length_nil] at t0
      clear hC hM hB hmm
      gi_wp2
      gi_loopw [8, 45] (fun lv jv wr => ∃ j : Nat, j ≤ NP ∧ jv = .int .i64 j ∧ OwnN wr W.heap.size lv ((List.range j).filter S) ∧ Below W.heap.size W wr ∧ Marks w.heap.size ds wr) (fun _ jv _ => NP - (intOf jv).toNat)
      case atStart => exact ⟨0, Nat.zero_le _, rfl, OwnN.nil _ _, Below.refl _ _, HM.out⟩
      case round =>
        clear t0 x0
        obtain ⟨j, hj, rfl, ho, hb, hmk⟩ := hrel
        have HO := Lib.hid ho
        have HBW := Lib.hid hb
        have HMK := Lib.hid hmk
        by_cases hlt : j < NP
        · have hjj : (j : Int) < (NP : Int) := by omega
          have hsz2 := hb.size
          obtain ⟨ys, eys⟩ : ∃ ys, ys = (List.range j).filter S := ⟨_, rfl⟩
          have hyl : ys.length ≤ 1024 := by
            rw [eys]
            refine Nat.le_trans (List.length_filter_le _ _) ?_
            rw [List.length_range]
            omega
          rw [← eys] at HO
          have c1 : wr.cell? ⟨gF, j, none⟩ = some (.bool (S j)) := (HC.out.row.below hb).cell (boolA_get hlt)
          cases hSj : S j
          · have HE : Hid ((List.range (j + 1)).filter S = ys) := Lib.hid (by rw [List.range_succ, List.filter_append, List.filter_cons_of_neg (by simp [hSj]), eys]; simp)
            rw [hSj] at c1
            clear ho hb hmk eys hSj
            gi_wp2
            go_roundw
            case rel => exact ⟨j + 1, by omega, by go_num, by rw [HE.out]; exact HO.out, HBW.out, HMK.out⟩
            case measure => simp [intOf]; omega
          · have HE : Hid ((List.range (j + 1)).filter S = ys ++ [j]) := Lib.hid (by rw [List.range_succ, List.filter_append, List.filter_cons_of_pos hSj, eys]; simp)
            rw [hSj] at c1
            clear ho hb hmk eys hSj
            gi_wp2_with (gi_at_builtin; obtain ⟨i0, hinf, hz0, hz1, hz2⟩ := info_parts Try.infoInt; refine wpListIn_append_own _ rfl _ _ 75 rfl W.heap.size 3 i0 _ 1 8 Try.underlying75 hinf hz0 hz1 hz2 rfl (by decide) _ _ _ rfl (own_alloc' HO.out _) ⟨wr.heap.size, 0, none⟩ 1 1 [.int .i64 j] rfl rfl (World.news_of_block (cs := #[.int .i64 j]) (t := 3) (fr := (0, 0)) (heap_alloc_new wr _)) (by simp [Value.oneCell']) (by unfold maxLen; omega) (by omega) (by simp; omega) ?_; intro v' w3 hown' hgrow _; have HOW3 := Lib.hid hown'; have HB3 := Lib.hid (below_append HBW.out rfl HO.out hgrow); have HMK3 : Hid (Marks w.heap.size ds w3) := Lib.hid ((HMK.out.below (below_alloc wr (.cells #[.int .i64 j] 3))).kept fun D _ h2 _ => (KeepsOthers.of_grownBy hgrow (fun q o e hq => ownN_cells (own_alloc' HO.out _) e hq)).same D _ h2 rfl); clear hown' hgrow hinf hz0 hz1 hz2)
            go_roundw
            case rel => exact ⟨j + 1, by omega, by go_num, by rw [HE.out]; unfold OwnN natV at *; rw [List.length_append, List.map_append]; exact HOW3.out, HB3.out, HMK3.out⟩
            case measure => simp [intOf]; omega
        · obtain rfl : j = NP := by omega
          have hjj : ¬ (j : Int) < (j : Int) := by omega
          clear ho hb hmk
          gi_wp2
          change LeavesInM _ _ _ _ _ _ _ _ _
          refine leaves_marks (B := w.heap.size) _ _ HMK.out fun w2 hb3 hk3 => ?_
          refine ⟨_, by simp [results, Try.results42, go_sem]; rfl, _, rfl, ?_, ?_⟩
          · rw [← HSL.out]; exact (HO.out.keepRow hk3).mono hsz
          · exact (HC.out.below.trans (HBW.out.mono hsz)).trans hb3
    | cons j q =>
      have c0 := hC.que.head
      have hjN : j < NP := hB.lt j (by simp)
      have hBq := hC.below.size
      obtain ⟨ql, eql⟩ : ∃ ql, ql = q.length := ⟨_, rfl⟩
      have t1 : W.cell? ⟨bT, 0, none⟩ = some (.slice (some ⟨g, off, none⟩) (ql + 1) cap) := by rw [eql]; exact t0
      have hp1 : (0 : Int) < ((ql + 1 : Nat) : Int) := by omega
      have hp2 : (0 : Int) < (ql : Int) + 1 := by omega
      have EQL := Lib.hid eql
      clear hC hM hB hmm eql t0
      gi_wp2_with (refine ⟨trivial, ?_⟩; gi_at_call 54; refine (callsIn_wide.2 (alike_any _ _ _)).mono ?_; rintro e w' ⟨rfl, rfl⟩)
      obtain ⟨W1, hW1⟩ : ∃ W1, W1 = (W.alloc (.cells #[.pointer (some ⟨bx, 0, none⟩)] 72)).alloc (.cells #[.int .i64 j] 3) := ⟨_, rfl⟩
      obtain ⟨hx1, hi1, hb1, hs1⟩ := two_allocs W _ _ _ _ W1 hW1
      rw [← hW1]
      clear hW1 c0 t1 hp1 hp2
      have hC1 := HC.out.kept hb1
      have hbw := hC1.below
      have hM1 := HM.out.below hb1
      have hds : ∀ d, d ∈ ds → ∃ D, d.target = .collected D ∧ D < W1.heap.size := fun d hd => by
        obtain ⟨D, e, h⟩ := HM.out.lt d hd
        exact ⟨D, e, by omega⟩
      have hgF : gF < W.heap.size := HC.out.row.lt
      have hbT : bT < W.heap.size := HC.out.todo.lt
      have HC1 := Lib.hid hC1
      have hqb : ∀ g', (Value.slice (some ⟨g, off, none⟩) (j :: q).length cap).ownBlock = some g' → g' < W.heap.size ∨ W.heap.size + 2 ≤ g' := fun g' e => .inl (HC.out.que.lt e).2
      have HDS := Lib.hid hds
      have HBW1 := Lib.hid hbw.size
      refine wpIn_rangeFunc_ownH rfl (by omega) (gf := 82) (lb := #[.pointer (some ⟨W.heap.size, 0, none⟩), .pointer (some ⟨W.heap.size + 1, 0, none⟩)]) rfl trivial (enters_of Try.func82 (by kernel_rfl) rfl)
        (alike_stops 7 (by omega) W.heap.size (W.heap.size + 1) W.heap.size (W.heap.size + 2) j bx bM a l n c f A T m L K F (.slice Ap (ptL n l).length cp) w W1 NP ENP.out HSV.out (by rw [← ENP.out]; exact hjN) (by omega) (by omega) hbw hx1 hi1) (fun h k => h.trans k) (KpA.put hbw.size (by omega)) (Below.refl _ _) (fun _ => rfl)
        (fun pre X => (∃ v, CmpI w X gF (gF + 1) bT NP (bfsF S (j :: q) (PtI.nums pre)).1 (bfsF S (j :: q) (PtI.nums pre)).2 v ∧ (∀ g', v.ownBlock = some g' → g' < W.heap.size ∨ W.heap.size + 2 ≤ g')) ∧ W.heap.size + 2 ≤ X.heap.size ∧ Marks w.heap.size ds X)
        (fun _ _ _ => False)
        (OwnFrom.and (CmpI.own hbw.size) (OwnFrom.and (fun _ X Y _ hs hg _ => Nat.le_trans hs hg.size) (Marks.ownFrom hds)))
        (fun _ _ _ _ _ hs _ _ => hs)
        ⟨⟨_, hC1, hqb⟩, by omega, hM1⟩
        (fun x a' _ => a' = { tmps := #[.pointer (some ⟨bx, 0, none⟩), .int .i64 i, undef, undef, .slice none 0 0, .pointer (some ⟨gF + 1, 0, none⟩), .pointer (some ⟨bT, 0, none⟩), .int .i64 (x.1 : Nat), undef, undef, undef, .pointer (some ⟨bx, 0, none⟩), .pointer (some ⟨bx, 0, none⟩), .pointer (some ⟨bx, 4, none⟩), .slice Ap NP cp, .int .i64 NP, .slice (some ⟨gF, 0, none⟩) NP NP, .int .i64 i, .slice (some ⟨gF + 1 + 1, 0, none⟩) 1 1, .slice (some ⟨g, off, none⟩) (ql + 1) cap, .int .i64 ((ql : Int) + 1), .bool true, u22, u23, .pointer (some ⟨bx, 0, none⟩), .slice (some ⟨g, off, none⟩) (ql + 1) cap, .pointer (some ⟨g, off, none⟩), .int .i64 j, .func (.func 82) #[] #[.pointer (some ⟨W.heap.size, 0, none⟩), .pointer (some ⟨W.heap.size + 1, 0, none⟩)], .int .i64 (x.1 : Nat), undef, undef, undef, undef, undef, undef, undef, undef, undef, undef, undef, undef, u42, undef, undef, undef, undef, undef, undef, undef, undef, undef, undef, undef, undef, undef, undef], defers := [] })
        (fun _ _ _ _ _ _ hs _ _ => hs) ?assign ?body ?done ?stop
      case stop => exact fun _ _ _ _ _ _ h _ => h.elim
      case assign =>
        rintro l2 pre ⟨x, hx⟩ X Kx hI hK
        gi_wp2
        exact hK _ _ (KeepsFrom.refl _ _) ⟨Below.refl _ _, fun _ _ _ => rfl⟩ hI rfl
      case body =>
        rintro l2 pre ⟨x, hx⟩ a' X hl2 - ⟨⟨v, hc, hv⟩, hX, hmk⟩ rfl hlt
        have hmeas := bfsF_meas NP S (j :: q) (PtI.nums pre) (fun k hk => by obtain ⟨⟨y, hy⟩, -, rfl⟩ := List.mem_map.1 hk; exact hy)
        have hsn := bfsF_snoc S (j :: q) (PtI.nums pre) x
        rw [← PtI.nums_snoc pre ⟨x, hx⟩] at hsn
        obtain ⟨p, ep⟩ : ∃ p, p = bfsF S (j :: q) (PtI.nums pre) := ⟨_, rfl⟩
        rw [← ep] at hc hmeas hsn
        clear ep
        obtain ⟨S1, q1⟩ := p
        dsimp only at hc hmeas hsn
        have hql : q1.length ≤ 65536 := by have := HMM.out; omega
        have x0 := hc.box.cell (k := 0) rfl
        have r0 : X.cell? ⟨gF, x, none⟩ = some (.bool (S1 x)) := hc.row.cell (boolA_get hx)
        have f0 : X.frozen? ⟨gF, x, none⟩ = false := hc.row.frozen
        have hxx : (x : Int) < (NP : Int) := by omega
        have HCX := Lib.hid hc
        have HV := Lib.hid hv
        have HMK := Lib.hid hmk
        cases hSx : S1 x
        · rw [hSx] at r0
          rw [if_neg (by rw [hSx]; decide)] at hsn
          have HSN := Lib.hid hsn
          have t1 : (X.setCell ⟨gF, x, none⟩ (.bool true)).cell? ⟨bT, 0, none⟩ = some v := (Blk.set_ne hc.todo (hc.todo.ne hc.row (by decide)) x (.bool true)).cell (k := 0) rfl
          have hsz := hc.below.size
          clear hc hv hmk hsn hSx hmeas
          gi_wp2_with (gi_at_builtin; obtain ⟨i0, hinf, hz0, hz1, hz2⟩ := info_parts Try.infoInt; refine wpListIn_append_que _ rfl _ _ 75 rfl i0 _ Try.underlying75 hinf hz0 hz1 hz2 rfl w.heap.size v q1 rfl ((HCX.out.que.keeps (Keeps.of_set HCX.out.row (by decide) x (.bool true))).below (below_alloc _ _)) _ _ x rfl (by have := (Blk.new (X.setCell ⟨gF, x, none⟩ (.bool true)) #[.int .i64 x] 3).cell (k := 0) rfl; simpa using this) hql (by simp; omega) ?_; intro v' w3 hq' hg' hn'; obtain ⟨g', off', cap', rfl⟩ := hq'.shape_snoc; obtain ⟨⟨cT, fT⟩, hcn, hkp, hko, hqn⟩ := HCX.out.push hx hgF hbT HV.out hX rfl rfl hq' hg' hn'; have HCN := Lib.hid hcn; have HKP := Lib.hid hkp; have HKO := Lib.hid hko; have HQN := Lib.hid hqn; clear hq' hg' hn' hcn hkp hko hqn hinf hz0 hz1 hz2)
          exact ⟨HKO.out.from _, HKP.out, ⟨_, by rw [HSN.out]; exact HCN.out, HQN.out⟩, Nat.le_trans hX HKO.out.size, HMK.out.kept fun D _ h2 _ => HKO.out.same D _ h2 rfl⟩
        · rw [hSx] at r0
          rw [if_pos hSx] at hsn
          have HSN := Lib.hid hsn
          clear hc hv hmk hsn hSx hmeas
          gi_wp2
          exact ⟨KeepsFrom.refl _ _, ⟨Below.refl _ _, fun _ _ _ => rfl⟩, ⟨v, by rw [HSN.out]; exact HCX.out, HV.out⟩, hX, HMK.out⟩
      case done =>
        rintro D ys X hD hys ⟨⟨v, hc, hv⟩, hX, hmk⟩ hDk
        obtain ⟨q', eq', hB'⟩ := HBF.out.step (l := alkL a L (ptL n l) j) (fun k => mem_alkL) (fun k hk => by rw [ENP.out]; exact alkL_lt hk)
        have hmeas := bfsF_meas NP S (j :: q) (alkL a L (ptL n l) j) (fun k hk => by rw [ENP.out]; exact alkL_lt hk)
        rw [hys, eq'] at hc
        rw [eq'] at hmeas
        obtain ⟨S1, eS1⟩ : ∃ S1, S1 = (bfsF S (j :: q) (alkL a L (ptL n l) j)).1 := ⟨_, rfl⟩
        rw [← eS1] at hc hB' hmeas
        obtain ⟨g2, off2, cap2, rfl⟩ := hc.que.shape
        obtain ⟨ql2, eql2⟩ : ∃ ql, ql = q'.length := ⟨_, rfl⟩
        have t1 : X.cell? ⟨bT, 0, none⟩ = some (.slice (some ⟨g2, off2, none⟩) (ql2 + 1) cap2) := by rw [eql2]; exact hc.todo.cell (k := 0) rfl
        have HCX := Lib.hid hc
        have HMK := Lib.hid hmk
        have HDK := Lib.hid hDk
        have HB2 := Lib.hid hB'
        have HME := Lib.hid hmeas
        have EQ2 := Lib.hid eql2
        clear hc hv hmk hDk hB' hmeas eql2 eS1 eq' hys
        gi_wp2
        all_goals (
          have hme := HME.out
          have hmm := HMM.out
          simp only [List.length_cons] at hme hmm
          refine ⟨unf NP S1 + q'.length, by omega, _, _, S1, q', rfl, by omega, ⟨rfl, rfl⟩, ⟨_, HCX.out.turn ?_⟩, ?_, HB2.out⟩
          · rw [EQ2.out]
            first
              | exact HCX.out.que.tail
              | (have hq := HCX.out.que; rw [‹cap2 = 1›] at hq; exact hq.tail0)
          · exact (Marks.push HMK.out HBW1.out hD HDK.out HDS.out).below (below_alloc _ _))
end Go.Proofs.Ytahaimecchdfeaa
