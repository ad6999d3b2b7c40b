/-
  Texts of this claim, one after the other: what each proves is said at its head. No condition beyond those that its theorems name.
-/
import Derived.RangeFuncNested
import Derived.RangeFuncBound
import Derived.RangeFuncCalls
import Derived.RangeFuncLeaves
import Derived.OwnWalkIn
import Derived.ArgAppend
import Derived.Test.YtahaimecchdfeaaProg
import Derived.Deep.DeepCutAuto
import Derived.Laws.StructEq
import Derived.Deep.RegionHeld3
import Derived.Laws.EntriesVeiled
import Derived.ControlIn
import Derived.Laws.MakeOwn
import Derived.StillTailTactics
import Derived.BigQuiet
import Derived.OrdersIn
import Derived.TacticsIn
import Derived.Lib.Slices
import Derived.Lib.SlicesCompact
import Derived.Lib.RowBridge
import Derived.Maps.OwnSet
import Derived.Maps.Views
import Derived.Test.YtahaimecchdfeaaG01

/-
  Queues: slices of numbers of the call's own that are read at their head and appended to; marks of loops over functions, many of them.
-/
namespace Go.Proofs.Ytahaimecchdfeaa
open Go.RowKit

/-! ### queues -/
/-- A queue of numbers, in a block of the call's own. -/
def QueR (w : World) (base : Nat) (v : Value) (l : List Nat) : Prop :=
  ∃ g off cap cur, v = .slice (some ⟨g, off, none⟩) l.length cap ∧ base ≤ g ∧ w.heap[g]? = some (.cells cur 3 (0, 0)) ∧ l.length ≤ cap ∧ cap ≤ maxLen ∧ off + cap ≤ cur.size ∧ ∀ k x, l[k]? = some x → cur[off + k]? = some (.int .i64 (x : Nat))
theorem QueR.shape {w : World} {base : Nat} {v : Value} {l : List Nat} (h : QueR w base v l) : ∃ g off cap, v = .slice (some ⟨g, off, none⟩) l.length cap := by
  obtain ⟨g, off, cap, _, e, _⟩ := h
  exact ⟨g, off, cap, e⟩
theorem QueR.shape_snoc {w : World} {base x : Nat} {v : Value} {l : List Nat} (h : QueR w base v (l ++ [x])) : ∃ g off cap, v = .slice (some ⟨g, off, none⟩) (l.length + 1) cap := by
  obtain ⟨g, off, cap, e⟩ := h.shape
  exact ⟨g, off, cap, by rw [e, List.length_append, List.length_singleton]⟩
theorem QueR.of_block {w : World} {base b : Nat} {x : Nat} (h : Blk w b 3 #[.int .i64 x]) (hb : base ≤ b) : QueR w base (.slice (some ⟨b, 0, none⟩) 1 1) [x] :=
  ⟨b, 0, 1, _, rfl, hb, h, Nat.le_refl _, by decide, by simp, fun k y hk => by
    cases k with
    | zero => simp at hk; subst hk; rfl
    | succ k => simp at hk⟩
theorem QueR.of_own {w : World} {base : Nat} {v : Value} {l : List Nat} (h : OwnN w base v l) (hl : l ≠ []) : QueR w base v l := by
  rcases h.2 with ⟨-, h0⟩ | ⟨g, cap, cur, rfl, hg, hh, hn, hc, hs, ht⟩
  · exact absurd (List.eq_nil_of_length_eq_zero h0) hl
  · refine ⟨g, 0, cap, cur, rfl, hg, hh, hn, hc, by omega, fun k x hk => ?_⟩
    have hlt := (List.getElem?_eq_some_iff.1 hk).1
    have : (natV l)[k]? = some (.int .i64 (x : Nat)) := by unfold natV; simp [hk]
    rw [← ht, List.getElem?_take, if_pos (by omega)] at this
    simpa using this
theorem QueR.keeps {w w1 : World} {base : Nat} {v : Value} {l : List Nat} (h : QueR w base v l) (hk : Keeps w w1 3) : QueR w1 base v l := by
  obtain ⟨g, off, cap, cur, e, hg, hh, r⟩ := h
  exact ⟨g, off, cap, cur, e, hg, hk g cur hh, r⟩
theorem QueR.kept {w w1 : World} {base : Nat} {v : Value} {l : List Nat} {row : Option Nat} (h : QueR w base v l) (hg : w.grownBy w1 row) (hne : row ≠ v.ownBlock) : QueR w1 base v l := by
  obtain ⟨g, off, cap, cur, rfl, hgb, hh, r⟩ := h
  exact ⟨g, off, cap, cur, rfl, hgb, (hg.block g (Array.getElem?_eq_some_iff.1 hh).1 (fun e => hne e.symm)).trans hh, r⟩
theorem QueR.below {w w1 : World} {base : Nat} {v : Value} {l : List Nat} (h : QueR w base v l) (hb : Below w.heap.size w w1) : QueR w1 base v l := h.keeps (.of_below hb _)
theorem QueR.mono {w : World} {base base' : Nat} {v : Value} {l : List Nat} (h : QueR w base v l) (hb : base' ≤ base) : QueR w base' v l := by
  obtain ⟨g, off, cap, cur, e, hg, r⟩ := h
  exact ⟨g, off, cap, cur, e, Nat.le_trans hb hg, r⟩
theorem QueR.lt {w : World} {base g : Nat} {v : Value} {l : List Nat} (h : QueR w base v l) (hv : v.ownBlock = some g) : base ≤ g ∧ g < w.heap.size := by
  obtain ⟨g', off, cap, cur, rfl, hg, hh, r⟩ := h
  injection hv with hv
  subst hv
  exact ⟨hg, (Array.getElem?_eq_some_iff.1 hh).1⟩
theorem QueR.head {w : World} {base g off n cap x : Nat} {l : List Nat} (h : QueR w base (.slice (some ⟨g, off, none⟩) n cap) (x :: l)) : w.cell? ⟨g, off, none⟩ = some (.int .i64 (x : Nat)) := by
  obtain ⟨g', off', cap', cur, e, hg, hh, -, -, -, hx⟩ := h
  injection e with e e2 e3
  injection e with e
  injection e with e4 e5
  subst e4 e5
  rw [cell_of_row w g off cur 3 (0, 0) hh]
  simpa using hx 0 x rfl
theorem QueR.tail {w : World} {base g off n cap x : Nat} {l : List Nat} (h : QueR w base (.slice (some ⟨g, off, none⟩) n cap) (x :: l)) : QueR w base (.slice (some ⟨g, off + 1, none⟩) l.length (cap - 1)) l := by
  obtain ⟨g', off', cap', cur, e, hg, hh, h1, h2, h3, hx⟩ := h
  injection e with e e2 e3
  injection e with e
  injection e with e4 e5
  subst e4 e5 e3
  rw [List.length_cons] at h1
  refine ⟨g, off + 1, cap - 1, cur, rfl, hg, hh, by omega, by omega, by omega, fun k y hk => ?_⟩
  have := hx (k + 1) y (by simpa using hk)
  rw [show off + 1 + k = off + (k + 1) by omega]
  exact this
theorem QueR.tail0 {w : World} {base g off n x : Nat} {l : List Nat} (h : QueR w base (.slice (some ⟨g, off, none⟩) n 1) (x :: l)) : QueR w base (.slice (some ⟨g, off, none⟩) l.length 0) l := by
  obtain ⟨g', off', cap', cur, e, hg, hh, h1, h2, h3, hx⟩ := h
  injection e with e e2 e3
  injection e with e
  injection e with e4 e5
  subst e4 e5 e3
  rw [List.length_cons] at h1
  obtain rfl : l = [] := List.eq_nil_of_length_eq_zero (by omega)
  exact ⟨g, off, 0, cur, rfl, hg, hh, by simp, by omega, by omega, fun k y hk => by simp at hk⟩
theorem QueR.ne_blk {w : World} {base b : Nat} {v : Value} {l : List Nat} {T : TypeId} {xs : Array Value} (h : QueR w base v l) (hb : Blk w b T xs) (hT : T ≠ 3) : v.ownBlock ≠ some b := by
  obtain ⟨g, off, cap, cur, rfl, hg, hh, r⟩ := h
  intro e
  injection e with e
  subst e
  have := (show w.heap[g]? = _ from hb).symm.trans hh
  simp at this
  exact hT this.2
/-- One number more. -/
theorem run_append_que {w : World} {base : Nat} (t ty : TypeId) (i : TypeInfo) (z : Value) (ht : Try.prog.underlying t = some (.slice 3)) (hi : Try.prog.info? 3 = some i) (hz : i.zero = some z) (hsize : i.size = 1) (hby : i.bytes = 8) (hzs : z.cells.size = 1)
    {v : Value} {l : List Nat} (h : QueR w base v l) (ad : Addr) (c x : Nat) (hx : w.cell? ad = some (.int .i64 (x : Nat))) (hl : l.length ≤ 65536) (hbase : base ≤ w.heap.size) :
    ∃ v' w', (Builtin.append_ #[t, t] ty #[v, .slice (some ad) 1 c]).run Try.prog w = .ok v' w' ∧ QueR w' base v' (l ++ [x]) ∧ w.grownBy w' v.ownBlock ∧ (∀ q, v'.ownBlock = some q → v.ownBlock = some q ∨ w.heap.size ≤ q) := by
  obtain ⟨g, off, cap, cur, rfl, hg, hh, h1, h2, h3, hc⟩ := h
  have hnews : ∀ j u, [Value.int .i64 (x : Nat)][j]? = some u → w.cell? (ad.add j) = some u := fun j u hu => by
    cases j with
    | zero =>
      simp at hu
      subst hu
      have : ad.add 0 = ad := by unfold Addr.add; split <;> simp_all
      rw [this]; exact hx
    | succ j => simp at hu
  by_cases hr : l.length + 1 ≤ cap
  · have hlt : off + l.length < cur.size := by omega
    have hrun := run_append_room_cells (P := Try.prog) w t ty 3 i ht hi g off l.length cap ad 1 c [.int .i64 (x : Nat)] (by rw [hsize]; rfl) hnews (by simp [Value.oneCell']) hr
      (fun j hj => by
        have : j = 0 := by simp at hj; omega
        subst this
        rw [hsize, cell_of_row w g _ cur 3 (0, 0) hh]
        simp [hlt])
      (fun j hj => by simp [World.frozen?, hh])
    refine ⟨_, _, hrun, ⟨g, off, cap, cur.setIfInBounds (off + l.length) (.int .i64 (x : Nat)), by simp, hg, ?_, by simpa using hr, h2, by simpa using h3, fun k y hk => ?_⟩, ?_, fun _ e => .inl e⟩
    · rw [hsize, Nat.mul_one]
      exact Lib.heap_setCell_same hh _
    · by_cases hkl : k < l.length
      · rw [List.getElem?_append_left hkl] at hk
        rw [Array.getElem?_setIfInBounds_ne (by omega)]
        exact hc k y hk
      · rw [List.getElem?_append_right (by omega)] at hk
        have hk0 : k = l.length := by
          have := (List.getElem?_eq_some_iff.1 hk).1
          simp at this; omega
        subst hk0
        simp at hk
        subst hk
        rw [Array.getElem?_setIfInBounds_self_of_lt hlt]
    · rw [hsize, Nat.mul_one]
      exact gr_set w g (off + l.length) _
  · have holds : ∀ j u, (natV l)[j]? = some u → w.cell? ((⟨g, off, none⟩ : Addr).add j) = some u := fun j u hu => by
      have hadd : (⟨g, off, none⟩ : Addr).add j = ⟨g, off + j, none⟩ := by unfold Addr.add; split <;> simp_all
      rw [hadd, cell_of_row w g _ cur 3 (0, 0) hh]
      unfold natV at hu
      rw [List.getElem?_map] at hu
      cases e : l[j]? with
      | none => rw [e] at hu; cases hu
      | some y =>
        rw [e] at hu
        simp at hu
        subst hu
        exact hc j y e
    have hm : (maxLen : Nat) = 9223372036854775807 := rfl
    obtain ⟨v', w', hrun, ho, hgr⟩ := run_append_arg_grows (P := Try.prog) w t ty 3 i z 1 8 ht hi hz hsize hby hzs (by decide) ⟨g, off, none⟩ l.length cap (natV l) (by unfold natV; simp) holds ad 1 c [.int .i64 (x : Nat)] rfl hnews (by omega) (by rw [hm]; omega) (by omega)
    have ho2 : OwnN w' w.heap.size v' (l ++ [x]) := by
      unfold OwnN
      rw [List.length_append]
      unfold natV
      rw [List.map_append]
      exact ho
    exact ⟨v', w', hrun, (QueR.of_own ho2 (by simp)).mono hbase, ⟨hgr.os, hgr.tape, hgr.output, hgr.size, fun k hk _ => hgr.block k hk (by simp)⟩, fun q hq => .inr (ho2.lt q hq).1⟩

theorem wpListIn_append_que {F : Fence} {n : Nat} (w : World) {ops : Array Oper} {rest : List Oper} {o : Oper} {a : Act} {Q : Exit → Act → World → Prop}
    (hg : o.guard = none) (s x : Operand) (t : TypeId) (hop : o.op = Op.call { callee := Callee.builtin Builtin.append, args := #[s, x], argTypes := #[t, t] })
    (i : TypeInfo) (z : Value) (h1 : Try.prog.underlying t = some (.slice 3)) (h2 : Try.prog.info? 3 = some i) (h3 : i.zero = some z) (h4 : i.size = 1) (h5 : i.bytes = 8) (h6 : z.cells.size = 1)
    (base : Nat) (v : Value) (l : List Nat) (hs : a.eval s = v) (hq : QueR w base v l) (ad : Addr) (c y : Nat) (hx : a.eval x = .slice (some ad) 1 c) (hc : w.cell? ad = some (.int .i64 (y : Nat))) (hl : l.length ≤ 65536) (hbase : base ≤ w.heap.size)
    (hK : ∀ v' w', QueR w' base v' (l ++ [y]) → w.grownBy w' v.ownBlock → (∀ q, v'.ownBlock = some q → v.ownBlock = some q ∨ w.heap.size ≤ q) → wpListIn F n Try.prog ops Q rest (a.put o.dst v') w') :
    wpListIn F n Try.prog ops Q (o :: rest) a w := by
  refine wpListIn_plain hg fun K hK' => ?_
  obtain ⟨v', w', hrun, r1, r2, r3⟩ := run_append_que t o.type i z h1 h2 h3 h4 h5 h6 hq ad c y hc hl hbase
  unfold Oper.wpIn
  refine ⟨?_, ?_⟩
  · simp [Oper.about, hop, resolve, Target.leads, Sem.run_pure]
  · rw [Oper.semAt_plain F _ _ (by rw [hop]; intro c hc'; cases hc')]
    simp [execOp, hop, resolve, invoke, builtin, hs, hx, hrun, Result.andThen]
    exact hK' _ _ (hK v' w' r1 r2 r3)

/-! ### marks of loops over functions -/
/-- The deferred calls of an activation whose loops over functions are all over: marks alone, the latest first. -/
def Marks (B : Nat) : List Deferred → World → Prop
  | [], _ => True
  | d :: ds, w => ∃ D, d = { target := .collected D, args := #[] } ∧ B ≤ D ∧ w.heap[D]? = some (.deferred (some [])) ∧ (∀ d', d' ∈ ds → ∃ D', d'.target = .collected D' ∧ D' < D) ∧ Marks B ds w
theorem Marks.kept {B : Nat} : ∀ {ds : List Deferred} {w w' : World}, Marks B ds w → (∀ D, B ≤ D → w.heap[D]? = some (.deferred (some [])) → (∃ d, d ∈ ds ∧ d.target = .collected D) → w'.heap[D]? = some (.deferred (some []))) → Marks B ds w'
  | [], _, _, _, _ => trivial
  | d :: ds, w, w', ⟨D, e, hB, hD, hd, hr⟩, h => ⟨D, e, hB, h D hB hD ⟨d, by simp, by rw [e]⟩, hd, hr.kept fun D' h1 h2 ⟨d', h3, h4⟩ => h D' h1 h2 ⟨d', by simp [h3], h4⟩⟩
theorem Marks.lt {B : Nat} : ∀ {ds : List Deferred} {w : World}, Marks B ds w → ∀ d, d ∈ ds → ∃ D, d.target = .collected D ∧ D < w.heap.size
  | d :: ds, w, ⟨D, e, hB, hD, hd, hr⟩, d', hm => by
    rcases List.mem_cons.1 hm with rfl | h
    · exact ⟨D, by rw [e], (Array.getElem?_eq_some_iff.1 hD).1⟩
    · exact hr.lt d' h
theorem Marks.push {B D n : Nat} {ds : List Deferred} {w : World} (h : Marks B ds w) (hB : B ≤ n) (hn : n ≤ D) (hD : w.heap[D]? = some (.deferred (some []))) (hlt : ∀ d, d ∈ ds → ∃ D', d.target = .collected D' ∧ D' < n) : Marks B ({ target := .collected D, args := #[] } :: ds) w :=
  ⟨D, rfl, by omega, hD, fun d' hd => let ⟨D', e, h⟩ := hlt d' hd; ⟨D', e, by omega⟩, h⟩
theorem Marks.from {B C : Nat} {ds : List Deferred} {w w' : World} (h : Marks B ds w) (hk : KeepsFrom C w w') (hC : C ≤ B) : Marks B ds w' := h.kept fun D h1 h2 _ => hk.same D _ (by omega) h2 rfl
theorem Marks.below {B : Nat} {ds : List Deferred} {w w' : World} (h : Marks B ds w) (hb : Below w.heap.size w w') : Marks B ds w' := h.kept fun D _ h2 _ => (hb.block D (Array.getElem?_eq_some_iff.1 h2).1).trans h2
/-- The marks speak of blocks that lie ahead of the loop. -/
theorem Marks.ownFrom {β : Type} {B C : Nat} {ds : List Deferred} (hC : ∀ d, d ∈ ds → ∃ D, d.target = .collected D ∧ D < C) : OwnFrom C (fun (_ : β) w => Marks B ds w) := fun _ X Y row hs hg hr => hs.kept fun D _ h2 ⟨d, h3, h4⟩ => by
  obtain ⟨D', e, hlt⟩ := hC d h3
  rw [h4] at e
  injection e with e
  subst e
  refine (hg.block D (Array.getElem?_eq_some_iff.1 h2).1 fun e => ?_).trans h2
  have := (hr D e.symm).1
  omega
/-- At the return: all marks are taken up. -/
theorem leaves_marks {F : Fence} {n B : Nat} {P : Program} {fn : Func} {tmps : Array Value} {R : Ending → World → Prop} : ∀ (ds : List Deferred) (w : World), Marks B ds w →
    (∀ w', Below B w w' → KeepRow w w' none → LeavesIn F n P fn tmps R [] .returning w') → LeavesInM F n P fn tmps R ds .returning w
  | [], w, _, h => h w (Below.refl _ _) (KeepRow.refl _ _)
  | d :: ds, w, ⟨D, e, hB, hD, hd, hr⟩, h => by
    refine ⟨by simp, .inl ⟨D, _, by rw [e], run_takeDeferred hD, ?_⟩⟩
    have hb : Below B w (w.putObj D (.deferred none)) := (Below.refl B w).grown (grownBy_putObj' w D (.deferred none)) (by have := (Array.getElem?_eq_some_iff.1 hD).1; omega) (fun k e => by cases e; omega)
    have hk : KeepRow w (w.putObj D (.deferred none)) none := fun i cs T fr hi _ => by
      refine ((grownBy_putObj' w D (.deferred none)).block i (Array.getElem?_eq_some_iff.1 hi).1 fun e => ?_).trans hi
      injection e with e
      subst e
      rw [hi] at hD
      cases hD
    refine leaves_marks ds _ (hr.kept fun D' h1 h2 ⟨d', h3, h4⟩ => ?_) fun w' h1 h2 => h w' (hb.trans h1) (hk.trans h2)
    obtain ⟨D'', e1, e2⟩ := hd d' h3
    rw [h4] at e1
    injection e1 with e1
    subst e1
    exact (World.putObj_heap_other (by omega)).trans h2
/-! ### what speaks of cells alone -/
theorem ownFrom_cells {β : Type} {B : Nat} {I : β → World → Prop} (h : ∀ s W W', KeepRow W W' none → I s W → I s W') : OwnFrom B I := fun s W W' row hs hg hr => h s W W' (fun i cs T fr hi _ => by
  refine (hg.block i (Array.getElem?_eq_some_iff.1 hi).1 fun e => ?_).trans hi
  obtain ⟨_, o, ho, hc⟩ := hr i e.symm
  rw [hi] at ho
  cases ho
  cases hc) hs
theorem Blk.keepRow {w w' : World} {b : Nat} {T : TypeId} {xs : Array Value} (h : Blk w b T xs) (hk : KeepRow w w' none) : Blk w' b T xs := hk _ _ _ _ h nofun
theorem QueR.keepRow {w w' : World} {base : Nat} {v : Value} {l : List Nat} (h : QueR w base v l) (hk : KeepRow w w' none) : QueR w' base v l := h.keeps fun _ _ hb => Blk.keepRow hb hk
theorem OwnN.keepRow {w w' : World} {base : Nat} {v : Value} {l : List Nat} (h : OwnN w base v l) (hk : KeepRow w w' none) : OwnN w' base v l := own_keepRow h hk fun _ _ => nofun
theorem two_allocs (V : World) (x0 x1 : Array Value) (T0 T1 : TypeId) (W : World) (hW : W = (V.alloc (.cells x0 T0)).alloc (.cells x1 T1)) :
    Blk W V.heap.size T0 x0 ∧ Blk W (V.heap.size + 1) T1 x1 ∧ Below V.heap.size V W ∧ W.heap.size = V.heap.size + 2 := by
  subst hW
  have h1 := below_alloc V (.cells x0 T0)
  have h2 := below_alloc (V.alloc (.cells x0 T0)) (.cells x1 T1)
  exact ⟨(Blk.new V x0 T0).below h2, Blk.new' _ _ _ _ (by simp), below_trans h1 h2, by simp⟩
theorem ownN_cells {w : World} {base e sz n q : Nat} {v : Value} {xs : List Value} {o : Obj} (h : w.ownsRow base e sz v n xs) (hq : v.ownBlock = some q) (ho : w.heap[q]? = some o) : o.isCells = true := by
  rcases h.2 with ⟨rfl, _⟩ | ⟨g, cap, cur, rfl, _, hh, _⟩
  · cases hq
  · injection hq with hq
    subst hq
    rw [hh] at ho
    injection ho with ho
    subst ho
    rfl
theorem ownFrom_rows {β : Type} {B n₀ : Nat} {I : β → World → Prop} (hn : n₀ ≤ B) (hz : ∀ s W, I s W → n₀ ≤ W.heap.size) (h : ∀ s W W', KeepRow W W' none → Below n₀ W W' → I s W → I s W') : OwnFrom B I := fun s W W' row hs hg hr => h s W W' (fun i cs T fr hi _ => by
  refine (hg.block i (Array.getElem?_eq_some_iff.1 hi).1 fun e => ?_).trans hi
  obtain ⟨_, o, ho, hc⟩ := hr i e.symm
  rw [hi] at ho
  cases ho
  cases hc) ((Below.refl _ W).grown hg (hz s W hs) (fun k e => Nat.le_trans hn (hr k e).1)) hs
/-- What the body of a function must achieve that does not panic: nothing is said of the activation where it does (for regions that draw their order). -/
def bodyPostN (F : Fence) (n : Nat) (P : Program) (fn : Func) (R : Ending → World → Prop) : Exit → Act → World → Prop
  | .normal, a, w | .ret, a, w => LeavesInM F n P fn a.tmps R a.defers .returning w
  | _, _, _ => False
theorem callsIn_of_wp_marksN {F : Fence} {n : Nat} {P : Program} {f : FuncId} {fn : Func} {c : Code} {args : Array Value} {w : World} {R : Ending → World → Prop}
    (hf : P.funcs[f]? = some fn) (hb : fn.body = some c) (hF : F.fn f)
    (h : c.wpIn F n P (bodyPostN F n P fn R) { tmps := args ++ Array.replicate (fn.ntmps - args.size) undef, defers := [] } w) (hro : F.round = none := by rfl) : CallsIn F n P f args w R := by
  refine callsIn_of_wp_marks hf hb hF (wpIn_mono h fun e a w hq => ?_) hro
  cases e with
  | normal => exact hq
  | ret => exact hq
  | _ => exact hq.elim
end Go.Proofs.Ytahaimecchdfeaa

/-
  Runs that are owned: the run of none, a box of two cells that is written; four blocks laid one after the other.
-/
namespace Go.Proofs.Ytahaimecchdfeaa
open Go.RowKit

def RunD.none : RunD := ⟨0, fun _ => 0, fun _ _ => 0, 0, fun _ => 0⟩
theorem RunD.none_owned (w : World) (base : Nat) : RunD.none.owned w base (.agg #[.slice .none 0 0, .slice .none 0 0]) :=
  ⟨_, _, [], rfl, World.ownsRow_nil _ _ _ _, fun _ hi => absurd hi (Nat.not_lt_zero _), World.ownsRow_nil _ _ _ _⟩
theorem Blk.put2 {w : World} {b : Nat} {T : TypeId} {x0 x1 : Value} (h : Blk w b T #[x0, x1]) (y0 y1 : Value) :
    (w.cell? ⟨b, 0, none⟩ = some x0 ∧ w.frozen? ⟨b, 0, none⟩ = false ∧ (w.setCell ⟨b, 0, none⟩ y0).cell? ⟨b, 1, none⟩ = some x1 ∧ (w.setCell ⟨b, 0, none⟩ y0).frozen? ⟨b, 1, none⟩ = false) ∧
    Blk ((w.setCell ⟨b, 0, none⟩ y0).setCell ⟨b, 1, none⟩ y1) b T #[y0, y1] := by
  have h1 : Blk (w.setCell ⟨b, 0, none⟩ y0) b T #[y0, x1] := h.set 0 y0
  exact ⟨⟨h.cell rfl, h.frozen, h1.cell rfl, h1.frozen⟩, h1.set 1 y1⟩
theorem Keeps.put2 {w : World} {b : Nat} {T T' : TypeId} {x0 x1 : Value} (h : Blk w b T #[x0, x1]) (hT : T' ≠ T) (y0 y1 : Value) : Keeps w ((w.setCell ⟨b, 0, none⟩ y0).setCell ⟨b, 1, none⟩ y1) T' := by
  have h1 : Blk (w.setCell ⟨b, 0, none⟩ y0) b T #[y0, x1] := h.set 0 y0
  exact (Keeps.of_set h hT 0 y0).trans (.of_set h1 hT 1 y1)
theorem RunO.put2 {w : World} {base b : Nat} {v : Value} {n k : Nat} {m : Nat → Nat} {L : Nat → Nat → Int} {F : Nat → Nat} {x0 x1 : Value} (hr : RunO w base v n m L k F) (h : Blk w b 69 #[x0, x1]) (y0 y1 : Value) : RunO ((w.setCell ⟨b, 0, none⟩ y0).setCell ⟨b, 1, none⟩ y1) base v n m L k F :=
  hr.keeps (Keeps.put2 h (by decide) _ _) (Keeps.put2 h (by decide) _ _) (Keeps.put2 h (by decide) _ _)
theorem four_blocks (w : World) (x0 x1 x2 x3 : Array Value) (T0 T1 T2 T3 : TypeId) (W : World) (hW : W = (((w.alloc (.cells x0 T0)).alloc (.cells x1 T1)).alloc (.cells x2 T2)).alloc (.cells x3 T3)) :
    Blk W w.heap.size T0 x0 ∧ Blk W (w.heap.size + 1) T1 x1 ∧ Blk W (w.heap.size + 1 + 1) T2 x2 ∧ Blk W (w.heap.size + 1 + 1 + 1) T3 x3 ∧ Below w.heap.size w W := by
  subst hW
  have k0 := Blk.new w x0 T0
  have k1 := Blk.new (w.alloc (.cells x0 T0)) x1 T1
  have k2 := Blk.new ((w.alloc (.cells x0 T0)).alloc (.cells x1 T1)) x2 T2
  have k3 := Blk.new (((w.alloc (.cells x0 T0)).alloc (.cells x1 T1)).alloc (.cells x2 T2)) x3 T3
  have hb := (((below_alloc w (.cells x0 T0)).alloc (by simp) (.cells x1 T1)).alloc (by simp; omega) (.cells x2 T2)).alloc (by simp; omega) (.cells x3 T3)
  simp only [World.size_alloc] at k1 k2 k3
  exact ⟨((k0.alloc _).alloc _).alloc _, (k1.alloc _).alloc _, k2.alloc _, k3, hb⟩
end Go.Proofs.Ytahaimecchdfeaa

/-
  Walks: slices.Index of points; index of package attack.
-/
namespace Go.Proofs.Ytahaimecchdfeaa
open Go.RowKit

/-- The first place of a point in a list, or -1. -/
def ixP (l : List (Nat × Nat)) (x y : Int) : Int := match l.findIdx? (fun p => (p.1 : Int) == x && (p.2 : Int) == y) with | some k => (k : Int) | none => -1
theorem ixP_hit {l : List (Nat × Nat)} {x y : Int} {k : Nat} {p : Nat × Nat} (hp : l[k]? = some p) (e : (p.1 : Int) = x ∧ (p.2 : Int) = y) (hm : ∀ j q, j < k → l[j]? = some q → ¬ ((q.1 : Int) = x ∧ (q.2 : Int) = y)) : ixP l x y = k := by
  have h : l.findIdx? (fun p => (p.1 : Int) == x && (p.2 : Int) == y) = some k := by
    rw [List.findIdx?_eq_some_iff_getElem]
    obtain ⟨hk, hpk⟩ := List.getElem?_eq_some_iff.1 hp
    refine ⟨hk, by rw [hpk]; simp [e.1, e.2], fun j hj => ?_⟩
    have := hm j _ hj (List.getElem?_eq_getElem (by omega))
    simpa using this
  unfold ixP; rw [h]
theorem ixP_none {l : List (Nat × Nat)} {x y : Int} (hm : ∀ j q, j < l.length → l[j]? = some q → ¬ ((q.1 : Int) = x ∧ (q.2 : Int) = y)) : ixP l x y = -1 := by
  have h : l.findIdx? (fun p => (p.1 : Int) == x && (p.2 : Int) == y) = none := by
    rw [List.findIdx?_eq_none_iff]
    intro q hq
    obtain ⟨j, hj, rfl⟩ := List.getElem_of_mem hq
    have := hm j _ hj (List.getElem?_eq_getElem hj)
    simpa using this
  unfold ixP; rw [h]
theorem pointEql (x y r t : Int) (w : World) : (binOp .eql 26 (.agg #[.int .i64 x, .int .i64 y]) (.agg #[.int .i64 r, .int .i64 t])).run Try.prog w = .ok (.bool (x == r && y == t)) w := by
  have u3 := Try.underlying3
  have hS : Try.prog.underlying 26 = some (.struct (Try.prog.fieldsOf 26)) := by kernel_rfl
  have hp : Try.prog.stoodInHeld 26 = false := by kernel_rfl
  rw [run_eql_struct, show (10000 : Nat) = 9999 + 1 from rfl, run_equalIn_agg w 9999 26 _ _ hS hp]
  simp only [Program.fieldsOf, Try.underlying26]
  go_simp
  by_cases h1 : x = r <;> by_cases h2 : y = t <;> simp [h1, h2]
set_option maxHeartbeats 2000000 in
theorem index_any (l : List (Nat × Nat)) (x y : Int) (w : World) (base : Nat) (v : Value) (h : PnO w base v l) (hl : l.length ≤ 65536) :
    Calls Try.prog 83 #[v, .agg #[.int .i64 x, .int .i64 y]] w fun e w' => e = .returned (.int .i64 (ixP l x y)) ∧ Below w.heap.size w w' := by
  have HP := Lib.hid h
  obtain ⟨Ap, cp, rfl⟩ := h.shape
  have HB := Lib.hid (below_alloc w (.cells #[.int .i64 x, .int .i64 y] 26))
  have HK := Lib.hid (Blk.new w #[.int .i64 x, .int .i64 y] 26)
  obtain ⟨NP, eNP⟩ : ∃ q, q = l.length := ⟨_, rfl⟩
  rw [← eNP] at HP hl ⊢
  have ENP := Lib.hid eNP
  clear h eNP
  go_enter Try.func83, Try.ntmps83
  go_upto_region 1 with (fail)
  generalize w.alloc (.cells #[.int .i64 x, .int .i64 y] 26) = W at HB HK ⊢
  obtain ⟨bs, ebs⟩ : ∃ b, b = w.heap.size := ⟨_, rfl⟩
  rw [← ebs] at HK ⊢
  clear ebs
  go_wp2_with fail
  go_loopw [8] (fun kv wr => ∃ k : Nat, k ≤ NP ∧ kv = .int .i64 k ∧ Below W.heap.size W wr ∧ Hid (∀ j q, j < k → l[j]? = some q → ¬ ((q.1 : Int) = x ∧ (q.2 : Int) = y))) (fun kv _ => NP - (intOf kv).toNat)
  case atStart => exact ⟨0, Nat.zero_le _, rfl, Below.refl _ _, Lib.hid fun j _ h => absurd h (Nat.not_lt_zero _)⟩
  case round =>
    obtain ⟨k, hk, rfl, hb, HM⟩ := hrel
    have HBW := Lib.hid hb
    by_cases hlt : k < NP
    · obtain ⟨p, hp⟩ : ∃ p, l[k]? = some p := ⟨_, List.getElem?_eq_getElem (by rw [← ENP.out]; exact hlt)⟩
      obtain ⟨gp, kp, ep, c1, c2⟩ := pnO_at (HP.out.below (below_trans HB.out hb)) (by exact hp)
      injection ep with ep ep2 ep3
      subst ep
      have d0 := (HK.out.below hb).cell (k := 0) rfl
      have d1 := (HK.out.below hb).cell (k := 1) rfl
      obtain ⟨r, er⟩ : ∃ r, r = p.1 := ⟨_, rfl⟩
      obtain ⟨t, et⟩ : ∃ r, r = p.2 := ⟨_, rfl⟩
      rw [← er] at c1
      rw [← et] at c2
      have hkk : (k : Int) < (NP : Int) := by omega
      by_cases he : (p.1 : Int) = x ∧ (p.2 : Int) = y
      · have HI := Lib.hid (ixP_hit hp he HM.out)
        obtain ⟨hx, hy⟩ := he
        rw [← er] at hx
        rw [← et] at hy
        subst hx hy
        have hq1 : ∀ w, (binOp .eql 26 (.agg #[.int .i64 r, .int .i64 t]) (.agg #[.int .i64 r, .int .i64 t])).run Try.prog w = .ok (.bool true) w := fun w => by rw [pointEql]; simp
        clear hb ep2 ep3 er et hp
        go_wp2_with fail
        go_quiet (fail)
        go_wp2_with fail
        go_ret
        exact ⟨by rw [HI.out]; rfl, HB.out.trans ((below_drewN HBW.out _).mono HB.out.size)⟩
      · have HM2 : Hid (∀ j q, j < k + 1 → l[j]? = some q → ¬ ((q.1 : Int) = x ∧ (q.2 : Int) = y)) := Lib.hid fun j q hj hq => by
          rcases Nat.lt_succ_iff_lt_or_eq.1 hj with h1 | rfl
          · exact HM.out j q h1 hq
          · rw [hp] at hq
            injection hq with hq
            subst hq
            exact he
        have hne : ¬ (x = (r : Int) ∧ y = (t : Int)) := fun h => he ⟨by rw [← er]; exact h.1.symm, by rw [← et]; exact h.2.symm⟩
        have hq1 : ∀ w, (binOp .eql 26 (.agg #[.int .i64 x, .int .i64 y]) (.agg #[.int .i64 r, .int .i64 t])).run Try.prog w = .ok (.bool false) w := fun w => by
          rw [pointEql]
          have : (x == (r : Int) && y == (t : Int)) = false := by
            rw [Bool.and_eq_false_iff, beq_eq_false_iff_ne, beq_eq_false_iff_ne]
            by_cases h : x = (r : Int)
            · exact .inr fun h2 => hne ⟨h, h2⟩
            · exact .inl h
          rw [this]
        clear hb ep2 ep3 er et hp he
        go_wp2_with fail
        go_quiet (fail)
        go_wp2_with fail
        go_roundw
        case rel => exact ⟨k + 1, by omega, by go_num, below_drewN HBW.out _, HM2⟩
        case measure => simp [intOf]; omega
    · obtain rfl : k = NP := by omega
      have hkk : ¬ (k : Int) < (k : Int) := by omega
      have HI := Lib.hid (ixP_none (l := l) (x := x) (y := y) (by rw [← ENP.out]; exact HM.out))
      clear hb
      go_wp2_with fail
      go_ret
      exact ⟨by rw [HI.out]; rfl, HB.out.trans (HBW.out.mono HB.out.size)⟩
end Go.Proofs.Ytahaimecchdfeaa

/-
  Plain facts: the first failure of a test; the postulates of revision.
-/
namespace Go.Proofs.Ytahaimecchdfeaa
open Go.RowKit

/-- The first i below n with p i false; n if there is none. -/
def firstNo : Nat → (Nat → Bool) → Nat
  | 0, _ => 0
  | n + 1, p => if firstNo n p < n then firstNo n p else if p n then n + 1 else n
theorem firstNo_spec (n : Nat) (p : Nat → Bool) : firstNo n p ≤ n ∧ (∀ i, i < firstNo n p → p i = true) ∧ (firstNo n p < n → p (firstNo n p) = false) := by
  induction n with
  | zero => exact ⟨Nat.le_refl _, fun i h => absurd h (Nat.not_lt_zero _), fun h => absurd h (Nat.not_lt_zero _)⟩
  | succ n ih =>
    obtain ⟨i1, i2, i3⟩ := ih
    unfold firstNo
    by_cases h : firstNo n p < n
    · rw [if_pos h]; exact ⟨by omega, i2, fun _ => i3 h⟩
    · rw [if_neg h]
      have e : firstNo n p = n := by omega
      rw [e] at i2
      cases hp : p n
      · rw [if_neg (by simp)]; exact ⟨by omega, i2, fun _ => hp⟩
      · rw [if_pos rfl]
        refine ⟨Nat.le_refl _, fun i hi => ?_, fun h => absurd h (Nat.lt_irrefl _)⟩
        rcases Nat.lt_succ_iff_lt_or_eq.1 hi with h1 | rfl
        · exact i2 i h1
        · exact hp
theorem firstNo_hit {n k : Nat} {p : Nat → Bool} (hk : k < n) (h : ∀ i, i < k → p i = true) (hn : p k = false) : firstNo n p = k := by
  obtain ⟨i1, i2, i3⟩ := firstNo_spec n p
  rcases Nat.lt_trichotomy (firstNo n p) k with h1 | h1 | h1
  · have := i3 (by omega); rw [h _ h1] at this; cases this
  · exact h1
  · have := i2 k h1; rw [hn] at this; cases this
theorem firstNo_all {n : Nat} {p : Nat → Bool} (h : ∀ i, i < n → p i = true) : firstNo n p = n := by
  obtain ⟨i1, i2, i3⟩ := firstNo_spec n p
  rcases Nat.lt_or_ge (firstNo n p) n with h1 | h1
  · have := i3 h1; rw [h _ h1] at this; cases this
  · omega

/-! ### where a test of two sets fails first -/
def failB (S last : Nat) (fit : Nat → Nat → Bool) : Bool := !allB S (fun x => allB last (fit x))
def failX (S last : Nat) (fit : Nat → Nat → Bool) : Nat := if failB S last fit then firstNo S (fun x => allB last (fit x)) else 0
def failY (S last : Nat) (fit : Nat → Nat → Bool) : Nat := if failB S last fit then firstNo last (fit (failX S last fit)) else 0
theorem fail_hit {S last x y : Nat} {fit : Nat → Nat → Bool} (hx : x < S) (hy : y < last) (h1 : ∀ x', x' < x → allB last (fit x') = true) (h2 : ∀ y', y' < y → fit x y' = true) (h3 : fit x y = false) :
    failB S last fit = true ∧ failX S last fit = x ∧ failY S last fit = y := by
  have e0 : allB last (fit x) = false := not_all hy h3
  have e1 : failB S last fit = true := by unfold failB; rw [not_all (p := fun x => allB last (fit x)) hx e0]; rfl
  have e2 : failX S last fit = x := by unfold failX; rw [if_pos e1]; exact firstNo_hit hx h1 e0
  refine ⟨e1, e2, ?_⟩
  unfold failY; rw [if_pos e1, e2]; exact firstNo_hit hy h2 h3
theorem fail_none {S last : Nat} {fit : Nat → Nat → Bool} (h : ∀ x, x < S → allB last (fit x) = true) : failB S last fit = false ∧ failX S last fit = 0 ∧ failY S last fit = 0 := by
  have e1 : failB S last fit = false := by unfold failB; rw [allB_iff.2 h]; rfl
  exact ⟨e1, by unfold failX; rw [e1]; rfl, by unfold failY; rw [e1]; rfl⟩
theorem fail_at {S last : Nat} {fit : Nat → Nat → Bool} (h : failB S last fit = true) : failX S last fit < S ∧ failY S last fit < last ∧ fit (failX S last fit) (failY S last fit) = false := by
  have h0 : allB S (fun x => allB last (fit x)) = false := by unfold failB at h; simpa using h
  obtain ⟨u, hu, hf⟩ := not_allB h0
  obtain ⟨a1, a2, a3⟩ := firstNo_spec S (fun x => allB last (fit x))
  have hx : failX S last fit = firstNo S (fun x => allB last (fit x)) := by unfold failX; rw [if_pos h]
  have hlt : firstNo S (fun x => allB last (fit x)) < S := by
    rcases Nat.lt_or_ge (firstNo S (fun x => allB last (fit x))) S with h1 | h1
    · exact h1
    · have := a2 u (by omega); rw [hf] at this; cases this
  have hxf := a3 hlt
  rw [← hx] at hlt hxf
  obtain ⟨y, hy, hyf⟩ := not_allB hxf
  obtain ⟨b1, b2, b3⟩ := firstNo_spec last (fit (failX S last fit))
  have hyv : failY S last fit = firstNo last (fit (failX S last fit)) := by unfold failY; rw [if_pos h]
  have hyl : firstNo last (fit (failX S last fit)) < last := by
    rcases Nat.lt_or_ge (firstNo last (fit (failX S last fit))) last with h1 | h1
    · exact h1
    · have := b2 y (by omega); rw [hyf] at this; cases this
  exact ⟨hlt, by rw [hyv]; exact hyl, by rw [hyv]; exact b3 hyl⟩
theorem fail_ok {S last : Nat} {fit : Nat → Nat → Bool} (h : failB S last fit = false) {x y : Nat} (hx : x < S) (hy : y < last) : fit x y = true := by
  have h0 : allB S (fun x => allB last (fit x)) = true := by unfold failB at h; simpa using h
  exact allB_iff.1 (allB_iff.1 h0 x hx) y hy

/-! ### the postulates of revision -/
/-- Postulate i (0 to 5) of the table T holds for the belief k at x and y. -/
def rvFit (i k : Nat) (T : Nat → Nat) (x y : Nat) : Bool := match i with
  | 0 => andNot (T x) x == 0
  | 1 => k &&& x == 0 || T x == k &&& x
  | 2 => x == 0 || T x != 0
  | 3 => true
  | 4 => andNot (T x &&& y) (T (x &&& y)) == 0
  | _ => T x &&& y == 0 || andNot (T (x &&& y)) (T x &&& y) == 0
def rvLast (S i : Nat) : Nat := if i < 4 then 1 else S
/-- The error of a table of S entries. -/
def tabErr (S n : Nat) (f : Nat → Nat) : Nat := if n = S then (if allB n (fun v => decide (f v < S)) then 0 else 2) else 3
/-- Postulate i fails somewhere. -/
def rvBad (S k : Nat) (T : Nat → Nat) (i : Nat) : Bool := failB S (rvLast S i) (rvFit i k T)
def rvGood (S k : Nat) (T : Nat → Nat) (i : Nat) : Bool := !rvBad S k T i
/-- The first postulate that fails, of the first i. -/
def rvLow (S k : Nat) (T : Nat → Nat) (i : Nat) : Nat := firstNo i (rvGood S k T)
def rvX (S k : Nat) (T : Nat → Nat) (i : Nat) : Nat := if rvLow S k T i < i then failX S (rvLast S (rvLow S k T i)) (rvFit (rvLow S k T i) k T) else 0
def rvY (S k : Nat) (T : Nat → Nat) (i : Nat) : Nat := if rvLow S k T i < i then failY S (rvLast S (rvLow S k T i)) (rvFit (rvLow S k T i) k T) else 0
theorem rvLow_succ (S k : Nat) (T : Nat → Nat) (i : Nat) : rvLow S k T (i + 1) = if rvLow S k T i < i then rvLow S k T i else if rvGood S k T i then i + 1 else i := rfl
/-- No postulate has failed yet. -/
def rvNone (S k : Nat) (T : Nat → Nat) (i : Nat) : Bool := decide (¬ rvLow S k T i < i)
def rvMask (S k : Nat) (T : Nat → Nat) (i : Nat) : Nat := mkSet i (rvGood S k T)
theorem rv_good {S k : Nat} {T : Nat → Nat} {i : Nat} (h : rvBad S k T i = false) : rvX S k T (i + 1) = rvX S k T i ∧ rvY S k T (i + 1) = rvY S k T i ∧ rvNone S k T (i + 1) = rvNone S k T i ∧ rvMask S k T (i + 1) = rvMask S k T i ||| 2 ^ i := by
  have hg : rvGood S k T i = true := by unfold rvGood; rw [h]; rfl
  have hle := (firstNo_spec i (rvGood S k T)).1
  refine ⟨?_, ?_, ?_, mkSet_succ_yes hg⟩
  all_goals
    by_cases hlt : rvLow S k T i < i
    · have e : rvLow S k T (i + 1) = rvLow S k T i := if_pos hlt
      first
        | (unfold rvX; rw [e, if_pos hlt, if_pos (by omega)])
        | (unfold rvY; rw [e, if_pos hlt, if_pos (by omega)])
        | (unfold rvNone; rw [e, decide_eq_false (by omega), decide_eq_false (by omega)])
    · have e : rvLow S k T (i + 1) = i + 1 := by
        rw [rvLow_succ, if_neg hlt, if_pos hg]
      first
        | (unfold rvX; rw [e, if_neg hlt, if_neg (by omega)])
        | (unfold rvY; rw [e, if_neg hlt, if_neg (by omega)])
        | (unfold rvNone; rw [e, decide_eq_true hlt, decide_eq_true (by omega)])
theorem rv_bad_first {S k : Nat} {T : Nat → Nat} {i : Nat} (h : rvBad S k T i = true) (hn : rvNone S k T i = true) : rvX S k T (i + 1) = failX S (rvLast S i) (rvFit i k T) ∧ rvY S k T (i + 1) = failY S (rvLast S i) (rvFit i k T) ∧ rvNone S k T (i + 1) = false ∧ rvMask S k T (i + 1) = rvMask S k T i := by
  have hg : rvGood S k T i = false := by unfold rvGood; rw [h]; rfl
  have hlt : ¬ rvLow S k T i < i := of_decide_eq_true hn
  have e : rvLow S k T (i + 1) = i := by
    rw [rvLow_succ, if_neg hlt, hg]; rfl
  refine ⟨?_, ?_, ?_, mkSet_succ_no hg⟩
  · unfold rvX; rw [e, if_pos (by omega)]
  · unfold rvY; rw [e, if_pos (by omega)]
  · unfold rvNone; rw [e]; exact decide_eq_false (by omega)
theorem rv_bad_later {S k : Nat} {T : Nat → Nat} {i : Nat} (h : rvBad S k T i = true) (hn : rvNone S k T i = false) : rvX S k T (i + 1) = rvX S k T i ∧ rvY S k T (i + 1) = rvY S k T i ∧ rvNone S k T (i + 1) = false ∧ rvMask S k T (i + 1) = rvMask S k T i := by
  have hg : rvGood S k T i = false := by unfold rvGood; rw [h]; rfl
  have hlt : rvLow S k T i < i := by have := of_decide_eq_false hn; omega
  have e : rvLow S k T (i + 1) = rvLow S k T i := if_pos hlt
  refine ⟨?_, ?_, ?_, mkSet_succ_no hg⟩
  · unfold rvX; rw [e, if_pos hlt, if_pos (by omega)]
  · unfold rvY; rw [e, if_pos hlt, if_pos (by omega)]
  · unfold rvNone; rw [e]; exact decide_eq_false (by omega)
end Go.Proofs.Ytahaimecchdfeaa

/-
  Walks of package runs: the closures of Check, ContainsFunc over rows of ints and over uint64s.
-/
namespace Go.Proofs.Ytahaimecchdfeaa
open Go.RowKit

theorem ck1_any (A : Option Addr) (m c : Nat) (a : Int) (bs : Nat) (w : World) (hc : w.cell? ⟨bs, 0, none⟩ = some (.int .i64 a)) :
    Calls Try.prog 95 #[.slice A m c, .pointer (some ⟨bs, 0, none⟩)] w fun e w' => e = .returned (.bool ((m : Int) != a)) ∧ w = w' := by
  go_enter Try.func95, Try.ntmps95
  go_wp2_with fail
  go_ret
  exact ⟨rfl, rfl⟩
theorem shr_zero (F f : Nat) (hf : f ≤ 64) : (((F : Int) / 2 ^ min f 64) != 0) = decide (2 ^ f ≤ F) := by
  rw [Nat.min_eq_left hf, natCast_shr]
  have h2 : 0 < 2 ^ f := Nat.two_pow_pos f
  rw [Bool.eq_iff_iff, bne_iff_ne, decide_eq_true_eq]
  by_cases h : 2 ^ f ≤ F
  · have := Nat.div_pos h h2
    constructor
    · exact fun _ => h
    · intro _ e; omega
  · have : F / 2 ^ f = 0 := Nat.div_eq_of_lt (by omega)
    rw [this]
    constructor
    · intro e; exact absurd rfl e
    · intro e; exact absurd e h
theorem ck2_any (F f : Nat) (bs : Nat) (w : World) (hf : f ≤ 8) (hc : w.cell? ⟨bs, 1, none⟩ = some (.int .i64 f)) :
    Calls Try.prog 97 #[.int .u64 F, .pointer (some ⟨bs, 0, none⟩)] w fun e w' => e = .returned (.bool (decide (2 ^ f ≤ F))) ∧ w = w' := by
  have h1 := shr_zero F f (by omega)
  rw [Nat.min_eq_left (by omega)] at h1
  have H1 := Lib.hid h1
  clear h1
  go_enter Try.func97, Try.ntmps97
  go_wp2_with fail
  go_ret
  exact ⟨by rw [← H1.out]; rfl, rfl⟩
/-! ### ContainsFunc: by the first element for which it holds -/
def idxP (n : Nat) (p : Nat → Bool) : Int := if firstNo n (fun v => !p v) < n then (firstNo n (fun v => !p v) : Nat) else -1
theorem idxP_hit {n v : Nat} {p : Nat → Bool} (hv : v < n) (h : ∀ i, i < v → p i = false) (hb : p v = true) : idxP n p = (v : Int) := by
  have e := firstNo_hit (p := fun v => !p v) hv (fun i hi => by simp [h i hi]) (by simp [hb])
  unfold idxP; rw [e, if_pos hv]
theorem idxP_none {n : Nat} {p : Nat → Bool} (h : ∀ i, i < n → p i = false) : idxP n p = -1 := by
  have e := firstNo_all (p := fun v => !p v) (n := n) (fun i hi => by simp [h i hi])
  unfold idxP; rw [e, if_neg (Nat.lt_irrefl _)]
theorem idxP_ge (n : Nat) (p : Nat → Bool) : decide (0 ≤ idxP n p) = !allB n (fun v => !p v) := by
  cases ha : allB n (fun v => !p v)
  · obtain ⟨u, hu, hf⟩ := not_allB ha
    obtain ⟨i1, i2, i3⟩ := firstNo_spec n (fun v => !p v)
    have : firstNo n (fun v => !p v) < n := by
      rcases Nat.lt_or_ge (firstNo n (fun v => !p v)) n with h1 | h1
      · exact h1
      · have := i2 u (by omega); rw [hf] at this; cases this
    unfold idxP; rw [if_pos this]; simp
  · rw [idxP_none fun i hi => by simpa using allB_iff.1 ha i hi]; rfl
theorem ckIdx1_any (A : Option Addr) (n c : Nat) (R : Nat → Option Addr) (m cc : Nat → Nat) (L : Nat → Nat → Int) (a : Int) (bs : Nat) (w : World) (hT : MatI w A n R m cc L) (hn : n ≤ 9223372036854775807) (hc : w.cell? ⟨bs, 0, none⟩ = some (.int .i64 a)) :
    Calls Try.prog 131 #[.slice A n c, .func (.func 95) #[] #[.pointer (some ⟨bs, 0, none⟩)]] w fun e w' => e = .returned (.int .i64 (idxP n (fun t => (m t : Int) != a))) ∧ w = w' := by
  have HT := Lib.hid hT
  have HCL := Lib.hid (fun A m c => ck1_any A m c a bs w hc)
  clear hT hc
  go_enter Try.func131, Try.ntmps131
  go_wp2
  go_loop [8] (fun i => ∃ v : Nat, v ≤ n ∧ i = .int .i64 v ∧ Hid (∀ i, i < v → ((m i : Int) != a) = false)) (fun i => n - (intOf i).toNat)
  case atStart => exact ⟨0, Nat.zero_le _, rfl, Lib.hid fun i h => absurd h (Nat.not_lt_zero _)⟩
  case round =>
    obtain ⟨v, hv, rfl, HF⟩ := hrel
    by_cases hlt : v < n
    · obtain ⟨b, off, rfl, c1, hm1, -⟩ := HT.out v hlt
      obtain ⟨x, ex⟩ : ∃ x, x = m v := ⟨_, rfl⟩
      rw [← ex] at c1 hm1
      obtain ⟨R1, eR1⟩ : ∃ x, x = R v := ⟨_, rfl⟩
      obtain ⟨k1, ek1⟩ : ∃ x, x = cc v := ⟨_, rfl⟩
      rw [← eR1, ← ek1] at c1
      have HC1 := Lib.hid (HCL.out R1 x k1)
      have EX := Lib.hid ex
      clear ex eR1 ek1
      cases hb : ((x : Int) != a)
      · rw [hb] at HC1
        have HF2 : Hid (∀ i, i < v + 1 → ((m i : Int) != a) = false) := Lib.hid fun i h => by
          rcases Nat.lt_succ_iff_lt_or_eq.1 h with h3 | rfl
          · exact HF.out i h3
          · rw [← EX.out]; exact hb
        clear hb
        go_wp2_with (go_at_call 95; refine (HC1.out).mono ?_; rintro e w' ⟨rfl, rfl⟩)
        go_round
        case rel => exact ⟨v + 1, by omega, by go_num, HF2⟩
        case measure => simp [intOf]; omega
      · rw [hb] at HC1
        have HI := Lib.hid (idxP_hit (p := fun t => (m t : Int) != a) hlt HF.out (by rw [← EX.out]; exact hb))
        clear hb
        go_wp2_with (go_at_call 95; refine (HC1.out).mono ?_; rintro e w' ⟨rfl, rfl⟩)
        go_ret
        exact ⟨by rw [HI.out]; rfl, rfl⟩
    · obtain rfl : v = n := by omega
      have HI := Lib.hid (idxP_none (p := fun t => (m t : Int) != a) HF.out)
      go_wp2
      go_ret
      exact ⟨by rw [HI.out]; rfl, rfl⟩
theorem ckCon1_any (A : Option Addr) (n c : Nat) (R : Nat → Option Addr) (m cc : Nat → Nat) (L : Nat → Nat → Int) (a : Int) (bs : Nat) (w : World) (hT : MatI w A n R m cc L) (hn : n ≤ 9223372036854775807) (hc : w.cell? ⟨bs, 0, none⟩ = some (.int .i64 a)) :
    Calls Try.prog 94 #[.slice A n c, .func (.func 95) #[] #[.pointer (some ⟨bs, 0, none⟩)]] w fun e w' => e = .returned (.bool (!allB n (fun t => !((m t : Int) != a)))) ∧ w = w' := by
  have HE := Lib.hid (idxP_ge n (fun t => (m t : Int) != a))
  have HI := Lib.hid (ckIdx1_any A n c R m cc L a bs w hT hn hc)
  clear hT hc
  go_enter Try.func94, Try.ntmps94
  go_wp2_with (go_at_call 131; refine (HI.out).mono ?_; rintro e w' ⟨rfl, rfl⟩)
  go_ret
  exact ⟨by rw [← HE.out]; rfl, rfl⟩
theorem ckIdx2_any (A : Option Addr) (n c : Nat) (F : Nat → Nat) (f bs : Nat) (w : World) (hT : U64s w A n F) (hn : n ≤ 9223372036854775807) (hf : f ≤ 8) (hc : w.cell? ⟨bs, 1, none⟩ = some (.int .i64 f)) :
    Calls Try.prog 132 #[.slice A n c, .func (.func 97) #[] #[.pointer (some ⟨bs, 0, none⟩)]] w fun e w' => e = .returned (.int .i64 (idxP n (fun t => decide (2 ^ f ≤ F t)))) ∧ w = w' := by
  have HT := Lib.hid hT
  have HCL := Lib.hid (fun F => ck2_any F f bs w hf hc)
  clear hT hc
  go_enter Try.func132, Try.ntmps132
  go_wp2
  go_loop [8] (fun i => ∃ v : Nat, v ≤ n ∧ i = .int .i64 v ∧ Hid (∀ i, i < v → decide (2 ^ f ≤ F i) = false)) (fun i => n - (intOf i).toNat)
  case atStart => exact ⟨0, Nat.zero_le _, rfl, Lib.hid fun i h => absurd h (Nat.not_lt_zero _)⟩
  case round =>
    obtain ⟨v, hv, rfl, HF⟩ := hrel
    by_cases hlt : v < n
    · obtain ⟨b, off, rfl, c1, hm1⟩ := HT.out v hlt
      obtain ⟨x, ex⟩ : ∃ x, x = F v := ⟨_, rfl⟩
      rw [← ex] at c1 hm1
      have HC1 := Lib.hid (HCL.out x)
      have EX := Lib.hid ex
      clear ex
      cases hb : decide (2 ^ f ≤ x)
      · rw [hb] at HC1
        have HF2 : Hid (∀ i, i < v + 1 → decide (2 ^ f ≤ F i) = false) := Lib.hid fun i h => by
          rcases Nat.lt_succ_iff_lt_or_eq.1 h with h3 | rfl
          · exact HF.out i h3
          · rw [← EX.out]; exact hb
        clear hb
        go_wp2_with (go_at_call 97; refine (HC1.out).mono ?_; rintro e w' ⟨rfl, rfl⟩)
        go_round
        case rel => exact ⟨v + 1, by omega, by go_num, HF2⟩
        case measure => simp [intOf]; omega
      · rw [hb] at HC1
        have HI := Lib.hid (idxP_hit (p := fun t => decide (2 ^ f ≤ F t)) hlt HF.out (by rw [← EX.out]; exact hb))
        clear hb
        go_wp2_with (go_at_call 97; refine (HC1.out).mono ?_; rintro e w' ⟨rfl, rfl⟩)
        go_ret
        exact ⟨by rw [HI.out]; rfl, rfl⟩
    · obtain rfl : v = n := by omega
      have HI := Lib.hid (idxP_none (p := fun t => decide (2 ^ f ≤ F t)) HF.out)
      go_wp2
      go_ret
      exact ⟨by rw [HI.out]; rfl, rfl⟩
theorem ckCon2_any (A : Option Addr) (n c : Nat) (F : Nat → Nat) (f bs : Nat) (w : World) (hT : U64s w A n F) (hn : n ≤ 9223372036854775807) (hf : f ≤ 8) (hc : w.cell? ⟨bs, 1, none⟩ = some (.int .i64 f)) :
    Calls Try.prog 96 #[.slice A n c, .func (.func 97) #[] #[.pointer (some ⟨bs, 0, none⟩)]] w fun e w' => e = .returned (.bool (!allB n (fun t => !decide (2 ^ f ≤ F t)))) ∧ w = w' := by
  have HE := Lib.hid (idxP_ge n (fun t => decide (2 ^ f ≤ F t)))
  have HI := Lib.hid (ckIdx2_any A n c F f bs w hT hn hf hc)
  clear hT hc
  go_enter Try.func96, Try.ntmps96
  go_wp2_with (go_at_call 132; refine (HI.out).mono ?_; rintro e w' ⟨rfl, rfl⟩)
  go_ret
  exact ⟨by rw [← HE.out]; rfl, rfl⟩
end Go.Proofs.Ytahaimecchdfeaa

/-
  Plain facts on graphs: what is reached from a point; a search that goes on until nothing is left to do; loops whose measure is said by the relation.
-/
namespace Go.Proofs.Ytahaimecchdfeaa
open Go.RowKit

/-! ### a loop whose relation bears its measure -/
theorem least_of {p : Nat → Prop} (h : ∃ m, p m) : ∃ m, p m ∧ ∀ j, p j → m ≤ j := by
  obtain ⟨m, hm⟩ := h
  induction m using Nat.strongRecOn with
  | _ m ih =>
    by_cases hx : ∃ j, j < m ∧ p j
    · obtain ⟨j, h1, h2⟩ := hx
      exact ih j h1 h2
    · exact ⟨m, hm, fun j hj => by
        rcases Nat.lt_or_ge j m with h | h
        · exact absurd ⟨j, h, hj⟩ hx
        · exact h⟩
open Classical in
noncomputable def leastN (p : Nat → Prop) : Nat := if h : ∃ m, p m then Classical.choose (least_of h) else 0
theorem leastN_le {p : Nat → Prop} {j : Nat} (h : p j) : leastN p ≤ j := by
  have hx : ∃ m, p m := ⟨j, h⟩
  unfold leastN
  rw [dif_pos hx]
  exact (Classical.choose_spec (least_of hx)).2 j h
theorem leastN_of {p : Nat → Prop} (hx : ∃ m, p m) : p (leastN p) := by
  unfold leastN
  rw [dif_pos hx]
  exact (Classical.choose_spec (least_of hx)).1
theorem wpIn_loopM {F : Fence} {n : Nat} {P : Program} {Q : Exit → Act → World → Prop} {a : Act} {w : World} {c : Code} (I : Nat → Act → World → Prop) (h0 : ∃ m, I m a w)
    (round : ∀ m a w, I m a w → c.wpIn F n P (Exit.then (fun a' w' => ∃ m', m' < m ∧ I m' a' w') Q) a w) : (Code.loop c).wpIn F n P Q a w := by
  refine wpIn_loop (fun a w => ∃ m, I m a w) (fun a w => leastN (fun m => I m a w)) h0 fun a w hx => ?_
  refine wpIn_mono (round _ a w (leastN_of hx)) fun e a' w' he => ?_
  cases e with
  | normal =>
    obtain ⟨m', hlt, hm⟩ := he
    exact ⟨⟨m', hm⟩, Nat.lt_of_le_of_lt (leastN_le (p := fun m => I m a' w') hm) hlt⟩
  | _ => exact he

/-! ### what is reached -/
def rchN (R : Nat → Nat → Bool) (i : Nat) : Nat → Nat → Prop
  | 0, k => R i k = true
  | n + 1, k => ∃ j, rchN R i n j ∧ R j k = true
/-- Reached in one step or more. -/
def Rch (R : Nat → Nat → Bool) (i k : Nat) : Prop := ∃ n, rchN R i n k
theorem Rch.one {R : Nat → Nat → Bool} {i k : Nat} (h : R i k = true) : Rch R i k := ⟨0, h⟩
theorem Rch.step {R : Nat → Nat → Bool} {i j k : Nat} (h : Rch R i j) (hk : R j k = true) : Rch R i k := let ⟨n, hn⟩ := h; ⟨n + 1, j, hn, hk⟩
theorem Rch.sub {R : Nat → Nat → Bool} {i : Nat} {p : Nat → Prop} (h0 : ∀ k, R i k = true → p k) (h1 : ∀ j k, p j → R j k = true → p k) {k : Nat} (h : Rch R i k) : p k := by
  obtain ⟨n, hn⟩ := h
  induction n generalizing k with
  | zero => exact h0 k hn
  | succ n ih =>
    obtain ⟨j, hj, hk⟩ := hn
    exact h1 j k (ih hj) hk
theorem Rch.trans {R : Nat → Nat → Bool} {i j k : Nat} (h : Rch R i j) (hk : Rch R j k) : Rch R i k := Rch.sub (p := fun k => Rch R i k) (fun _ h1 => h.step h1) (fun _ _ h1 h2 => h1.step h2) hk
/-- The points that are reached, in order. -/
noncomputable def cmpL (R : Nat → Nat → Bool) (N i : Nat) : List Nat := (List.range N).filter fun k => @decide (Rch R i k) (Classical.propDecidable _)
theorem mem_cmpL {R : Nat → Nat → Bool} {N i k : Nat} : k ∈ cmpL R N i ↔ k < N ∧ Rch R i k := by
  unfold cmpL
  rw [List.mem_filter, List.mem_range, @decide_eq_true_iff _ (Classical.propDecidable _)]
theorem cmpL_eq {R : Nat → Nat → Bool} {N i : Nat} {S : Nat → Bool} (h : ∀ k, k < N → (S k = true ↔ Rch R i k)) : (List.range N).filter S = cmpL R N i := by
  unfold cmpL
  refine List.filter_congr fun k hk => ?_
  have := h k (List.mem_range.1 hk)
  rw [Bool.eq_iff_iff, @decide_eq_true_iff _ (Classical.propDecidable _)]
  exact this

/-! ### the search -/
/-- What a list of points adds to what is found, and to what is to be done. -/
def bfsF (S : Nat → Bool) (q l : List Nat) : (Nat → Bool) × List Nat := l.foldl (fun p k => if p.1 k then p else (fun x => p.1 x || x == k, p.2 ++ [k])) (S, q)
theorem bfsF_snoc (S : Nat → Bool) (q l : List Nat) (k : Nat) : bfsF S q (l ++ [k]) = if (bfsF S q l).1 k then bfsF S q l else (fun x => (bfsF S q l).1 x || x == k, (bfsF S q l).2 ++ [k]) := by
  unfold bfsF; rw [List.foldl_append]; rfl
theorem snoc_rec {α : Type} {p : List α → Prop} (h0 : p []) (h1 : ∀ l x, p l → p (l ++ [x])) (l : List α) : p l := by
  have : ∀ n, ∀ l : List α, l.length = n → p l := by
    intro n
    induction n with
    | zero => intro l hl; rw [List.eq_nil_of_length_eq_zero hl]; exact h0
    | succ n ih =>
      intro l hl
      have hne : l ≠ [] := fun e => by rw [e] at hl; simp at hl
      rw [← List.dropLast_concat_getLast hne]
      exact h1 _ _ (ih _ (by rw [List.length_dropLast, hl]; omega))
  exact this _ l rfl
theorem bfsF_fst (S : Nat → Bool) (q l : List Nat) (k : Nat) : (bfsF S q l).1 k = true ↔ S k = true ∨ k ∈ l := by
  refine snoc_rec (p := fun l => (bfsF S q l).1 k = true ↔ S k = true ∨ k ∈ l) ⟨fun h => .inl h, fun h => h.elim id (by simp)⟩ (fun l x ih => ?_) l
  rw [bfsF_snoc]
  by_cases hx : (bfsF S q l).1 x = true
  · rw [if_pos hx, ih]
    constructor
    · rintro (h | h)
      · exact .inl h
      · exact .inr (List.mem_append_left _ h)
    · rintro (h | h)
      · exact .inl h
      · rcases List.mem_append.1 h with h | h
        · exact .inr h
        · rw [List.mem_singleton] at h
          subst h
          exact ih.1 hx
  · rw [if_neg hx]
    show (((bfsF S q l).1 k || k == x) = true) ↔ _
    rw [Bool.or_eq_true, beq_iff_eq, ih, List.mem_append, List.mem_singleton]
    constructor
    · rintro ((h | h) | h)
      · exact .inl h
      · exact .inr (.inl h)
      · exact .inr (.inr h)
    · rintro (h | h | h)
      · exact .inl (.inl h)
      · exact .inl (.inr h)
      · exact .inr h
theorem bfsF_snd (S : Nat → Bool) (q l : List Nat) : ∃ new, (bfsF S q l).2 = q ++ new ∧ ∀ k, k ∈ new ↔ k ∈ l ∧ S k = false := by
  refine snoc_rec (p := fun l => ∃ new, (bfsF S q l).2 = q ++ new ∧ ∀ k, k ∈ new ↔ k ∈ l ∧ S k = false) ⟨[], by simp [bfsF], by simp⟩ (fun l x ⟨new, e, h⟩ => ?_) l
  rw [bfsF_snoc]
  by_cases hx : (bfsF S q l).1 x = true
  · rw [if_pos hx]
    refine ⟨new, e, fun k => ?_⟩
    rw [h k, List.mem_append, List.mem_singleton]
    constructor
    · rintro ⟨h1, h2⟩; exact ⟨.inl h1, h2⟩
    · rintro ⟨h1 | rfl, h2⟩
      · exact ⟨h1, h2⟩
      · rcases (bfsF_fst S q l k).1 hx with h3 | h3
        · rw [h3] at h2; cases h2
        · exact ⟨h3, h2⟩
  · rw [if_neg hx]
    have hx2 : ¬ (S x = true ∨ x ∈ l) := fun h => hx ((bfsF_fst S q l x).2 h)
    refine ⟨new ++ [x], by show (bfsF S q l).2 ++ [x] = _; rw [e, List.append_assoc], fun k => ?_⟩
    rw [List.mem_append, List.mem_singleton, List.mem_append, List.mem_singleton, h k]
    constructor
    · rintro (⟨h1, h2⟩ | rfl)
      · exact ⟨.inl h1, h2⟩
      · exact ⟨.inr rfl, by cases hs : S k; rfl; exact absurd (.inl hs) hx2⟩
    · rintro ⟨h1 | h1, h2⟩
      · exact .inl ⟨h1, h2⟩
      · exact .inr h1
/-- How many points are not found. -/
def unf (N : Nat) (S : Nat → Bool) : Nat := ((List.range N).filter fun k => !S k).length
theorem filter_len_le {p q : Nat → Bool} (l : List Nat) (h : ∀ k, k ∈ l → q k = true → p k = true) : (l.filter q).length ≤ (l.filter p).length := by
  induction l with
  | nil => simp
  | cons a l ih =>
    have ih := ih fun k hk => h k (List.mem_cons_of_mem _ hk)
    have ha := h a (by simp)
    cases hq : q a <;> cases hp : p a <;> simp [hq, hp]
    · exact ih
    · omega
    · rw [hq] at ha; rw [ha rfl] at hp; cases hp
    · exact ih
theorem filter_len_lt {p q : Nat → Bool} {x : Nat} : ∀ (l : List Nat), (∀ k, k ∈ l → q k = true → p k = true) → x ∈ l → p x = true → q x = false → (l.filter q).length < (l.filter p).length
  | [], _, hx, _, _ => by simp at hx
  | a :: l, h, hx, h1, h2 => by
    have hle := filter_len_le l fun k hk => h k (List.mem_cons_of_mem _ hk)
    rcases List.mem_cons.1 hx with rfl | hx
    · rw [List.filter_cons_of_neg (by simp [h2]), List.filter_cons_of_pos (by simp [h1]), List.length_cons]
      omega
    · have ih := filter_len_lt l (fun k hk => h k (List.mem_cons_of_mem _ hk)) hx h1 h2
      have ha := h a (by simp)
      cases hq : q a <;> cases hp : p a <;> simp [hq, hp]
      · exact ih
      · omega
      · rw [hq] at ha; rw [ha rfl] at hp; cases hp
      · exact ih
theorem unf_add {N x : Nat} {S : Nat → Bool} (hx : x < N) (h : S x = false) : unf N (fun k => S k || k == x) < unf N S := by
  unfold unf
  refine filter_len_lt (x := x) _ (fun k _ hk => ?_) (List.mem_range.2 hx) (by simp [h]) (by simp)
  simp at hk ⊢
  exact hk.1
theorem unf_start (N : Nat) (i : Nat) : unf N (fun _ => false) + [i].length ≤ N + 1 := by
  have := List.length_filter_le (fun k => !(fun _ : Nat => false) k) (List.range N)
  rw [List.length_range] at this
  unfold unf
  rw [List.length_singleton]
  omega
theorem bfsF_meas (N : Nat) (S : Nat → Bool) (q l : List Nat) (hl : ∀ k, k ∈ l → k < N) : unf N (bfsF S q l).1 + (bfsF S q l).2.length ≤ unf N S + q.length := by
  revert hl
  refine snoc_rec (p := fun l => (∀ k, k ∈ l → k < N) → unf N (bfsF S q l).1 + (bfsF S q l).2.length ≤ unf N S + q.length) (fun _ => Nat.le_refl _) (fun l x ih hl => ?_) l
  have ih := ih fun k hk => hl k (List.mem_append_left _ hk)
  rw [bfsF_snoc]
  by_cases hx : (bfsF S q l).1 x = true
  · rw [if_pos hx]; exact ih
  · rw [if_neg hx]
    have := unf_add (N := N) (x := x) (S := (bfsF S q l).1) (hl x (by simp)) (by simpa using hx)
    rw [List.length_append, List.length_singleton]
    show unf N (fun k => (bfsF S q l).1 k || k == x) + _ ≤ _
    omega
/-- The search's state. -/
structure Bfs (R : Nat → Nat → Bool) (N i : Nat) (S : Nat → Bool) (q : List Nat) : Prop where
  lt : ∀ k, k ∈ q → k < N
  found : ∀ k, S k = true → Rch R i k
  todo : ∀ k, k ∈ q → k = i ∨ Rch R i k
  shut : ∀ j, (j = i ∨ S j = true) → j ∈ q ∨ ∀ k, R j k = true → S k = true
theorem Bfs.start (R : Nat → Nat → Bool) {N i : Nat} (hi : i < N) : Bfs R N i (fun _ => false) [i] :=
  ⟨fun k hk => by rw [List.mem_singleton] at hk; omega, fun k h => by simp at h, fun k hk => .inl (List.mem_singleton.1 hk), fun j hj => hj.elim (fun h => .inl (by simp [h])) (fun h => by simp at h)⟩
theorem Bfs.step {R : Nat → Nat → Bool} {N i j : Nat} {S : Nat → Bool} {q l : List Nat} (h : Bfs R N i S (j :: q)) (hl : ∀ k, k ∈ l ↔ R j k = true) (hN : ∀ k, k ∈ l → k < N) :
    ∃ q', (bfsF S (j :: q) l).2 = j :: q' ∧ Bfs R N i (bfsF S (j :: q) l).1 q' := by
  obtain ⟨new, e, hn⟩ := bfsF_snd S (j :: q) l
  have hj : j = i ∨ Rch R i j := h.todo j (by simp)
  have hr : ∀ k, R j k = true → Rch R i k := fun k hk => hj.elim (fun e => .one (by rw [← e]; exact hk)) (fun h1 => h1.step hk)
  refine ⟨q ++ new, e, fun k hk => ?_, fun k hk => ?_, fun k hk => ?_, fun m hm => ?_⟩
  · rcases List.mem_append.1 hk with h1 | h1
    · exact h.lt k (List.mem_cons_of_mem _ h1)
    · exact hN k ((hn k).1 h1).1
  · rcases (bfsF_fst _ _ _ _).1 hk with h1 | h1
    · exact h.found k h1
    · exact hr k ((hl k).1 h1)
  · rcases List.mem_append.1 hk with h1 | h1
    · exact h.todo k (List.mem_cons_of_mem _ h1)
    · exact .inr (hr k ((hl k).1 ((hn k).1 h1).1))
  · have hsub : ∀ k, S k = true → (bfsF S (j :: q) l).1 k = true := fun k hk => (bfsF_fst _ _ _ _).2 (.inl hk)
    by_cases hmj : m = j
    · subst hmj
      exact .inr fun k hk => (bfsF_fst _ _ _ _).2 (.inr ((hl k).2 hk))
    · have hm2 : (m = i ∨ S m = true) ∨ (m ∈ l ∧ S m = false) := by
        rcases hm with h1 | h1
        · exact .inl (.inl h1)
        · rcases (bfsF_fst _ _ _ _).1 h1 with h2 | h2
          · exact .inl (.inr h2)
          · cases hs : S m
            · exact .inr ⟨h2, rfl⟩
            · exact .inl (.inr rfl)
      rcases hm2 with h1 | h1
      · rcases h.shut m h1 with h2 | h2
        · rcases List.mem_cons.1 h2 with h3 | h3
          · exact absurd h3 hmj
          · exact .inl (List.mem_append_left _ h3)
        · exact .inr fun k hk => hsub k (h2 k hk)
      · exact .inl (List.mem_append_right _ ((hn m).2 h1))
theorem Bfs.end {R : Nat → Nat → Bool} {N i : Nat} {S : Nat → Bool} (h : Bfs R N i S []) (k : Nat) : S k = true ↔ Rch R i k :=
  ⟨h.found k, fun hr => Rch.sub (p := fun k => S k = true) (fun k hk => (h.shut i (.inl rfl)).elim (fun h => by simp at h) fun h => h k hk) (fun j k hj hk => (h.shut j (.inr hj)).elim (fun h => by simp at h) fun h => h k hk) hr⟩

/-! ### the points that are alike -/
def ptG (pts : List (Nat × Nat)) (k : Nat) : Nat × Nat := pts.getD k (0, 0)
/-- Some agent sees the same at two points. -/
def akB (a : Nat) (L : Nat → Nat → Nat → Int) (pts : List (Nat × Nat)) (i k : Nat) : Bool := decide (k < pts.length) && (List.range a).any fun g => L (ptG pts k).1 (ptG pts k).2 g == L (ptG pts i).1 (ptG pts i).2 g

/-! ### truth values in a row -/
def boolL (S : Nat → Bool) (N : Nat) : List Value := (List.range N).map fun k => .bool (S k)
def boolA (S : Nat → Bool) (N : Nat) : Array Value := (boolL S N).toArray
theorem boolA_size (S : Nat → Bool) (N : Nat) : (boolA S N).size = N := by unfold boolA boolL; simp
theorem boolA_get {S : Nat → Bool} {N k : Nat} (h : k < N) : (boolA S N)[k]? = some (.bool (S k)) := by unfold boolA boolL; simp [h]
theorem boolA_set {S S' : Nat → Bool} {N k : Nat} {b : Bool} (_h : k < N) (h' : ∀ j, j < N → S' j = if j = k then b else S j) : (boolA S N).setIfInBounds k (.bool b) = boolA S' N := by
  apply Array.ext_getElem?
  intro j
  rw [Array.getElem?_setIfInBounds]
  by_cases hj : j < N
  · by_cases e : k = j
    · subst e
      rw [if_pos rfl, if_pos (by rw [boolA_size]; exact hj), boolA_get hj, h' k hj, if_pos rfl]
    · rw [if_neg e, boolA_get hj, boolA_get hj, h' j hj, if_neg (fun e2 => e e2.symm)]
  · have h1 : (boolA S N)[j]? = none := by rw [Array.getElem?_eq_none_iff, boolA_size]; omega
    have h2 : (boolA S' N)[j]? = none := by rw [Array.getElem?_eq_none_iff, boolA_size]; omega
    by_cases e : k = j
    · subst e
      rw [if_pos rfl, if_neg (by rw [boolA_size]; omega), h2]
    · rw [if_neg e, h1, h2]
theorem boolA_congr {S S' : Nat → Bool} {N : Nat} (h : ∀ j, j < N → S j = S' j) : boolA S N = boolA S' N := by
  unfold boolA boolL
  rw [List.map_congr_left fun k hk => by rw [h k (List.mem_range.1 hk)]]
theorem madeCells_bool (N : Nat) : madeCells #[.bool false] N = boolA (fun _ => false) N := by
  apply Array.ext_getElem?
  intro j
  by_cases hj : j < N
  · rw [boolA_get hj]
    unfold madeCells
    simp [hj, Nat.mod_one]
  · rw [Array.getElem?_eq_none_iff.2 (by rw [size_madeCells]; omega), Array.getElem?_eq_none_iff.2 (by rw [boolA_size]; omega)]
end Go.Proofs.Ytahaimecchdfeaa

/-
  The places of points in the list of all points.
-/
namespace Go.Proofs.Ytahaimecchdfeaa
open Go.RowKit

theorem ptL_succ (n l : Nat) : ptL (n + 1) l = ptL n l ++ (List.range l).map fun t => (n, t) := by unfold ptL; rw [List.range_succ, List.flatMap_append]; simp
theorem ptL_get {n l k : Nat} (h : k < n * l) : (ptL n l)[k]? = some (k / l, k % l) := by
  induction n with
  | zero => omega
  | succ n ih =>
    rw [ptL_succ]
    by_cases hk : k < n * l
    · rw [List.getElem?_append_left (by rw [ptL_len]; exact hk)]
      exact ih hk
    · rw [List.getElem?_append_right (by rw [ptL_len]; omega), ptL_len]
      rw [Nat.succ_mul] at h
      have hl : 0 < l := by omega
      have hj : k - n * l < l := by omega
      have e1 : k / l = n := by
        rw [show k = (k - n * l) + l * n from by rw [Nat.mul_comm l n]; omega, Nat.add_mul_div_left _ _ hl, Nat.div_eq_of_lt hj]
        omega
      have e2 : k % l = k - n * l := by
        have := Nat.div_add_mod k l
        rw [e1, Nat.mul_comm] at this
        omega
      rw [e1, e2]
      simp [hj]
theorem ptG_get {n l k : Nat} (h : k < n * l) : ptG (ptL n l) k = (k / l, k % l) := by
  unfold ptG; rw [List.getD_eq_getElem?_getD, ptL_get h]; rfl
theorem pos_lt {n l r t : Nat} (hr : r < n) (ht : t < l) : r * l + t < n * l := by
  have : (r + 1) * l ≤ n * l := Nat.mul_le_mul_right l hr
  rw [Nat.succ_mul] at this
  omega
theorem pos_div {l r t : Nat} (ht : t < l) : (r * l + t) / l = r := by
  rw [Nat.add_comm, Nat.mul_comm, Nat.add_mul_div_left _ _ (by omega), Nat.div_eq_of_lt ht]; omega
theorem pos_mod {l r t : Nat} (ht : t < l) : (r * l + t) % l = t := by
  rw [Nat.add_comm, Nat.mul_comm, Nat.add_mul_mod_self_left, Nat.mod_eq_of_lt ht]
theorem ptL_pos {n l r t : Nat} (hr : r < n) (ht : t < l) : (ptL n l)[r * l + t]? = some (r, t) := by rw [ptL_get (pos_lt hr ht), pos_div ht, pos_mod ht]
/-- There is such a point. -/
def inP (n l : Nat) (x y : Int) : Prop := (0 ≤ x ∧ x < n) ∧ 0 ≤ y ∧ y < l
instance (n l : Nat) (x y : Int) : Decidable (inP n l x y) := by unfold inP; exact inferInstance
theorem ixP_in {n l : Nat} {x y : Int} (h : inP n l x y) : ixP (ptL n l) x y = ((x.toNat * l + y.toNat : Nat) : Int) := by
  obtain ⟨⟨h1, h2⟩, h3, h4⟩ := h
  refine ixP_hit (p := (x.toNat, y.toNat)) (ptL_pos (by omega) (by omega)) ⟨by show (x.toNat : Int) = x; omega, by show (y.toNat : Int) = y; omega⟩ fun j q hj hq => ?_
  rintro ⟨e1, e2⟩
  have hlt : j < n * l := by
    have := (List.getElem?_eq_some_iff.1 hq).1
    rwa [ptL_len] at this
  rw [ptL_get hlt] at hq
  injection hq with hq
  subst hq
  have e3 : j / l = x.toNat := by have : ((j / l : Nat) : Int) = x := e1; omega
  have e4 : j % l = y.toNat := by have : ((j % l : Nat) : Int) = y := e2; omega
  have := Nat.div_add_mod j l
  rw [e3, e4, Nat.mul_comm] at this
  omega
theorem ixP_out {n l : Nat} {x y : Int} (h : ¬ inP n l x y) : ixP (ptL n l) x y = -1 := by
  refine ixP_none fun j q hj hq => ?_
  rintro ⟨e1, e2⟩
  obtain ⟨h1, h2⟩ := ptL_mem.1 (List.mem_of_getElem? hq)
  exact h ⟨⟨by omega, by omega⟩, by omega, by omega⟩
end Go.Proofs.Ytahaimecchdfeaa

/-
  Plain facts for the walks: a region that draws its order, whose operations but the last few only read: the cheap quiet steps, then the tail.
-/
namespace Go.Proofs.Ytahaimecchdfeaa
open Go.RowKit

theorem still_of_quiet {P : Program} {o : Oper} {a : Act} {w : World} {K : Act → Prop} (h : o.quiet P a (fun x => x = w) K) : o.still P a w K := by
  obtain ⟨v, h1, h2⟩ := h
  have h3 := h1 w rfl
  unfold Oper.quietAt at h3
  unfold Oper.still
  generalize (execOp a.eval o).run P w = r at h3
  cases r with
  | halt x w' => exact h3
  | ok n w' =>
    cases n with
    | value u => obtain ⟨e1, e2⟩ := h3; exact ⟨e1, by rw [e2]; exact h2⟩
    | skip => obtain ⟨e1, e2⟩ := h3; exact ⟨e1, by rw [← e2]; exact h2⟩
    | enter f args => obtain ⟨e1, e2⟩ := h3; exact ⟨e1, v, e2, h2⟩
    | _ => exact h3
theorem wpStill_of_quiet {P : Program} {ops : Array Oper} {w : World} {Q : Act → Prop} : ∀ (l : List Oper) (a : Act), wpQuiet P ops (fun x => x = w) Q l a → wpStill P ops w Q l a
  | [], _, h => h
  | o :: rest, a, h => by
    unfold wpQuiet at h
    unfold wpStill
    split
    · rename_i hw
      rw [if_pos hw] at h
      refine still_of_quiet ?_
      exact Oper.quiet_mono (fun a' h' => wpStill_of_quiet rest a' h') h
    · rename_i hw
      rw [if_neg hw] at h
      exact wpStill_of_quiet rest _ h
theorem wp_region_quiet_tail {P : Program} {id : Nat} {Q : Exit → Act → World → Prop} {a : Act} {w : World} {l : List Oper} (n : Nat) (hm : P.follows .mixedOrders = true) (hB : Region.lexTailB .any l.toArray n = true)
    (h : wpQuiet P l.toArray (fun x => x = w.drew) (fun a' => wpList P l.toArray Q (l.drop n) a' w.drew) (l.take n) a) : (Code.region id l.toArray true).wp P Q a w :=
  wp_region_still_tail n hm hB (wpStill_of_quiet _ _ h)
end Go.Proofs.Ytahaimecchdfeaa

/-
  A region that draws its order, in a round of a loop over a function: all its operations but the last few only read.
-/
namespace Go.Proofs.Ytahaimecchdfeaa
open Go.RowKit

theorem operIn_round {P : Program} {r n : Nat} {o : Oper} {a : Act} {w : World} {K : Act → World → Prop} {Q : Exit → Act → World → Prop} (hd : ∀ c, o.op ≠ .defer c) (h : o.wp P a w K Q) : o.wpIn (Fence.wide.inRound r) n P a w K Q := by
  refine ⟨fun _ _ => trivial, ?_⟩
  have e : o.semAt (Fence.wide.inRound r).round a.eval = execOp a.eval o := Oper.semAt_some r _ _ hd
  rw [e]
  unfold Oper.wp at h
  generalize (execOp a.eval o).run P w = q at h
  cases q with
  | ok x w' =>
    cases x with
    | enter f args => exact ⟨fun h => (by cases h), CallsIn.inRound r (callsIn_wide.2 h)⟩
    | row row args => exact ⟨fun h => (by cases h), fun c cs _ => let ⟨v, w', q, s⟩ := h c cs; ⟨v, w', q, stepsIn_wide.2 s⟩⟩
    | value v => exact h
    | skip => exact h
    | defer d => exact h
    | _ => exact h.elim
  | halt x w' => cases x <;> exact h
/-- No operation is a defer statement. -/
def noDefer (ops : Array Oper) : Bool := ops.all fun o => match o.op with | .defer _ => false | _ => true
theorem noDefer_at {ops : Array Oper} (h : noDefer ops = true) {i : Nat} {o : Oper} (hi : ops[i]? = some o) : ∀ c, o.op ≠ .defer c := fun c e => by
  unfold noDefer at h
  rw [Array.all_eq_true] at h
  obtain ⟨h1, h2⟩ := Array.getElem?_eq_some_iff.1 hi
  have := h i h1
  rw [h2, e] at this
  cases this
theorem anyIn_round {P : Program} {r n : Nat} {md : Region.Mode} {ops : Array Oper} {Q : Exit → Act → World → Prop} (hd : noDefer ops = true) (hL : ¬ LetsOut Q) : ∀ (fuel : Nat) (listed : Array Bool) (a : Act) (w : World), wpAny P md ops Q fuel listed a w → wpAnyIn (Fence.wide.inRound r) n P md ops Q fuel listed a w
  | 0, _, _, _, h => h
  | fuel + 1, listed, a, w, h => by
    refine ⟨h.1, fun i hi => ?_⟩
    have h2 := wpOp_mono (K' := wpAnyIn (Fence.wide.inRound r) n P md ops Q fuel (listed.setIfInBounds i true)) (fun a w h => anyIn_round hd hL fuel _ a w h) (h.2 i hi)
    unfold wpOp at h2
    unfold wpOpIn
    cases ho : ops[i]? with
    | none => rw [ho] at h2; exact h2
    | some o =>
      rw [ho] at h2
      dsimp only at h2 ⊢
      split
      · rename_i hw
        rw [if_pos hw] at h2
        rcases h2 with h2 | h2
        · exact operIn_round (noDefer_at hd ho) h2
        · exact absurd h2.2 hL
      · rename_i hw
        rw [if_neg hw] at h2
        exact ⟨fun _ _ => trivial, h2⟩
theorem any_still_tail {P : Program} {Q : Exit → Act → World → Prop} {a : Act} {w : World} {l : List Oper} (n : Nat) (hB : Region.lexTailB .any l.toArray n = true)
    (h : wpStill P l.toArray w (fun a' => wpList P l.toArray Q (l.drop n) a' w) (l.take n) a) : wpAny P .any l.toArray Q l.toArray.size (Array.replicate l.toArray.size false) a w := by
  unfold Region.lexTailB at hB
  simp only [Bool.and_eq_true, decide_eq_true_eq] at hB
  obtain ⟨⟨⟨⟨h1, h2⟩, h3⟩, h4⟩, h5⟩ := hB
  have hn : n < l.length := by simpa using h2
  have e1 : (l.take n).length = n := by rw [List.length_take]; omega
  have e2 : (l.drop n).length = l.toArray.size - n := by simp
  have hK := wpAnyL_lex (md := .any) (g := l.toArray.size - n) h1 h3 h4 h2 (l.take n) 0 (Array.replicate l.toArray.size false) a
    (fun j hj => by rw [e1] at hj; simp [hj]) (by rw [Nat.zero_add]; exact e1)
    ⟨by simp, fun _ _ _ hl => (by rw [getD_replicate_false] at hl; cases hl), fun t _ ht => getD_in (by simpa using ht) (getD_replicate_false _ _)⟩ (by rw [e1]; exact h5) h
  have hT : ∀ listed a', Region.seqB .any l.toArray (l.toArray.size - n) n listed = true ∧ wpList P l.toArray Q (l.drop n) a' w → wpAny P .any l.toArray Q (l.toArray.size - n) listed a' w := fun listed a' hq => by
    have := wpAny_of_seq (P := P) (md := .any) (ops := l.toArray) (Q' := Q) (l.drop n) n listed a' w (fun j => by simp [List.getElem?_drop]) (by rw [e2]; exact hq.1) hq.2
    rwa [e2] at this
  have hA := wpAny_of_head (Q' := Q) hT _ _ _ hK
  rwa [e1, show n + (l.toArray.size - n) = l.toArray.size by omega] at hA
theorem wpIn_region_quiet_tail_round {P : Program} {id r m : Nat} {Q : Exit → Act → World → Prop} {a : Act} {w : World} {l : List Oper} (n : Nat) (hm : P.follows .mixedOrders = true) (hB : Region.lexTailB .any l.toArray n = true) (hd : noDefer l.toArray = true) (hL : ¬ LetsOut Q)
    (h : wpQuiet P l.toArray (fun x => x = w.drew) (fun a' => wpList P l.toArray Q (l.drop n) a' w.drew) (l.take n) a) : (Code.region id l.toArray true).wpIn (Fence.wide.inRound r) m P Q a w :=
  wpIn_region_any hm (anyIn_round hd hL _ _ _ _ (any_still_tail n hB (wpStill_of_quiet _ _ h)))
end Go.Proofs.Ytahaimecchdfeaa

/-
  Plain facts of layer 54: floods: who has crashed, who is reached, what is known, the states, the facts.
-/
namespace Go.Proofs.Ytahaimecchdfeaa
open Go.RowKit

/-- Whether a process has crashed. -/
def goB (rd : Nat → Int) (i t : Nat) : Bool := rd i != 0 && decide (rd i ≤ (t : Int))
/-- Whether a process sends to another one in a round. -/
def reB (rd tv : Nat → Int) (i k t : Nat) : Bool := !goB rd i t || (rd i == (t : Int) && (tv i).toNat.testBit k)
def mvB (rd tv : Nat → Int) (t i k : Nat) : Bool := i != k && reB rd tv i k t && !goB rd k t
/-- What a process knows after the messages of the first i. -/
def orU (rd tv : Nat → Int) (t : Nat) (f : Nat → Nat) (k : Nat) : Nat → Nat
  | 0 => f k
  | i + 1 => if mvB rd tv t i k then orU rd tv t f k i ||| f i else orU rd tv t f k i
theorem orU_yes {rd tv : Nat → Int} {t i k : Nat} {f : Nat → Nat} (h : mvB rd tv t i k = true) : orU rd tv t f k (i + 1) = orU rd tv t f k i ||| f i := if_pos h
theorem orU_no {rd tv : Nat → Int} {t i k : Nat} {f : Nat → Nat} (h : mvB rd tv t i k = false) : orU rd tv t f k (i + 1) = orU rd tv t f k i := if_neg (by rw [h]; decide)
/-- What a process knows at a time. -/
def kn (rd tv : Nat → Int) (n : Nat) : Nat → Nat → Nat
  | 0, k => 2 ^ k
  | t + 1, k => orU rd tv (t + 1) (kn rd tv n t) k n
/-- .. while the rows are gone through: i rows, and k columns of the next one. -/
def orR (rd tv : Nat → Int) (t : Nat) (f : Nat → Nat) (i j : Nat) : Nat → Nat := fun k => if k < j then orU rd tv t f k (i + 1) else orU rd tv t f k i
theorem orU_lt {rd tv : Nat → Int} {t n : Nat} {f : Nat → Nat} (hf : ∀ k, k < n → f k < 2 ^ n) {k : Nat} (hk : k < n) : ∀ i, i ≤ n → orU rd tv t f k i < 2 ^ n
  | 0, _ => hf k hk
  | i + 1, hi => by
    have h1 := orU_lt (rd := rd) (tv := tv) (t := t) hf hk i (by omega)
    have h2 := hf i (by omega)
    unfold orU
    by_cases h : mvB rd tv t i k = true
    · rw [if_pos h]; exact Nat.or_lt_two_pow h1 h2
    · rw [if_neg h]; exact h1
theorem kn_lt (rd tv : Nat → Int) (n : Nat) : ∀ t k, k < n → kn rd tv n t k < 2 ^ n
  | 0, k, hk => Nat.pow_lt_pow_right (by decide) hk
  | t + 1, k, hk => orU_lt (fun k hk => kn_lt rd tv n t k hk) hk n (Nat.le_refl _)
theorem orR_set {rd tv : Nat → Int} {t i k : Nat} {f : Nat → Nat} (u : Nat) : orR rd tv t f i (k + 1) u = if u = k then orU rd tv t f k (i + 1) else orR rd tv t f i k u := by
  unfold orR
  by_cases h : u = k
  · subst h; rw [if_pos (by omega), if_pos rfl]
  · rw [if_neg h]
    by_cases h2 : u < k
    · rw [if_pos (by omega), if_pos h2]
    · rw [if_neg (by omega), if_neg h2]
theorem orR_zero {rd tv : Nat → Int} {t i : Nat} {f : Nat → Nat} (u : Nat) : orR rd tv t f i 0 u = orU rd tv t f u i := if_neg (Nat.not_lt_zero _)
theorem orR_end {rd tv : Nat → Int} {t i n : Nat} {f : Nat → Nat} {u : Nat} (h : u < n) : orR rd tv t f i n u = orU rd tv t f u (i + 1) := if_pos h
/-- The digits of a state. -/
def dgS (x kb : Nat) : Nat → Nat
  | 0 => 0
  | k + 1 => dgS x kb k + (if kb.testBit k then 3 ^ k * (1 + (if x.testBit k then 1 else 0)) else 0)
theorem dgS_lt (x kb : Nat) : ∀ k, dgS x kb k < 3 ^ k
  | 0 => Nat.zero_lt_one
  | k + 1 => by
    have h := dgS_lt x kb k
    have e : 3 ^ (k + 1) = 3 ^ k * 3 := Nat.pow_succ 3 k
    unfold dgS
    by_cases h1 : kb.testBit k = true
    · rw [if_pos h1]
      by_cases h2 : x.testBit k = true
      · rw [if_pos h2]; omega
      · rw [if_neg h2]; omega
    · rw [if_neg h1]; omega
def stN (rd tv : Nat → Int) (n x t i : Nat) : Nat := if goB rd i t then 0 else 1 + t * 3 ^ n + dgS x (kn rd tv n t i) n
def fcN (rd : Nat → Int) (n x t : Nat) : Nat → Nat
  | 0 => x
  | i + 1 => if goB rd i t then fcN rd n x t i else fcN rd n x t i ||| 2 ^ (n + i)
theorem fcN_lt {rd : Nat → Int} {n x t : Nat} (hx : x < 2 ^ (n + n)) : ∀ i, i ≤ n → fcN rd n x t i < 2 ^ (n + n)
  | 0, _ => hx
  | i + 1, hi => by
    have h := fcN_lt (rd := rd) (t := t) hx i (by omega)
    unfold fcN
    by_cases h1 : goB rd i t = true
    · rw [if_pos h1]; exact h
    · rw [if_neg h1]; exact Nat.or_lt_two_pow h (Nat.pow_lt_pow_right (by decide) (by omega))
theorem three_le {n : Nat} (hn : n ≤ 4) : 3 ^ n ≤ 81 := Nat.pow_le_pow_right (n := 3) (j := 4) (by decide) hn
theorem stN_le {rd tv : Nat → Int} {n x t i : Nat} (hn : n ≤ 4) (ht : t ≤ 3) : stN rd tv n x t i ≤ 400 := by
  unfold stN
  have h := dgS_lt x (kn rd tv n t i) n
  have h3 := three_le hn
  by_cases h1 : goB rd i t = true
  · rw [if_pos h1]; omega
  · rw [if_neg h1]
    have : t * 3 ^ n ≤ 3 * 81 := Nat.mul_le_mul ht h3
    omega
/-- Whether an element of the crashes is refused. -/
def crR (n R : Nat) (rd tv : Nat → Int) (i : Nat) : Bool :=
  decide (rd i < 0) || decide ((R : Int) < rd i) || decide (tv i < 0) || decide (((2 ^ n : Nat) : Int) ≤ tv i) || (tv i).toNat.testBit i || (rd i == 0 && tv i != 0)
/-- The error of a flood. -/
def flE (n R x : Int) (m : Nat) (rd tv : Nat → Int) : Nat :=
  if (2 ≤ n ∧ n ≤ 4 ∧ 0 ≤ R ∧ R ≤ 3) ∧ 0 ≤ x ∧ x < ((2 ^ n.toNat : Nat) : Int) then (if (m : Int) = n then (if allB m (fun i => !crR n.toNat R.toNat rd tv i) then 0 else 2) else 3) else 2
theorem flE_ok {n R x : Int} {m : Nat} {rd tv : Nat → Int} (h : flE n R x m rd tv = 0) : ∃ N r X : Nat, n = N ∧ R = r ∧ x = X ∧ m = N ∧ 2 ≤ N ∧ N ≤ 4 ∧ r ≤ 3 ∧ X < 2 ^ N ∧ ∀ i, i < N → crR N r rd tv i = false := by
  unfold flE at h
  by_cases h1 : (2 ≤ n ∧ n ≤ 4 ∧ 0 ≤ R ∧ R ≤ 3) ∧ 0 ≤ x ∧ x < ((2 ^ n.toNat : Nat) : Int)
  · rw [if_pos h1] at h
    by_cases h2 : (m : Int) = n
    · rw [if_pos h2] at h
      by_cases h3 : allB m (fun i => !crR n.toNat R.toNat rd tv i) = true
      · refine ⟨n.toNat, R.toNat, x.toNat, by omega, by omega, by omega, by omega, by omega, by omega, by omega, by omega, fun i hi => ?_⟩
        have := allB_iff.1 h3 i (by omega)
        simpa using this
      · rw [if_neg h3] at h; cases h
    · rw [if_neg h2] at h; cases h
  · rw [if_neg h1] at h; cases h
end Go.Proofs.Ytahaimecchdfeaa

/-
  Plain facts: the elements of a set with the least value.
-/
namespace Go.Proofs.Ytahaimecchdfeaa
open Go.RowKit

theorem bit_lt' {s n i : Nat} (hs : s < 2 ^ n) (hi : s.testBit i = true) : i < n := by
  rcases Nat.lt_or_ge i n with h | h
  · exact h
  · rw [Nat.testBit_lt_two_pow (Nat.lt_of_lt_of_le hs (Nat.pow_le_pow_right (by decide) h))] at hi; cases hi
theorem has_bit {s n : Nat} (hs : s < 2 ^ n) (h : s ≠ 0) : ∃ i, i < n ∧ s.testBit i = true := by
  obtain ⟨i, hi⟩ := Nat.exists_testBit_of_ne_zero h
  exact ⟨i, bit_lt' hs hi, hi⟩
/-- What 'least' has after n elements. -/
def leastP (s : Nat) (f : Nat → Int) : Nat → Nat × Int
  | 0 => (0, 0)
  | v + 1 => if s.testBit v = false then leastP s f v
    else if (leastP s f v).1 = 0 ∨ f v < (leastP s f v).2 then (2 ^ v, f v)
    else if f v = (leastP s f v).2 then ((leastP s f v).1 ||| 2 ^ v, (leastP s f v).2)
    else leastP s f v
theorem leastP_lt (s : Nat) (f : Nat → Int) (n : Nat) : (leastP s f n).1 < 2 ^ n := by
  induction n with
  | zero => exact Nat.one_pos
  | succ v ih =>
    have h1 : 2 ^ v < 2 ^ (v + 1) := Nat.pow_lt_pow_right (by decide) (by omega)
    unfold leastP
    split
    · omega
    · split
      · exact h1
      · split
        · exact Nat.or_lt_two_pow (by omega) h1
        · omega

theorem leastP_inv (s : Nat) (f : Nat → Int) (n : Nat) :
    (∀ v, (leastP s f n).1.testBit v = true ↔ v < n ∧ s.testBit v = true ∧ f v = (leastP s f n).2) ∧ (∀ w, w < n → s.testBit w = true → (leastP s f n).2 ≤ f w ∧ (leastP s f n).1 ≠ 0) := by
  induction n with
  | zero => exact ⟨fun v => ⟨fun h => (by rw [show (leastP s f 0).1 = 0 from rfl, Nat.zero_testBit] at h; cases h), fun h => absurd h.1 (Nat.not_lt_zero _)⟩, fun w h => absurd h (Nat.not_lt_zero _)⟩
  | succ n ih =>
    obtain ⟨ih1, ih2⟩ := ih
    have hS : leastP s f (n + 1) = if s.testBit n = false then leastP s f n
      else if (leastP s f n).1 = 0 ∨ f n < (leastP s f n).2 then (2 ^ n, f n)
      else if f n = (leastP s f n).2 then ((leastP s f n).1 ||| 2 ^ n, (leastP s f n).2)
      else leastP s f n := rfl
    have hnz : ∀ m : Nat, (m ||| 2 ^ n) ≠ 0 := fun m h => by
      have := congrArg (fun x => Nat.testBit x n) h
      simp [Nat.testBit_or, Nat.testBit_two_pow_self] at this
    cases hb : s.testBit n
    · rw [hS, if_pos hb]
      refine ⟨fun v => ⟨fun h => ?_, fun h => ?_⟩, fun w hw hsw => ?_⟩
      · have := (ih1 v).1 h; exact ⟨by omega, this.2⟩
      · refine (ih1 v).2 ⟨?_, h.2⟩
        rcases Nat.lt_succ_iff_lt_or_eq.1 h.1 with h1 | rfl
        · exact h1
        · rw [hb] at h; cases h.2.1
      · rcases Nat.lt_succ_iff_lt_or_eq.1 hw with h1 | rfl
        · exact ih2 w h1 hsw
        · rw [hb] at hsw; cases hsw
    · rw [hS, if_neg (by rw [hb]; exact fun h => by cases h)]
      by_cases h1 : (leastP s f n).1 = 0 ∨ f n < (leastP s f n).2
      · rw [if_pos h1]
        have hno : ∀ w, w < n → s.testBit w = true → f n < f w := fun w hw hsw => by
          obtain ⟨h2, h3⟩ := ih2 w hw hsw
          rcases h1 with h1 | h1
          · exact absurd h1 h3
          · omega
        refine ⟨fun v => ⟨fun h => ?_, fun h => ?_⟩, fun w hw hsw => ⟨?_, ?_⟩⟩
        · have : n = v := by simpa [Nat.testBit_two_pow] using h
          subst this; exact ⟨by omega, hb, rfl⟩
        · rcases Nat.lt_succ_iff_lt_or_eq.1 h.1 with h2 | rfl
          · have := hno v h2 h.2.1; have := h.2.2; omega
          · exact Nat.testBit_two_pow_self
        · rcases Nat.lt_succ_iff_lt_or_eq.1 hw with h2 | rfl
          · exact Int.le_of_lt (hno w h2 hsw)
          · exact Int.le_refl _
        · have := Nat.two_pow_pos n; show 2 ^ n ≠ 0; omega
      · rw [if_neg h1]
        by_cases h2 : f n = (leastP s f n).2
        · rw [if_pos h2]
          refine ⟨fun v => ⟨fun h => ?_, fun h => ?_⟩, fun w hw hsw => ⟨?_, hnz _⟩⟩
          · have h' : (leastP s f n).1.testBit v = true ∨ n = v := by simpa [Nat.testBit_or, Nat.testBit_two_pow] using h
            rcases h' with h' | rfl
            · have := (ih1 v).1 h'; exact ⟨by omega, this.2⟩
            · exact ⟨by omega, hb, h2⟩
          · show ((leastP s f n).1 ||| 2 ^ n).testBit v = true
            rw [Nat.testBit_or]
            rcases Nat.lt_succ_iff_lt_or_eq.1 h.1 with h3 | rfl
            · rw [(ih1 v).2 ⟨h3, h.2⟩]; rfl
            · simp [Nat.testBit_two_pow_self]
          · rcases Nat.lt_succ_iff_lt_or_eq.1 hw with h3 | rfl
            · exact (ih2 w h3 hsw).1
            · show (leastP s f w).2 ≤ f w; omega
        · rw [if_neg h2]
          refine ⟨fun v => ⟨fun h => ?_, fun h => ?_⟩, fun w hw hsw => ?_⟩
          · have := (ih1 v).1 h; exact ⟨by omega, this.2⟩
          · refine (ih1 v).2 ⟨?_, h.2⟩
            rcases Nat.lt_succ_iff_lt_or_eq.1 h.1 with h3 | rfl
            · exact h3
            · exact absurd h.2.2 h2
          · rcases Nat.lt_succ_iff_lt_or_eq.1 hw with h3 | rfl
            · exact ih2 w h3 hsw
            · refine ⟨?_, fun h => h1 (.inl h)⟩
              have : ¬ f w < (leastP s f w).2 := fun h => h1 (.inr h)
              omega
/-- The set that 'least' returns: the elements with the least value. -/
theorem least_bit (s : Nat) (f : Nat → Int) (n v : Nat) : (leastP s f n).1.testBit v = true ↔ v < n ∧ s.testBit v = true ∧ ∀ w, w < n → s.testBit w = true → f v ≤ f w := by
  obtain ⟨h1, h2⟩ := leastP_inv s f n
  rw [h1]
  constructor
  · rintro ⟨a, b, c⟩
    exact ⟨a, b, fun w hw hsw => by rw [c]; exact (h2 w hw hsw).1⟩
  · rintro ⟨a, b, c⟩
    refine ⟨a, b, ?_⟩
    have h3 := h2 v a b
    obtain ⟨i, hi, hib⟩ := has_bit (leastP_lt s f n) h3.2
    obtain ⟨a', b', c'⟩ := (h1 i).1 hib
    have := c i a' b'
    omega

end Go.Proofs.Ytahaimecchdfeaa

/-
  Plain facts: ranks without gaps: counting, sorting.
-/
namespace Go.Proofs.Ytahaimecchdfeaa
open Go.RowKit

/-- How many of 0 .. n - 1. -/
def cntB : Nat → (Nat → Bool) → Nat
  | 0, _ => 0
  | k + 1, p => if p k = true then cntB k p + 1 else cntB k p
theorem cntB_le (n : Nat) (p : Nat → Bool) : cntB n p ≤ n := by
  induction n with
  | zero => exact Nat.le_refl _
  | succ k ih => unfold cntB; split <;> omega
theorem cntB_mono {n : Nat} {p q : Nat → Bool} (h : ∀ u, u < n → p u = true → q u = true) : cntB n p ≤ cntB n q := by
  induction n with
  | zero => exact Nat.le_refl _
  | succ k ih =>
    have := ih fun u hu => h u (by omega)
    unfold cntB
    by_cases hp : p k = true
    · rw [if_pos hp, if_pos (h k (by omega) hp)]; omega
    · rw [if_neg hp]; split <;> omega
theorem cntB_lt {n : Nat} {p q : Nat → Bool} (h : ∀ u, u < n → p u = true → q u = true) {x : Nat} (hx : x < n) (h1 : p x = false) (h2 : q x = true) : cntB n p < cntB n q := by
  induction n with
  | zero => omega
  | succ k ih =>
    unfold cntB
    rcases Nat.lt_succ_iff_lt_or_eq.1 hx with h3 | rfl
    · have := ih (fun u hu => h u (by omega)) h3
      by_cases hp : p k = true
      · rw [if_pos hp, if_pos (h k (by omega) hp)]; omega
      · rw [if_neg hp]; split <;> omega
    · have := cntB_mono (n := x) (p := p) (q := q) fun u hu => h u (by omega)
      rw [if_neg (by rw [h1]; exact fun h => by cases h), if_pos h2]; omega
theorem cntB_congr {n : Nat} {p q : Nat → Bool} (h : ∀ u, u < n → p u = q u) : cntB n p = cntB n q := by
  induction n with
  | zero => rfl
  | succ k ih => unfold cntB; rw [h k (by omega), ih fun u hu => h u (by omega)]
theorem cntB_all (n : Nat) : cntB n (fun _ => true) = n := by
  induction n with
  | zero => rfl
  | succ k ih => unfold cntB; rw [if_pos rfl, ih]
theorem cntB_filter (n : Nat) (p : Nat → Bool) : cntB n p = ((List.range n).filter p).length := by
  induction n with
  | zero => rfl
  | succ k ih =>
    unfold cntB
    rw [List.range_succ, List.filter_append, List.length_append, ih]
    by_cases hp : p k = true
    · rw [if_pos hp]; simp [hp]
    · rw [if_neg hp]; simp [hp]
theorem allB_congr {n : Nat} {p q : Nat → Bool} (h : ∀ u, u < n → p u = q u) : allB n p = allB n q := by
  rw [Bool.eq_iff_iff, allB_iff, allB_iff]
  exact ⟨fun a u hu => by rw [← h u hu]; exact a u hu, fun a u hu => by rw [h u hu]; exact a u hu⟩

/-- u comes first with its value, which is less than that of v. -/
def canB (f : Nat → Int) (v u : Nat) : Bool := decide (f u < f v) && allB u (fun x => f x != f u)
/-- The rank of v without gaps. -/
def canF (n : Nat) (f : Nat → Int) (v : Nat) : Nat := cntB n (canB f v)
theorem canB_iff {f : Nat → Int} {v u : Nat} : canB f v u = true ↔ f u < f v ∧ allB u (fun x => f x != f u) = true := by unfold canB; simp
theorem canF_lt {n v : Nat} {f : Nat → Int} (hv : v < n) : canF n f v < n := by
  have := cntB_lt (n := n) (p := canB f v) (q := fun _ => true) (fun _ _ _ => rfl) hv (by unfold canB; simp) rfl
  rw [cntB_all] at this; exact this
theorem first_of (f : Nat → Int) (u : Nat) : ∃ x, x ≤ u ∧ f x = f u ∧ allB x (fun y => f y != f x) = true := by
  induction u using Nat.strongRecOn with
  | _ u ih =>
    cases h : allB u (fun y => f y != f u)
    · obtain ⟨y, hy, he⟩ := not_allB h
      have he : f y = f u := by simpa using he
      obtain ⟨x, h1, h2, h3⟩ := ih y hy
      exact ⟨x, by omega, h2.trans he, h3⟩
    · exact ⟨u, Nat.le_refl _, rfl, h⟩
theorem canF_mono {n u v : Nat} {f : Nat → Int} (hu : u < n) (h : f u < f v) : canF n f u < canF n f v := by
  obtain ⟨x, h1, h2, h3⟩ := first_of f u
  refine cntB_lt (x := x) (fun y _ hy => ?_) (by omega) ?_ (canB_iff.2 ⟨by omega, h3⟩)
  · have := canB_iff.1 hy; exact canB_iff.2 ⟨by omega, this.2⟩
  · cases hc : canB f u x
    · rfl
    · have := canB_iff.1 hc; omega
theorem canF_eq {n u v : Nat} {f : Nat → Int} (h : f u = f v) : canF n f u = canF n f v := by
  unfold canF; refine cntB_congr fun x _ => ?_
  unfold canB; rw [h]
theorem canF_iff {n u v : Nat} {f : Nat → Int} (hu : u < n) (hv : v < n) : canF n f u < canF n f v ↔ f u < f v := by
  constructor
  · intro h
    rcases Int.lt_trichotomy (f u) (f v) with h1 | h1 | h1
    · exact h1
    · rw [canF_eq h1] at h; omega
    · have := canF_mono (n := n) hv h1; omega
  · exact canF_mono hu
theorem canF_le_iff {n u v : Nat} {f : Nat → Int} (hu : u < n) (hv : v < n) : canF n f u ≤ canF n f v ↔ f u ≤ f v := by
  have := canF_iff (f := f) hv hu; omega
theorem canF_congr {n v : Nat} {f g : Nat → Int} (hv : v < n) (h : ∀ x y, x < n → y < n → (f x < f y ↔ g x < g y)) : canF n f v = canF n g v := by
  refine cntB_congr fun u hu => ?_
  have e1 : decide (f u < f v) = decide (g u < g v) := by rw [decide_eq_decide]; exact h u v hu hv
  have e2 : allB u (fun x => f x != f u) = allB u (fun x => g x != g u) := allB_congr fun x hx => by
    have h1 := h x u (by omega) hu
    have h2 := h u x hu (by omega)
    rw [Bool.eq_iff_iff, bne_iff_ne, bne_iff_ne]; omega
  unfold canB; rw [e1, e2]
theorem canF_idem {n v : Nat} {f : Nat → Int} (hv : v < n) : canF n (fun u => (canF n f u : Int)) v = canF n f v :=
  canF_congr hv fun x y hx hy => by rw [← canF_iff (f := f) hx hy]; omega
/-- The least elements depend on the order alone. -/
theorem least_congr {s n : Nat} {f g : Nat → Int} (h : ∀ x y, x < n → y < n → (f x ≤ f y ↔ g x ≤ g y)) : (leastP s f n).1 = (leastP s g n).1 := by
  apply Nat.eq_of_testBit_eq
  intro i
  rw [Bool.eq_iff_iff, least_bit, least_bit]
  constructor
  · rintro ⟨a, b, c⟩; exact ⟨a, b, fun w hw hs => (h i w a hw).1 (c w hw hs)⟩
  · rintro ⟨a, b, c⟩; exact ⟨a, b, fun w hw hs => (h i w a hw).2 (c w hw hs)⟩
theorem least_can {s n : Nat} {f : Nat → Int} : (leastP s (fun u => (canF n f u : Int)) n).1 = (leastP s f n).1 :=
  least_congr fun x y hx hy => by rw [← canF_le_iff (f := f) hx hy]; omega

/-! ### the place in the sorted list -/
theorem upTo_spec (d : Array Int) (hs : ∀ i j, i ≤ j → j < d.size → d[i]! ≤ d[j]!) (m : Nat) (hm : m ≤ d.size) :
    (Lib.compactUpTo d m).Pairwise (· < ·) ∧ (∀ x, x ∈ Lib.compactUpTo d m ↔ ∃ j, j < m ∧ d[j]! = x) := by
  induction m with
  | zero => exact ⟨by simp [Lib.compactUpTo], fun x => by simp [Lib.compactUpTo]⟩
  | succ m ih =>
    obtain ⟨i1, i2⟩ := ih (by omega)
    rw [Lib.compactUpTo_succ]
    by_cases hk : Lib.keeps d m = true
    · rw [if_pos hk]
      have hk' : m = 0 ∨ d[m]! ≠ d[m - 1]! := by simpa [Lib.keeps] using hk
      constructor
      · rw [List.pairwise_append]
        refine ⟨i1, by simp, fun x hx y hy => ?_⟩
        obtain rfl : y = d[m]! := by simpa using hy
        obtain ⟨j, hj, rfl⟩ := (i2 x).1 hx
        have h1 := hs j (m - 1) (by omega) (by omega)
        have h2 := hs (m - 1) m (by omega) (by omega)
        rcases hk' with h | h <;> omega
      · intro x
        rw [List.mem_append, i2]
        constructor
        · rintro (⟨j, hj, rfl⟩ | h)
          · exact ⟨j, by omega, rfl⟩
          · exact ⟨m, by omega, (by simpa using h : x = d[m]!).symm⟩
        · rintro ⟨j, hj, rfl⟩
          rcases Nat.lt_succ_iff_lt_or_eq.1 hj with h | rfl
          · exact .inl ⟨j, h, rfl⟩
          · exact .inr (by simp)
    · rw [if_neg hk, List.append_nil]
      have hk' : ¬ (m = 0 ∨ d[m]! ≠ d[m - 1]!) := by simpa [Lib.keeps] using hk
      have h0 : m ≠ 0 := fun h => hk' (.inl h)
      have h1 : d[m]! = d[m - 1]! := Classical.byContradiction fun h => hk' (.inr h)
      refine ⟨i1, fun x => ?_⟩
      rw [i2]
      constructor
      · rintro ⟨j, hj, rfl⟩; exact ⟨j, by omega, rfl⟩
      · rintro ⟨j, hj, rfl⟩
        rcases Nat.lt_succ_iff_lt_or_eq.1 hj with h | rfl
        · exact ⟨j, h, rfl⟩
        · exact ⟨j - 1, by omega, h1.symm⟩
theorem idxFrom_sorted : ∀ (l : List Int) (x : Int) (i : Nat), l.Pairwise (· < ·) → x ∈ l → Lib.idxFrom l x i = ((i + (l.filter (fun y => decide (y < x))).length : Nat) : Int)
  | [], x, i, _, h => by cases h
  | z :: zs, x, i, hp, h => by
    rw [List.pairwise_cons] at hp
    unfold Lib.idxFrom
    by_cases hz : z = x
    · subst hz
      rw [if_pos rfl]
      have : (z :: zs).filter (fun y => decide (y < z)) = [] := by
        rw [List.filter_eq_nil_iff]
        intro y hy
        rcases List.mem_cons.1 hy with rfl | hy
        · simp
        · have := hp.1 y hy; simp; omega
      rw [this]; simp
    · rw [if_neg hz]
      have hx : x ∈ zs := by
        rcases List.mem_cons.1 h with h | h
        · exact absurd h.symm hz
        · exact h
      rw [idxFrom_sorted zs x (i + 1) hp.2 hx]
      have hlt := hp.1 x hx
      rw [List.filter_cons, if_pos (by simpa using hlt), List.length_cons]
      congr 1; omega
/-- The values of the ranks, in order. -/
def zsOf (f : Nat → Int) (n : Nat) : List Int := (List.range n).map f
theorem zsOf_length (f : Nat → Int) (n : Nat) : (zsOf f n).length = n := by simp [zsOf]
theorem zsOf_mem {f : Nat → Int} {n : Nat} {x : Int} : x ∈ zsOf f n ↔ ∃ u, u < n ∧ f u = x := by simp [zsOf]
theorem zsOf_getD {f : Nat → Int} {n u : Nat} (h : u < n) : (zsOf f n).getD u 0 = f u := by simp [zsOf, h]
def sortZ (l : List Int) : List Int := l.mergeSort fun x y => decide (x ≤ y)
theorem sortZ_perm (l : List Int) : (sortZ l).Perm l := List.mergeSort_perm _ _
theorem sortZ_le (l : List Int) : (sortZ l).Pairwise (· ≤ ·) := by
  have := List.pairwise_mergeSort (le := fun x y : Int => decide (x ≤ y)) (fun a b c h1 h2 => by simp only [decide_eq_true_eq] at h1 h2 ⊢; omega) (fun a b => by simp only [Bool.or_eq_true, decide_eq_true_eq]; omega) l
  exact this.imp (fun h => by simpa using h)
theorem compact_sorted (l : List Int) : (Lib.compact (sortZ l)).Pairwise (· < ·) ∧ ∀ x, x ∈ Lib.compact (sortZ l) ↔ x ∈ l := by
  have hs : ∀ i j, i ≤ j → j < (sortZ l).toArray.size → (sortZ l).toArray[i]! ≤ (sortZ l).toArray[j]! := by
    intro i j hij hj
    have hj' : j < (sortZ l).length := by simpa using hj
    rcases Nat.lt_or_ge i j with h | h
    · have := List.pairwise_iff_getElem.1 (sortZ_le l) i j (by omega) hj' h
      simpa [hj', show i < (sortZ l).length by omega] using this
    · obtain rfl : i = j := by omega
      exact Int.le_refl _
  obtain ⟨h1, h2⟩ := upTo_spec (sortZ l).toArray hs (sortZ l).length (by simp)
  refine ⟨h1, fun x => ?_⟩
  rw [← (sortZ_perm l).mem_iff]
  refine (h2 x).trans ?_
  rw [List.mem_iff_getElem]
  constructor
  · rintro ⟨j, hj, he⟩
    exact ⟨j, hj, by simpa [hj] using he⟩
  · rintro ⟨j, hj, he⟩
    exact ⟨j, hj, by simpa [hj] using he⟩
/-- The place of a value among the sorted ones. -/
theorem idx_can {f : Nat → Int} {n v : Nat} (hv : v < n) : Lib.idxOf (Lib.compact (sortZ (zsOf f n))) (f v) = (canF n f v : Nat) := by
  obtain ⟨h1, h2⟩ := compact_sorted (zsOf f n)
  unfold Lib.idxOf
  rw [idxFrom_sorted _ _ _ h1 ((h2 _).2 (zsOf_mem.2 ⟨v, hv, rfl⟩)), Nat.zero_add]
  congr 1
  unfold canF
  rw [cntB_filter, ← @List.length_map _ _ ((List.range n).filter (canB f v)) f]
  refine List.Perm.length_eq ((List.perm_ext_iff_of_nodup ?_ ?_).2 fun x => ?_)
  · exact (h1.filter _).imp fun h => Int.ne_of_lt h
  · rw [List.nodup_iff_pairwise_ne, List.pairwise_map, List.pairwise_filter]
    refine List.pairwise_lt_range.imp fun {a b} hab _ hb => ?_
    have := allB_iff.1 (canB_iff.1 hb).2 a hab
    simpa using this
  · rw [List.mem_filter, h2, zsOf_mem, List.mem_map]
    constructor
    · rintro ⟨⟨u, hu, rfl⟩, hlt⟩
      obtain ⟨y, y1, y2, y3⟩ := first_of f u
      refine ⟨y, ?_, y2⟩
      rw [List.mem_filter, List.mem_range]
      exact ⟨by omega, canB_iff.2 ⟨by have : f u < f v := by simpa using hlt
                                      omega, y3⟩⟩
    · rintro ⟨u, hu, rfl⟩
      rw [List.mem_filter, List.mem_range] at hu
      exact ⟨⟨u, hu.1, rfl⟩, by simpa using (canB_iff.1 hu.2).1⟩
end Go.Proofs.Ytahaimecchdfeaa

/-
  Plain facts of layer 54: clean rounds, and what all know behind one.
-/
namespace Go.Proofs.Ytahaimecchdfeaa
open Go.RowKit

/-- The first clean round, or 0. -/
def clN (rd : Nat → Int) (n : Nat) : Nat → Nat
  | 0 => 0
  | R + 1 => if clN rd n R ≠ 0 then clN rd n R else if allB n (fun i => rd i != ((R + 1 : Nat) : Int)) then R + 1 else 0
def clV (R : Int) (rd : Nat → Int) (n : Nat) : Nat := if 1 ≤ R ∧ R ≤ 3 then clN rd n R.toNat else 0
theorem clN_le (rd : Nat → Int) (n : Nat) : ∀ R, clN rd n R ≤ R
  | 0 => Nat.le_refl _
  | R + 1 => by
    have := clN_le rd n R
    unfold clN
    split
    · omega
    · split <;> omega
theorem clN_keep {rd : Nat → Int} {n R : Nat} (h : clN rd n R ≠ 0) : ∀ d, clN rd n (R + d) = clN rd n R
  | 0 => rfl
  | d + 1 => by
    have ih := clN_keep h d
    show (if clN rd n (R + d) ≠ 0 then clN rd n (R + d) else if allB n (fun i => rd i != ((R + d + 1 : Nat) : Int)) then R + d + 1 else 0) = _
    rw [ih, if_pos h]
theorem clN_hit {rd : Nat → Int} {n R : Nat} (h0 : clN rd n R = 0) (h : allB n (fun i => rd i != ((R + 1 : Nat) : Int)) = true) : clN rd n (R + 1) = R + 1 := by
  unfold clN; rw [if_neg (by rw [h0]; exact fun h => h rfl), if_pos h]
theorem clN_miss {rd : Nat → Int} {n R : Nat} (h0 : clN rd n R = 0) (h : allB n (fun i => rd i != ((R + 1 : Nat) : Int)) = false) : clN rd n (R + 1) = 0 := by
  unfold clN; rw [if_neg (by rw [h0]; exact fun h => h rfl), if_neg (by rw [h]; decide)]
theorem clN_clean {rd : Nat → Int} {n : Nat} : ∀ {R}, clN rd n R ≠ 0 → ∀ i, i < n → rd i ≠ ((clN rd n R : Nat) : Int)
  | 0, h => absurd rfl h
  | R + 1, h => by
    by_cases h1 : clN rd n R = 0
    · cases h2 : allB n (fun i => rd i != ((R + 1 : Nat) : Int))
      · exact absurd (clN_miss h1 h2) h
      · rw [clN_hit h1 h2]
        intro i hi
        have := allB_iff.1 h2 i hi
        simpa using this
    · have e : clN rd n (R + 1) = clN rd n R := clN_keep h1 1
      rw [e]
      exact clN_clean h1
/-- With more rounds than crashes there is a clean one. -/
theorem clN_pigeon {rd : Nat → Int} {n : Nat} : ∀ {R}, clN rd n R = 0 → R ≤ cntB n (fun i => decide (1 ≤ rd i ∧ rd i ≤ (R : Int)))
  | 0, _ => Nat.zero_le _
  | R + 1, h => by
    have h1 : clN rd n R = 0 := by
      apply Classical.byContradiction
      intro h1
      have e : clN rd n (R + 1) = clN rd n R := clN_keep h1 1
      rw [e] at h; exact h1 h
    have h2 : allB n (fun i => rd i != ((R + 1 : Nat) : Int)) = false := by
      cases h2 : allB n (fun i => rd i != ((R + 1 : Nat) : Int))
      · rfl
      · rw [clN_hit h1 h2] at h; omega
    obtain ⟨i, hi, he⟩ : ∃ i, i < n ∧ rd i = ((R + 1 : Nat) : Int) := by
      apply Classical.byContradiction
      intro hn
      have : allB n (fun i => rd i != ((R + 1 : Nat) : Int)) = true := allB_iff.2 fun i hi => by
        rw [bne_iff_ne]; exact fun e => hn ⟨i, hi, e⟩
      rw [h2] at this; cases this
    have ih := clN_pigeon h1
    have := cntB_lt (n := n) (p := fun i => decide (1 ≤ rd i ∧ rd i ≤ (R : Int))) (q := fun i => decide (1 ≤ rd i ∧ rd i ≤ ((R + 1 : Nat) : Int))) (fun u _ hu => by
      simp only [decide_eq_true_eq] at hu ⊢; omega) hi (by simp only [decide_eq_false_iff_not]; omega) (by simp only [decide_eq_true_eq]; omega)
    omega
theorem clN_crashed {rd : Nat → Int} {n R : Nat} (h : clN rd n R = 0) : R ≤ cntB n (fun i => decide (0 < rd i)) := by
  have h1 := clN_pigeon h
  have h2 := cntB_mono (n := n) (p := fun i => decide (1 ≤ rd i ∧ rd i ≤ (R : Int))) (q := fun i => decide (0 < rd i)) (fun u _ hu => by
    simp only [decide_eq_true_eq] at hu ⊢; omega)
  omega
/-! ### what all know -/
theorem goB_step {rd : Nat → Int} {i t : Nat} (h : goB rd i (t + 1) = false) : goB rd i t = false := by
  unfold goB at h ⊢
  rw [Bool.and_eq_false_iff] at h ⊢
  rcases h with h | h
  · exact .inl h
  · rw [decide_eq_false_iff_not] at h
    exact .inr (decide_eq_false (by omega))
/-- The union of what the processes of a kind know. -/
def uni (p : Nat → Bool) (f : Nat → Nat) : Nat → Nat
  | 0 => 0
  | i + 1 => if p i then uni p f i ||| f i else uni p f i
theorem uni_has {p : Nat → Bool} {f : Nat → Nat} {k : Nat} (hp : p k = true) : ∀ n, k < n → uni p f n ||| f k = uni p f n
  | 0, h => absurd h (Nat.not_lt_zero _)
  | n + 1, h => by
    unfold uni
    rcases Nat.lt_succ_iff_lt_or_eq.1 h with h1 | rfl
    · have ih := uni_has (f := f) hp n h1
      by_cases hn : p n = true
      · rw [if_pos hn, Nat.or_assoc, Nat.or_comm (f n), ← Nat.or_assoc, ih]
      · rw [if_neg hn, ih]
    · rw [if_pos hp, Nat.or_assoc, Nat.or_self]
theorem orU_uni {rd tv : Nat → Int} {s n k : Nat} {f : Nat → Nat} (hc : ∀ i, i < n → rd i ≠ ((s + 1 : Nat) : Int)) (hk : k < n) (ha : goB rd k (s + 1) = false) :
    ∀ i, i ≤ n → orU rd tv (s + 1) f k i = uni (fun i => !goB rd i (s + 1)) f i ||| f k
  | 0, _ => by show f k = 0 ||| f k; rw [Nat.zero_or]
  | i + 1, hi => by
    have ih := orU_uni (tv := tv) (f := f) hc hk ha i (by omega)
    have hm : mvB rd tv (s + 1) i k = (i != k && !goB rd i (s + 1)) := by
      have hr : reB rd tv i k (s + 1) = !goB rd i (s + 1) := by
        unfold reB
        have : (rd i == ((s + 1 : Nat) : Int)) = false := beq_eq_false_iff_ne.2 (hc i (by omega))
        rw [this, Bool.false_and, Bool.or_false]
      unfold mvB; rw [hr, ha]; simp
    unfold orU uni
    rw [hm]
    cases hg : goB rd i (s + 1)
    · rw [if_pos (show (!false) = true from rfl)]
      by_cases hik : i = k
      · subst hik
        rw [if_neg (by simp), ih, Nat.or_assoc, Nat.or_self]
      · rw [if_pos (by simp [hik]), ih, Nat.or_assoc, Nat.or_assoc, Nat.or_comm (f k)]
    · rw [if_neg (by simp), if_neg (by simp), ih]
/-- After a clean round all that have not crashed know the same. -/
theorem clean_same {rd tv : Nat → Int} {n s : Nat} (hc : ∀ i, i < n → rd i ≠ ((s + 1 : Nat) : Int)) : ∀ d, ∃ K, ∀ k, k < n → goB rd k (s + 1 + d) = false → kn rd tv n (s + 1 + d) k = K
  | 0 => ⟨uni (fun i => !goB rd i (s + 1)) (kn rd tv n s) n, fun k hk ha => by
      show orU rd tv (s + 1) (kn rd tv n s) k n = _
      rw [orU_uni hc hk ha n (Nat.le_refl _)]
      exact uni_has (by simpa using ha) n hk⟩
  | d + 1 => by
    obtain ⟨K, hK⟩ := clean_same (tv := tv) hc d
    obtain ⟨t, ht⟩ : ∃ t, t = s + 1 + d := ⟨_, rfl⟩
    rw [← ht] at hK
    refine ⟨K, fun k hk ha => ?_⟩
    rw [show s + 1 + (d + 1) = t + 1 by omega] at ha ⊢
    show orU rd tv (t + 1) (kn rd tv n t) k n = K
    have h0 := hK k hk (goB_step ha)
    have key : ∀ i, i ≤ n → orU rd tv (t + 1) (kn rd tv n t) k i = K := fun i => by
      induction i with
      | zero => exact fun _ => h0
      | succ i ih =>
        intro hi
        have ih := ih (by omega)
        unfold orU
        by_cases hm : mvB rd tv (t + 1) i k = true
        · rw [if_pos hm, ih]
          have hg : goB rd i t = false := by
            unfold mvB reB at hm
            rw [Bool.and_eq_true, Bool.and_eq_true, Bool.or_eq_true, Bool.and_eq_true] at hm
            rcases hm.1.2 with h | h
            · exact goB_step (by simpa using h)
            · have : rd i = ((t + 1 : Nat) : Int) := by simpa using h.1
              unfold goB
              rw [this, Bool.and_eq_false_iff]
              exact .inr (decide_eq_false (by omega))
          rw [hK i (by omega) hg, Nat.or_self]
        · rw [if_neg hm]; exact ih
    exact key n (Nat.le_refl _)
theorem st_same {rd tv : Nat → Int} {n s : Nat} (hc : ∀ i, i < n → rd i ≠ ((s + 1 : Nat) : Int)) (x d : Nat) : ∃ V, V ≠ 0 ∧ ∀ k, k < n → stN rd tv n x (s + 1 + d) k = if goB rd k (s + 1 + d) then 0 else V := by
  obtain ⟨K, hK⟩ := clean_same (tv := tv) hc d
  refine ⟨1 + (s + 1 + d) * 3 ^ n + dgS x K n, by omega, fun k hk => ?_⟩
  unfold stN
  cases hg : goB rd k (s + 1 + d)
  · rw [hK k hk hg]
  · rfl
end Go.Proofs.Ytahaimecchdfeaa

/-
  Maps from numbers to numbers that a call makes.
-/
namespace Go.Proofs.Ytahaimecchdfeaa
open Go.RowKit

def keyN (k : Nat) : Lit := .int .i64 (k : Nat)
theorem keyN_lit (k : Nat) : WideAt.IsKeyLit (keyN k) := by simp [WideAt.IsKeyLit, keyN]
theorem keyN_inj {j k : Nat} (h : keyN j = keyN k) : j = k := by
  unfold keyN at h
  injection h with _ h
  omega
theorem keyN_ok {k : Nat} (hk : k ≤ 65536) : keyOf Try.prog 3 (.int .i64 k) = some (keyN k) := Maps.keyOf_int_mk Try.underlying3 (by simp only [Lit.wf, Bool.and_eq_true, decide_eq_true_eq]; exact (show (-9223372036854775808 : Int) ≤ (k : Int) ∧ (k : Int) ≤ 9223372036854775807 by omega))
theorem zeroInt (w : World) : (zeroValue 3).run Try.prog w = .ok (.int .i64 0) w := by kernel_rfl
/-- A map of numbers, by its entries. -/
def IntM (w : World) (b n : Nat) (m : Nat → Option Int) : Prop :=
  ∃ D, w.ownsMap Try.prog 3 rawR b n D ∧ ∀ k, (m k = none → Maps.has D (keyN k) = false) ∧ ∀ v, m k = some v → Maps.has D (keyN k) = true ∧ D.atKey (keyN k) (.held (.int .i64 0)) = .held (.int .i64 v)
theorem IntM.made (w : World) : IntM (w.alloc (.map #[] 0)) w.heap.size 0 (fun _ => none) := ⟨.map [], World.ownsMap_made _ _ _ _, fun _ => ⟨fun _ => by simp [Maps.has], fun _ h => by cases h⟩⟩
theorem IntM.below {w w1 : World} {b n : Nat} {m : Nat → Option Int} (h : IntM w b n m) (hb : Below w.heap.size w w1) : IntM w1 b n m := by
  obtain ⟨D, ho, hm⟩ := h
  exact ⟨D, ownsMap_below ho hb, hm⟩
theorem IntM.kept {w w1 : World} {b n : Nat} {m : Nat → Option Int} {row : Option Nat} (h : IntM w b n m) (hg : w.grownBy w1 row) (hne : row ≠ some b) : IntM w1 b n m := by
  obtain ⟨D, ho, hm⟩ := h
  exact ⟨D, ho.kept hg (fun e => hne e.symm), hm⟩
theorem IntM.lt {w : World} {b n : Nat} {m : Nat → Option Int} (h : IntM w b n m) : b < w.heap.size := by
  obtain ⟨D, ho, -⟩ := h
  exact ho.lt
theorem IntM.ne_blk {w : World} {b n b' : Nat} {m : Nat → Option Int} {T : TypeId} {xs : Array Value} (h : IntM w b n m) (hb : Blk w b' T xs) : b' ≠ b := by
  obtain ⟨D, ⟨es, clock, hm, -⟩, -⟩ := h
  rintro rfl
  have := (show w.heap[b']? = _ from hb).symm.trans hm
  simp at this
theorem IntM.ne_def {w : World} {b n D : Nat} {m : Nat → Option Int} {r : Option (List Deferred)} (h : IntM w b n m) (hD : w.heap[D]? = some (.deferred r)) : D ≠ b := by
  obtain ⟨_, ⟨es, clock, hm, -⟩, -⟩ := h
  rintro rfl
  rw [hm] at hD
  cases hD
theorem IntM.bound {w : World} {b n n' : Nat} {m : Nat → Option Int} (h : IntM w b n m) (hn : n ≤ n') : IntM w b n' m := by
  obtain ⟨D, ho, hm⟩ := h
  exact ⟨D, ho.mono hn, hm⟩
theorem IntM.congr {w : World} {b n : Nat} {m m' : Nat → Option Int} (h : IntM w b n m) (e : ∀ k, m k = m' k) : IntM w b n m' := by
  have : m = m' := funext e
  exact this ▸ h
theorem IntM.look_ok {w : World} {b n k : Nat} {m : Nat → Option Int} (h : IntM w b n m) (hk : k ≤ 65536) : (Instr.lookup 96 (.map (some b)) (.int .i64 k) true).run Try.prog w = .ok (.tuple #[.int .i64 ((m k).getD 0), .bool (m k).isSome]) w := by
  obtain ⟨D, ho, hm⟩ := h
  obtain ⟨v, ps, hrun, hv⟩ := ho.look_ok (Maps.int_keyed Try.underlying3) Try.underlying96 (zeroInt w) (show rawR (.int .i64 0) = some (.held (.int .i64 0), []) from rfl) (keyN_ok hk)
  rw [hrun]
  have e := rawR_at hv
  cases hmk : m k with
  | none =>
    have h1 := (hm k).1 hmk
    rw [Maps.atKey_of_not_has h1] at e
    have e := DataW.held.inj e
    subst e
    simp only [h1, Option.getD_none, Option.isSome_none]
  | some x =>
    obtain ⟨h1, h2⟩ := (hm k).2 x hmk
    rw [h2] at e
    have e := DataW.held.inj e
    subst e
    simp only [h1, Option.getD_some, Option.isSome_some]
theorem IntM.look {w : World} {b n k : Nat} {x : Int} {m : Nat → Option Int} (h : IntM w b n m) (hk : k ≤ 65536) (hx : m k = some x) : (Instr.lookup 96 (.map (some b)) (.int .i64 k) false).run Try.prog w = .ok (.int .i64 x) w := by
  obtain ⟨D, ho, hm⟩ := h
  obtain ⟨v, ps, hrun, hv⟩ := ho.lookup (Maps.int_keyed Try.underlying3) Try.underlying96 (zeroInt w) (show rawR (.int .i64 0) = some (.held (.int .i64 0), []) from rfl) (keyN_ok hk)
  rw [hrun]
  have e := rawR_at hv
  obtain ⟨h1, h2⟩ := (hm k).2 x hx
  rw [h2] at e
  have e := DataW.held.inj e
  subst e
  rfl
theorem IntM.put {w : World} {b n k : Nat} {m : Nat → Option Int} (h : IntM w b n m) (hk : k ≤ 65536) (hn : n < 65536) (v : Int) : ∃ w', (Instr.mapUpdate 96 (.map (some b)) (.int .i64 k) (.int .i64 v)).run Try.prog w = .ok () w' ∧ IntM w' b (n + 1) (fun j => if j = k then some v else m j) ∧ w.grownBy w' (some b) := by
  obtain ⟨D, ho, hm⟩ := h
  have hM := ho.isMap
  obtain ⟨w', hrun, ho', hg⟩ := ho.update (Maps.int_keyed Try.underlying3) Try.underlying96 (by unfold maxLen; omega) (keyN_ok hk) (show rawR (.int .i64 v) = some (.held (.int .i64 v), []) from rfl)
  refine ⟨w', hrun, ⟨_, ho', fun j => ?_⟩, hg⟩
  by_cases e : j = k
  · subst e
    refine ⟨fun h => by simp at h, fun x hx => ?_⟩
    dsimp only at hx
    rw [if_pos rfl] at hx
    injection hx with hx
    subst hx
    exact ⟨Maps.has_put_same hM (keyN_lit _) _, Maps.atKey_put_same hM (keyN_lit _) _ _⟩
  · have hne : keyN j ≠ keyN k := fun h => e (keyN_inj h)
    rw [Maps.has_put_other hne, Maps.atKey_put_other hne]
    dsimp only
    rw [if_neg e]
    exact hm j
end Go.Proofs.Ytahaimecchdfeaa
