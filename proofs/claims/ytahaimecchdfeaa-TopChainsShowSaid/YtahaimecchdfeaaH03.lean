/-
  Texts of this claim, one after the other: what each proves is said at its head. No condition beyond those that its theorems name.
-/
import Derived.Test.YtahaimecchdfeaaProg
import Derived.Deep.DeepCutAuto
import Derived.Deep.RegionHeld3
import Derived.Laws.EntriesVeiled
import Derived.ControlIn
import Derived.Laws.MakeOwn
import Derived.Laws.StructEq
import Derived.RangeFuncNested
import Derived.RangeFuncBound
import Derived.RangeFuncCalls
import Derived.RangeFuncLeaves
import Derived.OwnWalkIn
import Derived.ArgAppend
import Derived.StillTailTactics
import Derived.BigQuiet
import Derived.OrdersIn
import Derived.TacticsIn
import Derived.Shelf.RegionOpenPlain
import Derived.Test.YtahaimecchdfeaaH01
import Derived.Test.YtahaimecchdfeaaH02

/-
  Walks: compact, Sub, Compact.
-/
namespace Go.Proofs.Ytahaimecchdfeaa
open Go.RowKit

/-- A canonical list: each node is finished in its turn. -/
structure Can (l : List Nd) : Prop where
  ok : NdsOk l
  uni : NdU l
  pos : 0 < l.length
  len : l.length ≤ 200
  fin : Fin3 l 0 (l.length - 1)
theorem compact_start (w W7 : World) (fv : Value) (l : List Nd) (h : NdO w 0 fv l) (e : W7 = ((((((w.alloc (.cells #[fv] 56)).alloc (.cells #[.slice none 0 0] 56)).alloc (.map #[] 0)).alloc (.cells #[.map (some (w.heap.size + 1 + 1))] 161)).alloc (.map #[] 0)).alloc (.cells #[.map (some (w.heap.size + 1 + 1 + 1 + 1))] 96)).alloc (.cells #[.nilFunc] 87)) :
    Blk W7 (w.heap.size + 1 + 1 + 1 + 1 + 1 + 1) 87 #[.nilFunc] ∧
    CpS w (W7.setCell ⟨w.heap.size + 1 + 1 + 1 + 1 + 1 + 1, 0, none⟩ (.func (.func 130) #[] #[.pointer (some ⟨w.heap.size + 1 + 1 + 1 + 1 + 1, 0, none⟩), .pointer (some ⟨w.heap.size, 0, none⟩), .pointer (some ⟨w.heap.size + 1 + 1 + 1 + 1 + 1 + 1, 0, none⟩), .pointer (some ⟨w.heap.size + 1 + 1 + 1, 0, none⟩), .pointer (some ⟨w.heap.size + 1, 0, none⟩)]))
      (w.heap.size + 1) w.heap.size (w.heap.size + 1 + 1 + 1) (w.heap.size + 1 + 1 + 1 + 1 + 1) (w.heap.size + 1 + 1 + 1 + 1 + 1 + 1) (w.heap.size + 1 + 1) (w.heap.size + 1 + 1 + 1 + 1) l fv 0 (.slice none 0 0) := by
  obtain ⟨W1, e1⟩ : ∃ W1, W1 = w.alloc (.cells #[fv] 56) := ⟨_, rfl⟩
  obtain ⟨W2, e2⟩ : ∃ W2, W2 = W1.alloc (.cells #[.slice none 0 0] 56) := ⟨_, rfl⟩
  obtain ⟨W3, e3⟩ : ∃ W3, W3 = W2.alloc (.map #[] 0) := ⟨_, rfl⟩
  obtain ⟨W4, e4⟩ : ∃ W4, W4 = W3.alloc (.cells #[.map (some (w.heap.size + 1 + 1))] 161) := ⟨_, rfl⟩
  obtain ⟨W5, e5⟩ : ∃ W5, W5 = W4.alloc (.map #[] 0) := ⟨_, rfl⟩
  obtain ⟨W6, e6⟩ : ∃ W6, W6 = W5.alloc (.cells #[.map (some (w.heap.size + 1 + 1 + 1 + 1))] 96) := ⟨_, rfl⟩
  rw [← e1, ← e2, ← e3, ← e4, ← e5, ← e6] at e
  have s1 : W1.heap.size = w.heap.size + 1 := by rw [e1]; simp
  have s2 : W2.heap.size = w.heap.size + 1 + 1 := by rw [e2, ← s1]; simp
  have s3 : W3.heap.size = w.heap.size + 1 + 1 + 1 := by rw [e3, ← s2]; simp
  have s4 : W4.heap.size = w.heap.size + 1 + 1 + 1 + 1 := by rw [e4, ← s3]; simp
  have s5 : W5.heap.size = w.heap.size + 1 + 1 + 1 + 1 + 1 := by rw [e5, ← s4]; simp
  have s6 : W6.heap.size = w.heap.size + 1 + 1 + 1 + 1 + 1 + 1 := by rw [e6, ← s5]; simp
  have b1 : Below w.heap.size w W1 := by rw [e1]; exact below_alloc _ _
  have b2 : Below W1.heap.size W1 W2 := by rw [e2]; exact below_alloc _ _
  have b3 : Below W2.heap.size W2 W3 := by rw [e3]; exact below_alloc _ _
  have b4 : Below W3.heap.size W3 W4 := by rw [e4]; exact below_alloc _ _
  have b5 : Below W4.heap.size W4 W5 := by rw [e5]; exact below_alloc _ _
  have b6 : Below W5.heap.size W5 W6 := by rw [e6]; exact below_alloc _ _
  have b7 : Below W6.heap.size W6 W7 := by rw [e]; exact below_alloc _ _
  have k1 : Blk W1 w.heap.size 56 #[fv] := by rw [e1]; exact Blk.new _ _ _
  have k2 : Blk W2 (w.heap.size + 1) 56 #[.slice none 0 0] := by rw [← s1, e2]; exact Blk.new _ _ _
  have k3 : NodM W3 (w.heap.size + 1 + 1) 0 [] := by rw [← s2, e3]; exact NodM.made _
  have k4 : Blk W4 (w.heap.size + 1 + 1 + 1) 161 #[.map (some (w.heap.size + 1 + 1))] := by rw [← s3, e4]; exact Blk.new _ _ _
  have k5 : IntM W5 (w.heap.size + 1 + 1 + 1 + 1) 0 (fun _ => none) := by rw [← s4, e5]; exact IntM.made _
  have k6 : Blk W6 (w.heap.size + 1 + 1 + 1 + 1 + 1) 96 #[.map (some (w.heap.size + 1 + 1 + 1 + 1))] := by rw [← s5, e6]; exact Blk.new _ _ _
  have k7 : Blk W7 (w.heap.size + 1 + 1 + 1 + 1 + 1 + 1) 87 #[.nilFunc] := by rw [← s6, e]; exact Blk.new _ _ _
  have hlow := below_trans (below_trans (below_trans (below_trans (below_trans (below_trans b1 b2) b3) b4) b5) b6) b7
  have k1 := (((((k1.below b2).below b3).below b4).below b5).below b6).below b7
  have k2 := ((((k2.below b3).below b4).below b5).below b6).below b7
  have k3 := (((k3.below b4).below b5).below b6).below b7
  have k4 := ((k4.below b5).below b6).below b7
  have k5 := (k5.below b6).below b7
  have k6 := k6.below b7
  refine ⟨k7, ?_⟩
  clear e e1 e2 e3 e4 e5 e6 b1 b2 b3 b4 b5 b6 b7 s1 s2 s3 s4 s5 s6
  refine ⟨hlow.setCell (p := ⟨w.heap.size + 1 + 1 + 1 + 1 + 1 + 1, 0, none⟩) (by show w.heap.size ≤ w.heap.size + 1 + 1 + 1 + 1 + 1 + 1; omega) _, by omega, by omega, by omega, by omega, by omega, k2.set_ne (k2.ne k7 (by decide)) _ _, by rw [List.take_zero]; exact NdO.nil _ _, k1.set_ne (k1.ne k7 (by decide)) _ _, h, k4.set_ne (k4.ne k7 (by decide)) _ _, ?_, k6.set_ne (k6.ne k7 (by decide)) _ _, ?_, k7.set 0 _⟩
  · rw [List.take_zero]
    exact k3.kept (gr_set W7 _ 0 _) (fun e => k3.ne_blk k7 (Option.some.inj e))
  · exact (k5.kept (gr_set W7 _ 0 _) (fun e => k5.ne_blk k7 (Option.some.inj e))).congr fun k => by rw [if_neg (by omega)]
set_option maxHeartbeats 8000000 in
set_option maxRecDepth 100000 in
theorem compact_any (fv : Value) (l : List Nd) (w : World) (h : NdO w 0 fv l) (hc : Can l) :
    Calls Try.prog 93 #[fv, .int .i64 ((l.length - 1 : Nat) : Int)] w fun e w' => ∃ v, e = .returned v ∧ NdO w' w.heap.size v l ∧ Below w.heap.size w w' := by
  obtain ⟨A, c, rfl⟩ := h.shape
  have hmm := @run_makeMap Try.prog
  obtain ⟨W7, eW7⟩ : ∃ W7, W7 = ((((((w.alloc (.cells #[.slice A l.length c] 56)).alloc (.cells #[.slice none 0 0] 56)).alloc (.map #[] 0)).alloc (.cells #[.map (some (w.heap.size + 1 + 1))] 161)).alloc (.map #[] 0)).alloc (.cells #[.map (some (w.heap.size + 1 + 1 + 1 + 1))] 96)).alloc (.cells #[.nilFunc] 87) := ⟨_, rfl⟩
  obtain ⟨k7, hS⟩ := compact_start w W7 _ l h eW7
  have hFin := fin_any w _ _ _ _ _ _ _ l (.slice A l.length c) hc.ok hc.uni hc.len hc.fin _ _ hS
  have hfr := k7.frozen (k := 0)
  have hcl := k7.cell (k := 0) rfl
  have s0 := hS.self.cell (k := 0) rfl
  have HE := Lib.hid eW7
  have HFin := Lib.hid hFin
  have hpos := hc.pos
  clear h hS hFin k7 hc eW7
  go_enter Try.func93, Try.ntmps93
  go_upto_region 5 with (fail)
  rw [← HE.out]
  clear hmm
  go_upto_region 6 with (fail)
  generalize W7.setCell _ _ = W8 at s0 HFin ⊢
  clear hfr hcl HE
  go_upto_region 7 with (go_at_call 130; refine HFin.out.mono ?_; rintro e W9 ⟨rfl, ov, hs, -⟩; obtain ⟨Ao, co, rfl⟩ := hs.own.shape; have o0 := hs.out.cell (k := 0) rfl; have HS9 := Lib.hid hs; clear hs)
  clear s0 HFin
  go_wp2_with fail
  go_ret
  refine ⟨_, rfl, ?_, HS9.out.low⟩
  have h1 := HS9.out.own
  rw [Nat.sub_add_cancel hpos, List.take_length] at h1
  show NdO W9 w.heap.size (.slice Ao (min (l.length - 1 + 1) l.length) co) l
  rw [Nat.sub_add_cancel hpos, Nat.min_self]
  exact h1
theorem compact_at (fv : Value) (l : List Nd) (k : Int) (w : World) (h : NdO w 0 fv l) (hc : Can l) (hk : k = ((l.length - 1 : Nat) : Int)) :
    Calls Try.prog 93 #[fv, .int .i64 k] w fun e w' => ∃ v, e = .returned v ∧ NdO w' w.heap.size v l ∧ Below w.heap.size w w' := by
  subst hk
  exact compact_any fv l w h hc
set_option maxHeartbeats 4000000 in
theorem Sub_at (fv : Value) (l : List Nd) (k : Int) (w : World) (h : NdO w 0 fv l) (hc : Can l) (hk : k = ((l.length - 1 : Nat) : Int)) :
    Calls Try.prog 104 #[fv, .int .i64 k] w fun e w' => ∃ v, e = .returned v ∧ NdO w' w.heap.size v l ∧ Below w.heap.size w w' := by
  have hcc := fun X => foCheck_any fv l 0 X
  obtain ⟨A, c, rfl⟩ := h.shape
  have HCK := Lib.hid (hcc w h hc.ok hc.pos hc.len)
  have HCM := Lib.hid (fun X (hX : Below w.heap.size w X) => compact_at _ l k X (h.below hX) hc hk)
  have hpos := hc.pos
  have t1 : decide (k < 0) = false := decide_eq_false (by omega)
  have t2 : decide ((l.length : Int) ≤ k) = false := decide_eq_false (by omega)
  clear hcc h hc hk hpos
  go_enter Try.func104, Try.ntmps104
  go_wp2_with (first
    | (go_at_call 74; refine HCK.out.mono ?_; rintro e w1 ⟨rfl, hb1⟩; have HB1 := Lib.hid hb1; clear hb1)
    | (go_at_call 93; refine (HCM.out _ HB1.out).mono ?_; rintro e w2 ⟨v, rfl, ho, hb2⟩; have HO := Lib.hid (ho.mono HB1.out.size); have HB2 := Lib.hid (below_trans HB1.out hb2); clear hb2 ho))
  go_ret
  exact ⟨_, rfl, HO.out, HB2.out⟩
set_option maxHeartbeats 4000000 in
theorem Compact_any (fv : Value) (l : List Nd) (w : World) (h : NdO w 0 fv l) (hc : Can l) :
    Calls Try.prog 78 #[fv] w fun e w' => ∃ v, e = .returned v ∧ NdO w' w.heap.size v l ∧ Below w.heap.size w w' := by
  have hpos := hc.pos
  have hlen := hc.len
  have HSB := Lib.hid (Sub_at fv l ((l.length : Int) - 1) w h hc (by omega))
  obtain ⟨A, c, rfl⟩ := h.shape
  have hw : IntKind.i64.wrap ((l.length : Int) - 1) = (l.length : Int) - 1 := by rw [IntKind.wrap_i64]; omega
  clear h hc hpos hlen
  go_enter Try.func78, Try.ntmps78
  go_wp2_with (go_at_call 104; refine HSB.out.mono ?_; rintro e w1 ⟨v, rfl, ho, hb1⟩; have HB1 := Lib.hid hb1; have HO := Lib.hid ho; clear hb1 ho)
  go_ret
  exact ⟨_, rfl, HO.out, HB1.out⟩
end Go.Proofs.Ytahaimecchdfeaa

/-
  Lists of pairs of numbers as cells; points that are owned; the points of a system in order.
-/
namespace Go.Proofs.Ytahaimecchdfeaa
open Go.RowKit

/-- The cells of a pattern. -/
def crL (l : List (Nat × Nat)) : List Value := l.flatMap fun c => [.int .i64 (c.1 : Nat), .int .i64 (c.2 : Nat)]
theorem crL_len (l : List (Nat × Nat)) : (crL l).length = l.length * 2 := by
  induction l with
  | nil => rfl
  | cons c l ih => unfold crL at ih ⊢; rw [List.flatMap_cons, List.length_append, ih, List.length_cons]; simp; omega
theorem crL_snoc (l : List (Nat × Nat)) (c : Nat × Nat) : crL (l ++ [c]) = crL l ++ [.int .i64 (c.1 : Nat), .int .i64 (c.2 : Nat)] := by
  unfold crL; rw [List.flatMap_append]; simp
theorem crL_get : ∀ (l : List (Nat × Nat)) (k : Nat) (c : Nat × Nat), l[k]? = some c → (crL l)[k * 2]? = some (.int .i64 (c.1 : Nat)) ∧ (crL l)[k * 2 + 1]? = some (.int .i64 (c.2 : Nat))
  | [], k, c, h => by simp at h
  | d :: l, 0, c, h => by
    have : d = c := by simpa using h
    subst this
    exact ⟨rfl, rfl⟩
  | d :: l, k + 1, c, h => by
    have ih := crL_get l k c (by simpa using h)
    have e : crL (d :: l) = .int .i64 (d.1 : Nat) :: .int .i64 (d.2 : Nat) :: crL l := rfl
    rw [e, show (k + 1) * 2 = k * 2 + 1 + 1 from by omega]
    exact ih
theorem crL_one (l : List (Nat × Nat)) : ∀ u ∈ crL l, u.oneCell' = true := by
  intro u hu
  unfold crL at hu
  rw [List.mem_flatMap] at hu
  obtain ⟨c, _, h⟩ := hu
  simp only [List.mem_cons, List.not_mem_nil, or_false] at h
  rcases h with rfl | rfl <;> rfl
theorem Try.infoPoint : (Try.prog.info? 26).map (fun i => (i.zero, i.size, i.bytes)) = some (some (.agg #[.int .i64 0, .int .i64 0]), 2, 16) := by kernel_rfl
/-- A list of points, owned. -/
def PnO (w : World) (base : Nat) (v : Value) (l : List (Nat × Nat)) : Prop := w.ownsRow base 26 2 v l.length (crL l)
theorem pnO_at {w : World} {base : Nat} {v : Value} {l : List (Nat × Nat)} (h : PnO w base v l) {k : Nat} {c : Nat × Nat} (hk : l[k]? = some c) : ∃ b cap, v = .slice (some ⟨b, 0, none⟩) l.length cap ∧ w.cell? ⟨b, k * 2, none⟩ = some (.int .i64 (c.1 : Nat)) ∧ w.cell? ⟨b, k * 2 + 1, none⟩ = some (.int .i64 (c.2 : Nat)) := by
  obtain ⟨A, cap, rfl, hA⟩ := own_form' h
  have hlt := (List.getElem?_eq_some_iff.1 hk).1
  obtain ⟨b, rfl, _, _, h1⟩ := hA (k * 2) (by omega)
  obtain ⟨b', e, _, _, h2⟩ := hA (k * 2 + 1) (by omega)
  injection e with e
  injection e with e _ _
  subst e
  obtain ⟨g1, g2⟩ := crL_get l k c hk
  exact ⟨b, cap, rfl, h1.trans g1, h2.trans g2⟩
theorem PnO.below {w w1 : World} {base : Nat} {v : Value} {l : List (Nat × Nat)} (h : PnO w base v l) (hb : Below w.heap.size w w1) : PnO w1 base v l := own_keeps h (Keeps.of_below hb _)
theorem PnO.shape {w : World} {base : Nat} {v : Value} {l : List (Nat × Nat)} (h : PnO w base v l) : ∃ A c, v = .slice A l.length c := by
  obtain ⟨A, c, e, _⟩ := own_form' h
  exact ⟨A, c, e⟩
/-- The points of the first i runs, and of the next one the first t. -/
def ptU (l i t : Nat) : List (Nat × Nat) := ((List.range i).flatMap fun r => (List.range l).map fun t => (r, t)) ++ (List.range t).map fun t => (i, t)
def ptL (n l : Nat) : List (Nat × Nat) := (List.range n).flatMap fun r => (List.range l).map fun t => (r, t)
theorem ptU_step (l i t : Nat) : ptU l i (t + 1) = ptU l i t ++ [(i, t)] := by unfold ptU; rw [List.range_succ, List.map_append, List.append_assoc]; rfl
theorem ptU_row (l i : Nat) : ptU l i l = ptU l (i + 1) 0 := by unfold ptU; rw [List.range_succ, List.flatMap_append]; simp
theorem ptU_end (n l : Nat) : ptU l n 0 = ptL n l := by unfold ptU ptL; simp
theorem ptU_len (l i t : Nat) : (ptU l i t).length = i * l + t := by
  unfold ptU
  rw [List.length_append, List.length_map, List.length_range]
  congr 1
  induction i with
  | zero => simp
  | succ i ih => rw [List.range_succ, List.flatMap_append, List.length_append, ih, Nat.succ_mul]; simp
theorem ptL_len (n l : Nat) : (ptL n l).length = n * l := by rw [← ptU_end, ptU_len]; omega
theorem ptL_mem {n l : Nat} {p : Nat × Nat} : p ∈ ptL n l ↔ p.1 < n ∧ p.2 < l := by
  unfold ptL
  simp only [List.mem_flatMap, List.mem_range, List.mem_map]
  constructor
  · rintro ⟨r, hr, t, ht, rfl⟩; exact ⟨hr, ht⟩
  · rintro ⟨h1, h2⟩; exact ⟨p.1, h1, p.2, h2, rfl⟩
end Go.Proofs.Ytahaimecchdfeaa

/-
  Plain facts on graphs: what is reached from a point; a search that goes on until nothing is left to do; loops whose measure is said by the relation.
-/
namespace Go.Proofs.Ytahaimecchdfeaa
open Go.RowKit

/-! ### a loop whose relation bears its measure -/
theorem least_of {p : Nat → Prop} (h : ∃ m, p m) : ∃ m, p m ∧ ∀ j, p j → m ≤ j := by
  obtain ⟨m, hm⟩ := h
  induction m using Nat.strongRecOn with
  | _ m ih =>
    by_cases hx : ∃ j, j < m ∧ p j
    · obtain ⟨j, h1, h2⟩ := hx
      exact ih j h1 h2
    · exact ⟨m, hm, fun j hj => by
        rcases Nat.lt_or_ge j m with h | h
        · exact absurd ⟨j, h, hj⟩ hx
        · exact h⟩
open Classical in
noncomputable def leastN (p : Nat → Prop) : Nat := if h : ∃ m, p m then Classical.choose (least_of h) else 0
theorem leastN_le {p : Nat → Prop} {j : Nat} (h : p j) : leastN p ≤ j := by
  have hx : ∃ m, p m := ⟨j, h⟩
  unfold leastN
  rw [dif_pos hx]
  exact (Classical.choose_spec (least_of hx)).2 j h
theorem leastN_of {p : Nat → Prop} (hx : ∃ m, p m) : p (leastN p) := by
  unfold leastN
  rw [dif_pos hx]
  exact (Classical.choose_spec (least_of hx)).1
theorem wpIn_loopM {F : Fence} {n : Nat} {P : Program} {Q : Exit → Act → World → Prop} {a : Act} {w : World} {c : Code} (I : Nat → Act → World → Prop) (h0 : ∃ m, I m a w)
    (round : ∀ m a w, I m a w → c.wpIn F n P (Exit.then (fun a' w' => ∃ m', m' < m ∧ I m' a' w') Q) a w) : (Code.loop c).wpIn F n P Q a w := by
  refine wpIn_loop (fun a w => ∃ m, I m a w) (fun a w => leastN (fun m => I m a w)) h0 fun a w hx => ?_
  refine wpIn_mono (round _ a w (leastN_of hx)) fun e a' w' he => ?_
  cases e with
  | normal =>
    obtain ⟨m', hlt, hm⟩ := he
    exact ⟨⟨m', hm⟩, Nat.lt_of_le_of_lt (leastN_le (p := fun m => I m a' w') hm) hlt⟩
  | _ => exact he

/-! ### what is reached -/
def rchN (R : Nat → Nat → Bool) (i : Nat) : Nat → Nat → Prop
  | 0, k => R i k = true
  | n + 1, k => ∃ j, rchN R i n j ∧ R j k = true
/-- Reached in one step or more. -/
def Rch (R : Nat → Nat → Bool) (i k : Nat) : Prop := ∃ n, rchN R i n k
theorem Rch.one {R : Nat → Nat → Bool} {i k : Nat} (h : R i k = true) : Rch R i k := ⟨0, h⟩
theorem Rch.step {R : Nat → Nat → Bool} {i j k : Nat} (h : Rch R i j) (hk : R j k = true) : Rch R i k := let ⟨n, hn⟩ := h; ⟨n + 1, j, hn, hk⟩
theorem Rch.sub {R : Nat → Nat → Bool} {i : Nat} {p : Nat → Prop} (h0 : ∀ k, R i k = true → p k) (h1 : ∀ j k, p j → R j k = true → p k) {k : Nat} (h : Rch R i k) : p k := by
  obtain ⟨n, hn⟩ := h
  induction n generalizing k with
  | zero => exact h0 k hn
  | succ n ih =>
    obtain ⟨j, hj, hk⟩ := hn
    exact h1 j k (ih hj) hk
theorem Rch.trans {R : Nat → Nat → Bool} {i j k : Nat} (h : Rch R i j) (hk : Rch R j k) : Rch R i k := Rch.sub (p := fun k => Rch R i k) (fun _ h1 => h.step h1) (fun _ _ h1 h2 => h1.step h2) hk
/-- The points that are reached, in order. -/
noncomputable def cmpL (R : Nat → Nat → Bool) (N i : Nat) : List Nat := (List.range N).filter fun k => @decide (Rch R i k) (Classical.propDecidable _)
theorem mem_cmpL {R : Nat → Nat → Bool} {N i k : Nat} : k ∈ cmpL R N i ↔ k < N ∧ Rch R i k := by
  unfold cmpL
  rw [List.mem_filter, List.mem_range, @decide_eq_true_iff _ (Classical.propDecidable _)]
theorem cmpL_eq {R : Nat → Nat → Bool} {N i : Nat} {S : Nat → Bool} (h : ∀ k, k < N → (S k = true ↔ Rch R i k)) : (List.range N).filter S = cmpL R N i := by
  unfold cmpL
  refine List.filter_congr fun k hk => ?_
  have := h k (List.mem_range.1 hk)
  rw [Bool.eq_iff_iff, @decide_eq_true_iff _ (Classical.propDecidable _)]
  exact this

/-! ### the search -/
/-- What a list of points adds to what is found, and to what is to be done. -/
def bfsF (S : Nat → Bool) (q l : List Nat) : (Nat → Bool) × List Nat := l.foldl (fun p k => if p.1 k then p else (fun x => p.1 x || x == k, p.2 ++ [k])) (S, q)
theorem bfsF_snoc (S : Nat → Bool) (q l : List Nat) (k : Nat) : bfsF S q (l ++ [k]) = if (bfsF S q l).1 k then bfsF S q l else (fun x => (bfsF S q l).1 x || x == k, (bfsF S q l).2 ++ [k]) := by
  unfold bfsF; rw [List.foldl_append]; rfl
theorem snoc_rec {α : Type} {p : List α → Prop} (h0 : p []) (h1 : ∀ l x, p l → p (l ++ [x])) (l : List α) : p l := by
  have : ∀ n, ∀ l : List α, l.length = n → p l := by
    intro n
    induction n with
    | zero => intro l hl; rw [List.eq_nil_of_length_eq_zero hl]; exact h0
    | succ n ih =>
      intro l hl
      have hne : l ≠ [] := fun e => by rw [e] at hl; simp at hl
      rw [← List.dropLast_concat_getLast hne]
      exact h1 _ _ (ih _ (by rw [List.length_dropLast, hl]; omega))
  exact this _ l rfl
theorem bfsF_fst (S : Nat → Bool) (q l : List Nat) (k : Nat) : (bfsF S q l).1 k = true ↔ S k = true ∨ k ∈ l := by
  refine snoc_rec (p := fun l => (bfsF S q l).1 k = true ↔ S k = true ∨ k ∈ l) ⟨fun h => .inl h, fun h => h.elim id (by simp)⟩ (fun l x ih => ?_) l
  rw [bfsF_snoc]
  by_cases hx : (bfsF S q l).1 x = true
  · rw [if_pos hx, ih]
    constructor
    · rintro (h | h)
      · exact .inl h
      · exact .inr (List.mem_append_left _ h)
    · rintro (h | h)
      · exact .inl h
      · rcases List.mem_append.1 h with h | h
        · exact .inr h
        · rw [List.mem_singleton] at h
          subst h
          exact ih.1 hx
  · rw [if_neg hx]
    show (((bfsF S q l).1 k || k == x) = true) ↔ _
    rw [Bool.or_eq_true, beq_iff_eq, ih, List.mem_append, List.mem_singleton]
    constructor
    · rintro ((h | h) | h)
      · exact .inl h
      · exact .inr (.inl h)
      · exact .inr (.inr h)
    · rintro (h | h | h)
      · exact .inl (.inl h)
      · exact .inl (.inr h)
      · exact .inr h
theorem bfsF_snd (S : Nat → Bool) (q l : List Nat) : ∃ new, (bfsF S q l).2 = q ++ new ∧ ∀ k, k ∈ new ↔ k ∈ l ∧ S k = false := by
  refine snoc_rec (p := fun l => ∃ new, (bfsF S q l).2 = q ++ new ∧ ∀ k, k ∈ new ↔ k ∈ l ∧ S k = false) ⟨[], by simp [bfsF], by simp⟩ (fun l x ⟨new, e, h⟩ => ?_) l
  rw [bfsF_snoc]
  by_cases hx : (bfsF S q l).1 x = true
  · rw [if_pos hx]
    refine ⟨new, e, fun k => ?_⟩
    rw [h k, List.mem_append, List.mem_singleton]
    constructor
    · rintro ⟨h1, h2⟩; exact ⟨.inl h1, h2⟩
    · rintro ⟨h1 | rfl, h2⟩
      · exact ⟨h1, h2⟩
      · rcases (bfsF_fst S q l k).1 hx with h3 | h3
        · rw [h3] at h2; cases h2
        · exact ⟨h3, h2⟩
  · rw [if_neg hx]
    have hx2 : ¬ (S x = true ∨ x ∈ l) := fun h => hx ((bfsF_fst S q l x).2 h)
    refine ⟨new ++ [x], by show (bfsF S q l).2 ++ [x] = _; rw [e, List.append_assoc], fun k => ?_⟩
    rw [List.mem_append, List.mem_singleton, List.mem_append, List.mem_singleton, h k]
    constructor
    · rintro (⟨h1, h2⟩ | rfl)
      · exact ⟨.inl h1, h2⟩
      · exact ⟨.inr rfl, by cases hs : S k; rfl; exact absurd (.inl hs) hx2⟩
    · rintro ⟨h1 | h1, h2⟩
      · exact .inl ⟨h1, h2⟩
      · exact .inr h1
/-- How many points are not found. -/
def unf (N : Nat) (S : Nat → Bool) : Nat := ((List.range N).filter fun k => !S k).length
theorem filter_len_le {p q : Nat → Bool} (l : List Nat) (h : ∀ k, k ∈ l → q k = true → p k = true) : (l.filter q).length ≤ (l.filter p).length := by
  induction l with
  | nil => simp
  | cons a l ih =>
    have ih := ih fun k hk => h k (List.mem_cons_of_mem _ hk)
    have ha := h a (by simp)
    cases hq : q a <;> cases hp : p a <;> simp [hq, hp]
    · exact ih
    · omega
    · rw [hq] at ha; rw [ha rfl] at hp; cases hp
    · exact ih
theorem filter_len_lt {p q : Nat → Bool} {x : Nat} : ∀ (l : List Nat), (∀ k, k ∈ l → q k = true → p k = true) → x ∈ l → p x = true → q x = false → (l.filter q).length < (l.filter p).length
  | [], _, hx, _, _ => by simp at hx
  | a :: l, h, hx, h1, h2 => by
    have hle := filter_len_le l fun k hk => h k (List.mem_cons_of_mem _ hk)
    rcases List.mem_cons.1 hx with rfl | hx
    · rw [List.filter_cons_of_neg (by simp [h2]), List.filter_cons_of_pos (by simp [h1]), List.length_cons]
      omega
    · have ih := filter_len_lt l (fun k hk => h k (List.mem_cons_of_mem _ hk)) hx h1 h2
      have ha := h a (by simp)
      cases hq : q a <;> cases hp : p a <;> simp [hq, hp]
      · exact ih
      · omega
      · rw [hq] at ha; rw [ha rfl] at hp; cases hp
      · exact ih
theorem unf_add {N x : Nat} {S : Nat → Bool} (hx : x < N) (h : S x = false) : unf N (fun k => S k || k == x) < unf N S := by
  unfold unf
  refine filter_len_lt (x := x) _ (fun k _ hk => ?_) (List.mem_range.2 hx) (by simp [h]) (by simp)
  simp at hk ⊢
  exact hk.1
theorem unf_start (N : Nat) (i : Nat) : unf N (fun _ => false) + [i].length ≤ N + 1 := by
  have := List.length_filter_le (fun k => !(fun _ : Nat => false) k) (List.range N)
  rw [List.length_range] at this
  unfold unf
  rw [List.length_singleton]
  omega
theorem bfsF_meas (N : Nat) (S : Nat → Bool) (q l : List Nat) (hl : ∀ k, k ∈ l → k < N) : unf N (bfsF S q l).1 + (bfsF S q l).2.length ≤ unf N S + q.length := by
  revert hl
  refine snoc_rec (p := fun l => (∀ k, k ∈ l → k < N) → unf N (bfsF S q l).1 + (bfsF S q l).2.length ≤ unf N S + q.length) (fun _ => Nat.le_refl _) (fun l x ih hl => ?_) l
  have ih := ih fun k hk => hl k (List.mem_append_left _ hk)
  rw [bfsF_snoc]
  by_cases hx : (bfsF S q l).1 x = true
  · rw [if_pos hx]; exact ih
  · rw [if_neg hx]
    have := unf_add (N := N) (x := x) (S := (bfsF S q l).1) (hl x (by simp)) (by simpa using hx)
    rw [List.length_append, List.length_singleton]
    show unf N (fun k => (bfsF S q l).1 k || k == x) + _ ≤ _
    omega
/-- The search's state. -/
structure Bfs (R : Nat → Nat → Bool) (N i : Nat) (S : Nat → Bool) (q : List Nat) : Prop where
  lt : ∀ k, k ∈ q → k < N
  found : ∀ k, S k = true → Rch R i k
  todo : ∀ k, k ∈ q → k = i ∨ Rch R i k
  shut : ∀ j, (j = i ∨ S j = true) → j ∈ q ∨ ∀ k, R j k = true → S k = true
theorem Bfs.start (R : Nat → Nat → Bool) {N i : Nat} (hi : i < N) : Bfs R N i (fun _ => false) [i] :=
  ⟨fun k hk => by rw [List.mem_singleton] at hk; omega, fun k h => by simp at h, fun k hk => .inl (List.mem_singleton.1 hk), fun j hj => hj.elim (fun h => .inl (by simp [h])) (fun h => by simp at h)⟩
theorem Bfs.step {R : Nat → Nat → Bool} {N i j : Nat} {S : Nat → Bool} {q l : List Nat} (h : Bfs R N i S (j :: q)) (hl : ∀ k, k ∈ l ↔ R j k = true) (hN : ∀ k, k ∈ l → k < N) :
    ∃ q', (bfsF S (j :: q) l).2 = j :: q' ∧ Bfs R N i (bfsF S (j :: q) l).1 q' := by
  obtain ⟨new, e, hn⟩ := bfsF_snd S (j :: q) l
  have hj : j = i ∨ Rch R i j := h.todo j (by simp)
  have hr : ∀ k, R j k = true → Rch R i k := fun k hk => hj.elim (fun e => .one (by rw [← e]; exact hk)) (fun h1 => h1.step hk)
  refine ⟨q ++ new, e, fun k hk => ?_, fun k hk => ?_, fun k hk => ?_, fun m hm => ?_⟩
  · rcases List.mem_append.1 hk with h1 | h1
    · exact h.lt k (List.mem_cons_of_mem _ h1)
    · exact hN k ((hn k).1 h1).1
  · rcases (bfsF_fst _ _ _ _).1 hk with h1 | h1
    · exact h.found k h1
    · exact hr k ((hl k).1 h1)
  · rcases List.mem_append.1 hk with h1 | h1
    · exact h.todo k (List.mem_cons_of_mem _ h1)
    · exact .inr (hr k ((hl k).1 ((hn k).1 h1).1))
  · have hsub : ∀ k, S k = true → (bfsF S (j :: q) l).1 k = true := fun k hk => (bfsF_fst _ _ _ _).2 (.inl hk)
    by_cases hmj : m = j
    · subst hmj
      exact .inr fun k hk => (bfsF_fst _ _ _ _).2 (.inr ((hl k).2 hk))
    · have hm2 : (m = i ∨ S m = true) ∨ (m ∈ l ∧ S m = false) := by
        rcases hm with h1 | h1
        · exact .inl (.inl h1)
        · rcases (bfsF_fst _ _ _ _).1 h1 with h2 | h2
          · exact .inl (.inr h2)
          · cases hs : S m
            · exact .inr ⟨h2, rfl⟩
            · exact .inl (.inr rfl)
      rcases hm2 with h1 | h1
      · rcases h.shut m h1 with h2 | h2
        · rcases List.mem_cons.1 h2 with h3 | h3
          · exact absurd h3 hmj
          · exact .inl (List.mem_append_left _ h3)
        · exact .inr fun k hk => hsub k (h2 k hk)
      · exact .inl (List.mem_append_right _ ((hn m).2 h1))
theorem Bfs.end {R : Nat → Nat → Bool} {N i : Nat} {S : Nat → Bool} (h : Bfs R N i S []) (k : Nat) : S k = true ↔ Rch R i k :=
  ⟨h.found k, fun hr => Rch.sub (p := fun k => S k = true) (fun k hk => (h.shut i (.inl rfl)).elim (fun h => by simp at h) fun h => h k hk) (fun j k hj hk => (h.shut j (.inr hj)).elim (fun h => by simp at h) fun h => h k hk) hr⟩

/-! ### the points that are alike -/
def ptG (pts : List (Nat × Nat)) (k : Nat) : Nat × Nat := pts.getD k (0, 0)
/-- Some agent sees the same at two points. -/
def akB (a : Nat) (L : Nat → Nat → Nat → Int) (pts : List (Nat × Nat)) (i k : Nat) : Bool := decide (k < pts.length) && (List.range a).any fun g => L (ptG pts k).1 (ptG pts k).2 g == L (ptG pts i).1 (ptG pts i).2 g

/-! ### truth values in a row -/
def boolL (S : Nat → Bool) (N : Nat) : List Value := (List.range N).map fun k => .bool (S k)
def boolA (S : Nat → Bool) (N : Nat) : Array Value := (boolL S N).toArray
theorem boolA_size (S : Nat → Bool) (N : Nat) : (boolA S N).size = N := by unfold boolA boolL; simp
theorem boolA_get {S : Nat → Bool} {N k : Nat} (h : k < N) : (boolA S N)[k]? = some (.bool (S k)) := by unfold boolA boolL; simp [h]
theorem boolA_set {S S' : Nat → Bool} {N k : Nat} {b : Bool} (_h : k < N) (h' : ∀ j, j < N → S' j = if j = k then b else S j) : (boolA S N).setIfInBounds k (.bool b) = boolA S' N := by
  apply Array.ext_getElem?
  intro j
  rw [Array.getElem?_setIfInBounds]
  by_cases hj : j < N
  · by_cases e : k = j
    · subst e
      rw [if_pos rfl, if_pos (by rw [boolA_size]; exact hj), boolA_get hj, h' k hj, if_pos rfl]
    · rw [if_neg e, boolA_get hj, boolA_get hj, h' j hj, if_neg (fun e2 => e e2.symm)]
  · have h1 : (boolA S N)[j]? = none := by rw [Array.getElem?_eq_none_iff, boolA_size]; omega
    have h2 : (boolA S' N)[j]? = none := by rw [Array.getElem?_eq_none_iff, boolA_size]; omega
    by_cases e : k = j
    · subst e
      rw [if_pos rfl, if_neg (by rw [boolA_size]; omega), h2]
    · rw [if_neg e, h1, h2]
theorem boolA_congr {S S' : Nat → Bool} {N : Nat} (h : ∀ j, j < N → S j = S' j) : boolA S N = boolA S' N := by
  unfold boolA boolL
  rw [List.map_congr_left fun k hk => by rw [h k (List.mem_range.1 hk)]]
theorem madeCells_bool (N : Nat) : madeCells #[.bool false] N = boolA (fun _ => false) N := by
  apply Array.ext_getElem?
  intro j
  by_cases hj : j < N
  · rw [boolA_get hj]
    unfold madeCells
    simp [hj, Nat.mod_one]
  · rw [Array.getElem?_eq_none_iff.2 (by rw [size_madeCells]; omega), Array.getElem?_eq_none_iff.2 (by rw [boolA_size]; omega)]
end Go.Proofs.Ytahaimecchdfeaa

/-
  Walks: slices.Index of points; index of package attack.
-/
namespace Go.Proofs.Ytahaimecchdfeaa
open Go.RowKit

/-- The first place of a point in a list, or -1. -/
def ixP (l : List (Nat × Nat)) (x y : Int) : Int := match l.findIdx? (fun p => (p.1 : Int) == x && (p.2 : Int) == y) with | some k => (k : Int) | none => -1
theorem ixP_hit {l : List (Nat × Nat)} {x y : Int} {k : Nat} {p : Nat × Nat} (hp : l[k]? = some p) (e : (p.1 : Int) = x ∧ (p.2 : Int) = y) (hm : ∀ j q, j < k → l[j]? = some q → ¬ ((q.1 : Int) = x ∧ (q.2 : Int) = y)) : ixP l x y = k := by
  have h : l.findIdx? (fun p => (p.1 : Int) == x && (p.2 : Int) == y) = some k := by
    rw [List.findIdx?_eq_some_iff_getElem]
    obtain ⟨hk, hpk⟩ := List.getElem?_eq_some_iff.1 hp
    refine ⟨hk, by rw [hpk]; simp [e.1, e.2], fun j hj => ?_⟩
    have := hm j _ hj (List.getElem?_eq_getElem (by omega))
    simpa using this
  unfold ixP; rw [h]
theorem ixP_none {l : List (Nat × Nat)} {x y : Int} (hm : ∀ j q, j < l.length → l[j]? = some q → ¬ ((q.1 : Int) = x ∧ (q.2 : Int) = y)) : ixP l x y = -1 := by
  have h : l.findIdx? (fun p => (p.1 : Int) == x && (p.2 : Int) == y) = none := by
    rw [List.findIdx?_eq_none_iff]
    intro q hq
    obtain ⟨j, hj, rfl⟩ := List.getElem_of_mem hq
    have := hm j _ hj (List.getElem?_eq_getElem hj)
    simpa using this
  unfold ixP; rw [h]
theorem pointEql (x y r t : Int) (w : World) : (binOp .eql 26 (.agg #[.int .i64 x, .int .i64 y]) (.agg #[.int .i64 r, .int .i64 t])).run Try.prog w = .ok (.bool (x == r && y == t)) w := by
  have u3 := Try.underlying3
  have hS : Try.prog.underlying 26 = some (.struct (Try.prog.fieldsOf 26)) := by kernel_rfl
  have hp : Try.prog.stoodInHeld 26 = false := by kernel_rfl
  rw [run_eql_struct, show (10000 : Nat) = 9999 + 1 from rfl, run_equalIn_agg w 9999 26 _ _ hS hp]
  simp only [Program.fieldsOf, Try.underlying26]
  go_simp
  by_cases h1 : x = r <;> by_cases h2 : y = t <;> simp [h1, h2]
set_option maxHeartbeats 2000000 in
theorem index_any (l : List (Nat × Nat)) (x y : Int) (w : World) (base : Nat) (v : Value) (h : PnO w base v l) (hl : l.length ≤ 65536) :
    Calls Try.prog 83 #[v, .agg #[.int .i64 x, .int .i64 y]] w fun e w' => e = .returned (.int .i64 (ixP l x y)) ∧ Below w.heap.size w w' := by
  have HP := Lib.hid h
  obtain ⟨Ap, cp, rfl⟩ := h.shape
  have HB := Lib.hid (below_alloc w (.cells #[.int .i64 x, .int .i64 y] 26))
  have HK := Lib.hid (Blk.new w #[.int .i64 x, .int .i64 y] 26)
  obtain ⟨NP, eNP⟩ : ∃ q, q = l.length := ⟨_, rfl⟩
  rw [← eNP] at HP hl ⊢
  have ENP := Lib.hid eNP
  clear h eNP
  go_enter Try.func83, Try.ntmps83
  go_upto_region 1 with (fail)
  generalize w.alloc (.cells #[.int .i64 x, .int .i64 y] 26) = W at HB HK ⊢
  obtain ⟨bs, ebs⟩ : ∃ b, b = w.heap.size := ⟨_, rfl⟩
  rw [← ebs] at HK ⊢
  clear ebs
  go_wp2_with fail
  go_loopw [8] (fun kv wr => ∃ k : Nat, k ≤ NP ∧ kv = .int .i64 k ∧ Below W.heap.size W wr ∧ Hid (∀ j q, j < k → l[j]? = some q → ¬ ((q.1 : Int) = x ∧ (q.2 : Int) = y))) (fun kv _ => NP - (intOf kv).toNat)
  case atStart => exact ⟨0, Nat.zero_le _, rfl, Below.refl _ _, Lib.hid fun j _ h => absurd h (Nat.not_lt_zero _)⟩
  case round =>
    obtain ⟨k, hk, rfl, hb, HM⟩ := hrel
    have HBW := Lib.hid hb
    by_cases hlt : k < NP
    · obtain ⟨p, hp⟩ : ∃ p, l[k]? = some p := ⟨_, List.getElem?_eq_getElem (by rw [← ENP.out]; exact hlt)⟩
      obtain ⟨gp, kp, ep, c1, c2⟩ := pnO_at (HP.out.below (below_trans HB.out hb)) (by exact hp)
      injection ep with ep ep2 ep3
      subst ep
      have d0 := (HK.out.below hb).cell (k := 0) rfl
      have d1 := (HK.out.below hb).cell (k := 1) rfl
      obtain ⟨r, er⟩ : ∃ r, r = p.1 := ⟨_, rfl⟩
      obtain ⟨t, et⟩ : ∃ r, r = p.2 := ⟨_, rfl⟩
      rw [← er] at c1
      rw [← et] at c2
      have hkk : (k : Int) < (NP : Int) := by omega
      by_cases he : (p.1 : Int) = x ∧ (p.2 : Int) = y
      · have HI := Lib.hid (ixP_hit hp he HM.out)
        obtain ⟨hx, hy⟩ := he
        rw [← er] at hx
        rw [← et] at hy
        subst hx hy
        have hq1 : ∀ w, (binOp .eql 26 (.agg #[.int .i64 r, .int .i64 t]) (.agg #[.int .i64 r, .int .i64 t])).run Try.prog w = .ok (.bool true) w := fun w => by rw [pointEql]; simp
        clear hb ep2 ep3 er et hp
        go_wp2_with fail
        go_quiet (fail)
        go_wp2_with fail
        go_ret
        exact ⟨by rw [HI.out]; rfl, HB.out.trans ((below_drewN HBW.out _).mono HB.out.size)⟩
      · have HM2 : Hid (∀ j q, j < k + 1 → l[j]? = some q → ¬ ((q.1 : Int) = x ∧ (q.2 : Int) = y)) := Lib.hid fun j q hj hq => by
          rcases Nat.lt_succ_iff_lt_or_eq.1 hj with h1 | rfl
          · exact HM.out j q h1 hq
          · rw [hp] at hq
            injection hq with hq
            subst hq
            exact he
        have hne : ¬ (x = (r : Int) ∧ y = (t : Int)) := fun h => he ⟨by rw [← er]; exact h.1.symm, by rw [← et]; exact h.2.symm⟩
        have hq1 : ∀ w, (binOp .eql 26 (.agg #[.int .i64 x, .int .i64 y]) (.agg #[.int .i64 r, .int .i64 t])).run Try.prog w = .ok (.bool false) w := fun w => by
          rw [pointEql]
          have : (x == (r : Int) && y == (t : Int)) = false := by
            rw [Bool.and_eq_false_iff, beq_eq_false_iff_ne, beq_eq_false_iff_ne]
            by_cases h : x = (r : Int)
            · exact .inr fun h2 => hne ⟨h, h2⟩
            · exact .inl h
          rw [this]
        clear hb ep2 ep3 er et hp he
        go_wp2_with fail
        go_quiet (fail)
        go_wp2_with fail
        go_roundw
        case rel => exact ⟨k + 1, by omega, by go_num, below_drewN HBW.out _, HM2⟩
        case measure => simp [intOf]; omega
    · obtain rfl : k = NP := by omega
      have hkk : ¬ (k : Int) < (k : Int) := by omega
      have HI := Lib.hid (ixP_none (l := l) (x := x) (y := y) (by rw [← ENP.out]; exact HM.out))
      clear hb
      go_wp2_with fail
      go_ret
      exact ⟨by rw [HI.out]; rfl, HB.out.trans (HBW.out.mono HB.out.size)⟩
end Go.Proofs.Ytahaimecchdfeaa

/-
  The places of points in the list of all points.
-/
namespace Go.Proofs.Ytahaimecchdfeaa
open Go.RowKit

theorem ptL_succ (n l : Nat) : ptL (n + 1) l = ptL n l ++ (List.range l).map fun t => (n, t) := by unfold ptL; rw [List.range_succ, List.flatMap_append]; simp
theorem ptL_get {n l k : Nat} (h : k < n * l) : (ptL n l)[k]? = some (k / l, k % l) := by
  induction n with
  | zero => omega
  | succ n ih =>
    rw [ptL_succ]
    by_cases hk : k < n * l
    · rw [List.getElem?_append_left (by rw [ptL_len]; exact hk)]
      exact ih hk
    · rw [List.getElem?_append_right (by rw [ptL_len]; omega), ptL_len]
      rw [Nat.succ_mul] at h
      have hl : 0 < l := by omega
      have hj : k - n * l < l := by omega
      have e1 : k / l = n := by
        rw [show k = (k - n * l) + l * n from by rw [Nat.mul_comm l n]; omega, Nat.add_mul_div_left _ _ hl, Nat.div_eq_of_lt hj]
        omega
      have e2 : k % l = k - n * l := by
        have := Nat.div_add_mod k l
        rw [e1, Nat.mul_comm] at this
        omega
      rw [e1, e2]
      simp [hj]
theorem ptG_get {n l k : Nat} (h : k < n * l) : ptG (ptL n l) k = (k / l, k % l) := by
  unfold ptG; rw [List.getD_eq_getElem?_getD, ptL_get h]; rfl
theorem pos_lt {n l r t : Nat} (hr : r < n) (ht : t < l) : r * l + t < n * l := by
  have : (r + 1) * l ≤ n * l := Nat.mul_le_mul_right l hr
  rw [Nat.succ_mul] at this
  omega
theorem pos_div {l r t : Nat} (ht : t < l) : (r * l + t) / l = r := by
  rw [Nat.add_comm, Nat.mul_comm, Nat.add_mul_div_left _ _ (by omega), Nat.div_eq_of_lt ht]; omega
theorem pos_mod {l r t : Nat} (ht : t < l) : (r * l + t) % l = t := by
  rw [Nat.add_comm, Nat.mul_comm, Nat.add_mul_mod_self_left, Nat.mod_eq_of_lt ht]
theorem ptL_pos {n l r t : Nat} (hr : r < n) (ht : t < l) : (ptL n l)[r * l + t]? = some (r, t) := by rw [ptL_get (pos_lt hr ht), pos_div ht, pos_mod ht]
/-- There is such a point. -/
def inP (n l : Nat) (x y : Int) : Prop := (0 ≤ x ∧ x < n) ∧ 0 ≤ y ∧ y < l
instance (n l : Nat) (x y : Int) : Decidable (inP n l x y) := by unfold inP; exact inferInstance
theorem ixP_in {n l : Nat} {x y : Int} (h : inP n l x y) : ixP (ptL n l) x y = ((x.toNat * l + y.toNat : Nat) : Int) := by
  obtain ⟨⟨h1, h2⟩, h3, h4⟩ := h
  refine ixP_hit (p := (x.toNat, y.toNat)) (ptL_pos (by omega) (by omega)) ⟨by show (x.toNat : Int) = x; omega, by show (y.toNat : Int) = y; omega⟩ fun j q hj hq => ?_
  rintro ⟨e1, e2⟩
  have hlt : j < n * l := by
    have := (List.getElem?_eq_some_iff.1 hq).1
    rwa [ptL_len] at this
  rw [ptL_get hlt] at hq
  injection hq with hq
  subst hq
  have e3 : j / l = x.toNat := by have : ((j / l : Nat) : Int) = x := e1; omega
  have e4 : j % l = y.toNat := by have : ((j % l : Nat) : Int) = y := e2; omega
  have := Nat.div_add_mod j l
  rw [e3, e4, Nat.mul_comm] at this
  omega
theorem ixP_out {n l : Nat} {x y : Int} (h : ¬ inP n l x y) : ixP (ptL n l) x y = -1 := by
  refine ixP_none fun j q hj hq => ?_
  rintro ⟨e1, e2⟩
  obtain ⟨h1, h2⟩ := ptL_mem.1 (List.mem_of_getElem? hq)
  exact h ⟨⟨by omega, by omega⟩, by omega, by omega⟩
end Go.Proofs.Ytahaimecchdfeaa

/-
  Queues: slices of numbers of the call's own that are read at their head and appended to; marks of loops over functions, many of them.
-/
namespace Go.Proofs.Ytahaimecchdfeaa
open Go.RowKit

/-! ### queues -/
/-- A queue of numbers, in a block of the call's own. -/
def QueR (w : World) (base : Nat) (v : Value) (l : List Nat) : Prop :=
  ∃ g off cap cur, v = .slice (some ⟨g, off, none⟩) l.length cap ∧ base ≤ g ∧ w.heap[g]? = some (.cells cur 3 (0, 0)) ∧ l.length ≤ cap ∧ cap ≤ maxLen ∧ off + cap ≤ cur.size ∧ ∀ k x, l[k]? = some x → cur[off + k]? = some (.int .i64 (x : Nat))
theorem QueR.shape {w : World} {base : Nat} {v : Value} {l : List Nat} (h : QueR w base v l) : ∃ g off cap, v = .slice (some ⟨g, off, none⟩) l.length cap := by
  obtain ⟨g, off, cap, _, e, _⟩ := h
  exact ⟨g, off, cap, e⟩
theorem QueR.shape_snoc {w : World} {base x : Nat} {v : Value} {l : List Nat} (h : QueR w base v (l ++ [x])) : ∃ g off cap, v = .slice (some ⟨g, off, none⟩) (l.length + 1) cap := by
  obtain ⟨g, off, cap, e⟩ := h.shape
  exact ⟨g, off, cap, by rw [e, List.length_append, List.length_singleton]⟩
theorem QueR.of_block {w : World} {base b : Nat} {x : Nat} (h : Blk w b 3 #[.int .i64 x]) (hb : base ≤ b) : QueR w base (.slice (some ⟨b, 0, none⟩) 1 1) [x] :=
  ⟨b, 0, 1, _, rfl, hb, h, Nat.le_refl _, by decide, by simp, fun k y hk => by
    cases k with
    | zero => simp at hk; subst hk; rfl
    | succ k => simp at hk⟩
theorem QueR.of_own {w : World} {base : Nat} {v : Value} {l : List Nat} (h : OwnN w base v l) (hl : l ≠ []) : QueR w base v l := by
  rcases h.2 with ⟨-, h0⟩ | ⟨g, cap, cur, rfl, hg, hh, hn, hc, hs, ht⟩
  · exact absurd (List.eq_nil_of_length_eq_zero h0) hl
  · refine ⟨g, 0, cap, cur, rfl, hg, hh, hn, hc, by omega, fun k x hk => ?_⟩
    have hlt := (List.getElem?_eq_some_iff.1 hk).1
    have : (natV l)[k]? = some (.int .i64 (x : Nat)) := by unfold natV; simp [hk]
    rw [← ht, List.getElem?_take, if_pos (by omega)] at this
    simpa using this
theorem QueR.keeps {w w1 : World} {base : Nat} {v : Value} {l : List Nat} (h : QueR w base v l) (hk : Keeps w w1 3) : QueR w1 base v l := by
  obtain ⟨g, off, cap, cur, e, hg, hh, r⟩ := h
  exact ⟨g, off, cap, cur, e, hg, hk g cur hh, r⟩
theorem QueR.kept {w w1 : World} {base : Nat} {v : Value} {l : List Nat} {row : Option Nat} (h : QueR w base v l) (hg : w.grownBy w1 row) (hne : row ≠ v.ownBlock) : QueR w1 base v l := by
  obtain ⟨g, off, cap, cur, rfl, hgb, hh, r⟩ := h
  exact ⟨g, off, cap, cur, rfl, hgb, (hg.block g (Array.getElem?_eq_some_iff.1 hh).1 (fun e => hne e.symm)).trans hh, r⟩
theorem QueR.below {w w1 : World} {base : Nat} {v : Value} {l : List Nat} (h : QueR w base v l) (hb : Below w.heap.size w w1) : QueR w1 base v l := h.keeps (.of_below hb _)
theorem QueR.mono {w : World} {base base' : Nat} {v : Value} {l : List Nat} (h : QueR w base v l) (hb : base' ≤ base) : QueR w base' v l := by
  obtain ⟨g, off, cap, cur, e, hg, r⟩ := h
  exact ⟨g, off, cap, cur, e, Nat.le_trans hb hg, r⟩
theorem QueR.lt {w : World} {base g : Nat} {v : Value} {l : List Nat} (h : QueR w base v l) (hv : v.ownBlock = some g) : base ≤ g ∧ g < w.heap.size := by
  obtain ⟨g', off, cap, cur, rfl, hg, hh, r⟩ := h
  injection hv with hv
  subst hv
  exact ⟨hg, (Array.getElem?_eq_some_iff.1 hh).1⟩
theorem QueR.head {w : World} {base g off n cap x : Nat} {l : List Nat} (h : QueR w base (.slice (some ⟨g, off, none⟩) n cap) (x :: l)) : w.cell? ⟨g, off, none⟩ = some (.int .i64 (x : Nat)) := by
  obtain ⟨g', off', cap', cur, e, hg, hh, -, -, -, hx⟩ := h
  injection e with e e2 e3
  injection e with e
  injection e with e4 e5
  subst e4 e5
  rw [cell_of_row w g off cur 3 (0, 0) hh]
  simpa using hx 0 x rfl
theorem QueR.tail {w : World} {base g off n cap x : Nat} {l : List Nat} (h : QueR w base (.slice (some ⟨g, off, none⟩) n cap) (x :: l)) : QueR w base (.slice (some ⟨g, off + 1, none⟩) l.length (cap - 1)) l := by
  obtain ⟨g', off', cap', cur, e, hg, hh, h1, h2, h3, hx⟩ := h
  injection e with e e2 e3
  injection e with e
  injection e with e4 e5
  subst e4 e5 e3
  rw [List.length_cons] at h1
  refine ⟨g, off + 1, cap - 1, cur, rfl, hg, hh, by omega, by omega, by omega, fun k y hk => ?_⟩
  have := hx (k + 1) y (by simpa using hk)
  rw [show off + 1 + k = off + (k + 1) by omega]
  exact this
theorem QueR.tail0 {w : World} {base g off n x : Nat} {l : List Nat} (h : QueR w base (.slice (some ⟨g, off, none⟩) n 1) (x :: l)) : QueR w base (.slice (some ⟨g, off, none⟩) l.length 0) l := by
  obtain ⟨g', off', cap', cur, e, hg, hh, h1, h2, h3, hx⟩ := h
  injection e with e e2 e3
  injection e with e
  injection e with e4 e5
  subst e4 e5 e3
  rw [List.length_cons] at h1
  obtain rfl : l = [] := List.eq_nil_of_length_eq_zero (by omega)
  exact ⟨g, off, 0, cur, rfl, hg, hh, by simp, by omega, by omega, fun k y hk => by simp at hk⟩
theorem QueR.ne_blk {w : World} {base b : Nat} {v : Value} {l : List Nat} {T : TypeId} {xs : Array Value} (h : QueR w base v l) (hb : Blk w b T xs) (hT : T ≠ 3) : v.ownBlock ≠ some b := by
  obtain ⟨g, off, cap, cur, rfl, hg, hh, r⟩ := h
  intro e
  injection e with e
  subst e
  have := (show w.heap[g]? = _ from hb).symm.trans hh
  simp at this
  exact hT this.2
/-- One number more. -/
theorem run_append_que {w : World} {base : Nat} (t ty : TypeId) (i : TypeInfo) (z : Value) (ht : Try.prog.underlying t = some (.slice 3)) (hi : Try.prog.info? 3 = some i) (hz : i.zero = some z) (hsize : i.size = 1) (hby : i.bytes = 8) (hzs : z.cells.size = 1)
    {v : Value} {l : List Nat} (h : QueR w base v l) (ad : Addr) (c x : Nat) (hx : w.cell? ad = some (.int .i64 (x : Nat))) (hl : l.length ≤ 65536) (hbase : base ≤ w.heap.size) :
    ∃ v' w', (Builtin.append_ #[t, t] ty #[v, .slice (some ad) 1 c]).run Try.prog w = .ok v' w' ∧ QueR w' base v' (l ++ [x]) ∧ w.grownBy w' v.ownBlock ∧ (∀ q, v'.ownBlock = some q → v.ownBlock = some q ∨ w.heap.size ≤ q) := by
  obtain ⟨g, off, cap, cur, rfl, hg, hh, h1, h2, h3, hc⟩ := h
  have hnews : ∀ j u, [Value.int .i64 (x : Nat)][j]? = some u → w.cell? (ad.add j) = some u := fun j u hu => by
    cases j with
    | zero =>
      simp at hu
      subst hu
      have : ad.add 0 = ad := by unfold Addr.add; split <;> simp_all
      rw [this]; exact hx
    | succ j => simp at hu
  by_cases hr : l.length + 1 ≤ cap
  · have hlt : off + l.length < cur.size := by omega
    have hrun := run_append_room_cells (P := Try.prog) w t ty 3 i ht hi g off l.length cap ad 1 c [.int .i64 (x : Nat)] (by rw [hsize]; rfl) hnews (by simp [Value.oneCell']) hr
      (fun j hj => by
        have : j = 0 := by simp at hj; omega
        subst this
        rw [hsize, cell_of_row w g _ cur 3 (0, 0) hh]
        simp [hlt])
      (fun j hj => by simp [World.frozen?, hh])
    refine ⟨_, _, hrun, ⟨g, off, cap, cur.setIfInBounds (off + l.length) (.int .i64 (x : Nat)), by simp, hg, ?_, by simpa using hr, h2, by simpa using h3, fun k y hk => ?_⟩, ?_, fun _ e => .inl e⟩
    · rw [hsize, Nat.mul_one]
      exact Lib.heap_setCell_same hh _
    · by_cases hkl : k < l.length
      · rw [List.getElem?_append_left hkl] at hk
        rw [Array.getElem?_setIfInBounds_ne (by omega)]
        exact hc k y hk
      · rw [List.getElem?_append_right (by omega)] at hk
        have hk0 : k = l.length := by
          have := (List.getElem?_eq_some_iff.1 hk).1
          simp at this; omega
        subst hk0
        simp at hk
        subst hk
        rw [Array.getElem?_setIfInBounds_self_of_lt hlt]
    · rw [hsize, Nat.mul_one]
      exact gr_set w g (off + l.length) _
  · have holds : ∀ j u, (natV l)[j]? = some u → w.cell? ((⟨g, off, none⟩ : Addr).add j) = some u := fun j u hu => by
      have hadd : (⟨g, off, none⟩ : Addr).add j = ⟨g, off + j, none⟩ := by unfold Addr.add; split <;> simp_all
      rw [hadd, cell_of_row w g _ cur 3 (0, 0) hh]
      unfold natV at hu
      rw [List.getElem?_map] at hu
      cases e : l[j]? with
      | none => rw [e] at hu; cases hu
      | some y =>
        rw [e] at hu
        simp at hu
        subst hu
        exact hc j y e
    have hm : (maxLen : Nat) = 9223372036854775807 := rfl
    obtain ⟨v', w', hrun, ho, hgr⟩ := run_append_arg_grows (P := Try.prog) w t ty 3 i z 1 8 ht hi hz hsize hby hzs (by decide) ⟨g, off, none⟩ l.length cap (natV l) (by unfold natV; simp) holds ad 1 c [.int .i64 (x : Nat)] rfl hnews (by omega) (by rw [hm]; omega) (by omega)
    have ho2 : OwnN w' w.heap.size v' (l ++ [x]) := by
      unfold OwnN
      rw [List.length_append]
      unfold natV
      rw [List.map_append]
      exact ho
    exact ⟨v', w', hrun, (QueR.of_own ho2 (by simp)).mono hbase, ⟨hgr.os, hgr.tape, hgr.output, hgr.size, fun k hk _ => hgr.block k hk (by simp)⟩, fun q hq => .inr (ho2.lt q hq).1⟩

theorem wpListIn_append_que {F : Fence} {n : Nat} (w : World) {ops : Array Oper} {rest : List Oper} {o : Oper} {a : Act} {Q : Exit → Act → World → Prop}
    (hg : o.guard = none) (s x : Operand) (t : TypeId) (hop : o.op = Op.call { callee := Callee.builtin Builtin.append, args := #[s, x], argTypes := #[t, t] })
    (i : TypeInfo) (z : Value) (h1 : Try.prog.underlying t = some (.slice 3)) (h2 : Try.prog.info? 3 = some i) (h3 : i.zero = some z) (h4 : i.size = 1) (h5 : i.bytes = 8) (h6 : z.cells.size = 1)
    (base : Nat) (v : Value) (l : List Nat) (hs : a.eval s = v) (hq : QueR w base v l) (ad : Addr) (c y : Nat) (hx : a.eval x = .slice (some ad) 1 c) (hc : w.cell? ad = some (.int .i64 (y : Nat))) (hl : l.length ≤ 65536) (hbase : base ≤ w.heap.size)
    (hK : ∀ v' w', QueR w' base v' (l ++ [y]) → w.grownBy w' v.ownBlock → (∀ q, v'.ownBlock = some q → v.ownBlock = some q ∨ w.heap.size ≤ q) → wpListIn F n Try.prog ops Q rest (a.put o.dst v') w') :
    wpListIn F n Try.prog ops Q (o :: rest) a w := by
  refine wpListIn_plain hg fun K hK' => ?_
  obtain ⟨v', w', hrun, r1, r2, r3⟩ := run_append_que t o.type i z h1 h2 h3 h4 h5 h6 hq ad c y hc hl hbase
  unfold Oper.wpIn
  refine ⟨?_, ?_⟩
  · simp [Oper.about, hop, resolve, Target.leads, Sem.run_pure]
  · rw [Oper.semAt_plain F _ _ (by rw [hop]; intro c hc'; cases hc')]
    simp [execOp, hop, resolve, invoke, builtin, hs, hx, hrun, Result.andThen]
    exact hK' _ _ (hK v' w' r1 r2 r3)

/-! ### marks of loops over functions -/
/-- The deferred calls of an activation whose loops over functions are all over: marks alone, the latest first. -/
def Marks (B : Nat) : List Deferred → World → Prop
  | [], _ => True
  | d :: ds, w => ∃ D, d = { target := .collected D, args := #[] } ∧ B ≤ D ∧ w.heap[D]? = some (.deferred (some [])) ∧ (∀ d', d' ∈ ds → ∃ D', d'.target = .collected D' ∧ D' < D) ∧ Marks B ds w
theorem Marks.kept {B : Nat} : ∀ {ds : List Deferred} {w w' : World}, Marks B ds w → (∀ D, B ≤ D → w.heap[D]? = some (.deferred (some [])) → (∃ d, d ∈ ds ∧ d.target = .collected D) → w'.heap[D]? = some (.deferred (some []))) → Marks B ds w'
  | [], _, _, _, _ => trivial
  | d :: ds, w, w', ⟨D, e, hB, hD, hd, hr⟩, h => ⟨D, e, hB, h D hB hD ⟨d, by simp, by rw [e]⟩, hd, hr.kept fun D' h1 h2 ⟨d', h3, h4⟩ => h D' h1 h2 ⟨d', by simp [h3], h4⟩⟩
theorem Marks.lt {B : Nat} : ∀ {ds : List Deferred} {w : World}, Marks B ds w → ∀ d, d ∈ ds → ∃ D, d.target = .collected D ∧ D < w.heap.size
  | d :: ds, w, ⟨D, e, hB, hD, hd, hr⟩, d', hm => by
    rcases List.mem_cons.1 hm with rfl | h
    · exact ⟨D, by rw [e], (Array.getElem?_eq_some_iff.1 hD).1⟩
    · exact hr.lt d' h
theorem Marks.push {B D n : Nat} {ds : List Deferred} {w : World} (h : Marks B ds w) (hB : B ≤ n) (hn : n ≤ D) (hD : w.heap[D]? = some (.deferred (some []))) (hlt : ∀ d, d ∈ ds → ∃ D', d.target = .collected D' ∧ D' < n) : Marks B ({ target := .collected D, args := #[] } :: ds) w :=
  ⟨D, rfl, by omega, hD, fun d' hd => let ⟨D', e, h⟩ := hlt d' hd; ⟨D', e, by omega⟩, h⟩
theorem Marks.from {B C : Nat} {ds : List Deferred} {w w' : World} (h : Marks B ds w) (hk : KeepsFrom C w w') (hC : C ≤ B) : Marks B ds w' := h.kept fun D h1 h2 _ => hk.same D _ (by omega) h2 rfl
theorem Marks.below {B : Nat} {ds : List Deferred} {w w' : World} (h : Marks B ds w) (hb : Below w.heap.size w w') : Marks B ds w' := h.kept fun D _ h2 _ => (hb.block D (Array.getElem?_eq_some_iff.1 h2).1).trans h2
/-- The marks speak of blocks that lie ahead of the loop. -/
theorem Marks.ownFrom {β : Type} {B C : Nat} {ds : List Deferred} (hC : ∀ d, d ∈ ds → ∃ D, d.target = .collected D ∧ D < C) : OwnFrom C (fun (_ : β) w => Marks B ds w) := fun _ X Y row hs hg hr => hs.kept fun D _ h2 ⟨d, h3, h4⟩ => by
  obtain ⟨D', e, hlt⟩ := hC d h3
  rw [h4] at e
  injection e with e
  subst e
  refine (hg.block D (Array.getElem?_eq_some_iff.1 h2).1 fun e => ?_).trans h2
  have := (hr D e.symm).1
  omega
/-- At the return: all marks are taken up. -/
theorem leaves_marks {F : Fence} {n B : Nat} {P : Program} {fn : Func} {tmps : Array Value} {R : Ending → World → Prop} : ∀ (ds : List Deferred) (w : World), Marks B ds w →
    (∀ w', Below B w w' → KeepRow w w' none → LeavesIn F n P fn tmps R [] .returning w') → LeavesInM F n P fn tmps R ds .returning w
  | [], w, _, h => h w (Below.refl _ _) (KeepRow.refl _ _)
  | d :: ds, w, ⟨D, e, hB, hD, hd, hr⟩, h => by
    refine ⟨by simp, .inl ⟨D, _, by rw [e], run_takeDeferred hD, ?_⟩⟩
    have hb : Below B w (w.putObj D (.deferred none)) := (Below.refl B w).grown (grownBy_putObj' w D (.deferred none)) (by have := (Array.getElem?_eq_some_iff.1 hD).1; omega) (fun k e => by cases e; omega)
    have hk : KeepRow w (w.putObj D (.deferred none)) none := fun i cs T fr hi _ => by
      refine ((grownBy_putObj' w D (.deferred none)).block i (Array.getElem?_eq_some_iff.1 hi).1 fun e => ?_).trans hi
      injection e with e
      subst e
      rw [hi] at hD
      cases hD
    refine leaves_marks ds _ (hr.kept fun D' h1 h2 ⟨d', h3, h4⟩ => ?_) fun w' h1 h2 => h w' (hb.trans h1) (hk.trans h2)
    obtain ⟨D'', e1, e2⟩ := hd d' h3
    rw [h4] at e1
    injection e1 with e1
    subst e1
    exact (World.putObj_heap_other (by omega)).trans h2
/-! ### what speaks of cells alone -/
theorem ownFrom_cells {β : Type} {B : Nat} {I : β → World → Prop} (h : ∀ s W W', KeepRow W W' none → I s W → I s W') : OwnFrom B I := fun s W W' row hs hg hr => h s W W' (fun i cs T fr hi _ => by
  refine (hg.block i (Array.getElem?_eq_some_iff.1 hi).1 fun e => ?_).trans hi
  obtain ⟨_, o, ho, hc⟩ := hr i e.symm
  rw [hi] at ho
  cases ho
  cases hc) hs
theorem Blk.keepRow {w w' : World} {b : Nat} {T : TypeId} {xs : Array Value} (h : Blk w b T xs) (hk : KeepRow w w' none) : Blk w' b T xs := hk _ _ _ _ h nofun
theorem QueR.keepRow {w w' : World} {base : Nat} {v : Value} {l : List Nat} (h : QueR w base v l) (hk : KeepRow w w' none) : QueR w' base v l := h.keeps fun _ _ hb => Blk.keepRow hb hk
theorem OwnN.keepRow {w w' : World} {base : Nat} {v : Value} {l : List Nat} (h : OwnN w base v l) (hk : KeepRow w w' none) : OwnN w' base v l := own_keepRow h hk fun _ _ => nofun
theorem two_allocs (V : World) (x0 x1 : Array Value) (T0 T1 : TypeId) (W : World) (hW : W = (V.alloc (.cells x0 T0)).alloc (.cells x1 T1)) :
    Blk W V.heap.size T0 x0 ∧ Blk W (V.heap.size + 1) T1 x1 ∧ Below V.heap.size V W ∧ W.heap.size = V.heap.size + 2 := by
  subst hW
  have h1 := below_alloc V (.cells x0 T0)
  have h2 := below_alloc (V.alloc (.cells x0 T0)) (.cells x1 T1)
  exact ⟨(Blk.new V x0 T0).below h2, Blk.new' _ _ _ _ (by simp), below_trans h1 h2, by simp⟩
theorem ownN_cells {w : World} {base e sz n q : Nat} {v : Value} {xs : List Value} {o : Obj} (h : w.ownsRow base e sz v n xs) (hq : v.ownBlock = some q) (ho : w.heap[q]? = some o) : o.isCells = true := by
  rcases h.2 with ⟨rfl, _⟩ | ⟨g, cap, cur, rfl, _, hh, _⟩
  · cases hq
  · injection hq with hq
    subst hq
    rw [hh] at ho
    injection ho with ho
    subst ho
    rfl
theorem ownFrom_rows {β : Type} {B n₀ : Nat} {I : β → World → Prop} (hn : n₀ ≤ B) (hz : ∀ s W, I s W → n₀ ≤ W.heap.size) (h : ∀ s W W', KeepRow W W' none → Below n₀ W W' → I s W → I s W') : OwnFrom B I := fun s W W' row hs hg hr => h s W W' (fun i cs T fr hi _ => by
  refine (hg.block i (Array.getElem?_eq_some_iff.1 hi).1 fun e => ?_).trans hi
  obtain ⟨_, o, ho, hc⟩ := hr i e.symm
  rw [hi] at ho
  cases ho
  cases hc) ((Below.refl _ W).grown hg (hz s W hs) (fun k e => Nat.le_trans hn (hr k e).1)) hs
/-- What the body of a function must achieve that does not panic: nothing is said of the activation where it does (for regions that draw their order). -/
def bodyPostN (F : Fence) (n : Nat) (P : Program) (fn : Func) (R : Ending → World → Prop) : Exit → Act → World → Prop
  | .normal, a, w | .ret, a, w => LeavesInM F n P fn a.tmps R a.defers .returning w
  | _, _, _ => False
theorem callsIn_of_wp_marksN {F : Fence} {n : Nat} {P : Program} {f : FuncId} {fn : Func} {c : Code} {args : Array Value} {w : World} {R : Ending → World → Prop}
    (hf : P.funcs[f]? = some fn) (hb : fn.body = some c) (hF : F.fn f)
    (h : c.wpIn F n P (bodyPostN F n P fn R) { tmps := args ++ Array.replicate (fn.ntmps - args.size) undef, defers := [] } w) (hro : F.round = none := by rfl) : CallsIn F n P f args w R := by
  refine callsIn_of_wp_marks hf hb hF (wpIn_mono h fun e a w hq => ?_) hro
  cases e with
  | normal => exact hq
  | ret => exact hq
  | _ => exact hq.elim
end Go.Proofs.Ytahaimecchdfeaa

/-
  Plain facts for the walks: a region that draws its order, whose operations but the last few only read: the cheap quiet steps, then the tail.
-/
namespace Go.Proofs.Ytahaimecchdfeaa
open Go.RowKit

theorem still_of_quiet {P : Program} {o : Oper} {a : Act} {w : World} {K : Act → Prop} (h : o.quiet P a (fun x => x = w) K) : o.still P a w K := by
  obtain ⟨v, h1, h2⟩ := h
  have h3 := h1 w rfl
  unfold Oper.quietAt at h3
  unfold Oper.still
  generalize (execOp a.eval o).run P w = r at h3
  cases r with
  | halt x w' => exact h3
  | ok n w' =>
    cases n with
    | value u => obtain ⟨e1, e2⟩ := h3; exact ⟨e1, by rw [e2]; exact h2⟩
    | skip => obtain ⟨e1, e2⟩ := h3; exact ⟨e1, by rw [← e2]; exact h2⟩
    | enter f args => obtain ⟨e1, e2⟩ := h3; exact ⟨e1, v, e2, h2⟩
    | _ => exact h3
theorem wpStill_of_quiet {P : Program} {ops : Array Oper} {w : World} {Q : Act → Prop} : ∀ (l : List Oper) (a : Act), wpQuiet P ops (fun x => x = w) Q l a → wpStill P ops w Q l a
  | [], _, h => h
  | o :: rest, a, h => by
    unfold wpQuiet at h
    unfold wpStill
    split
    · rename_i hw
      rw [if_pos hw] at h
      refine still_of_quiet ?_
      exact Oper.quiet_mono (fun a' h' => wpStill_of_quiet rest a' h') h
    · rename_i hw
      rw [if_neg hw] at h
      exact wpStill_of_quiet rest _ h
theorem wp_region_quiet_tail {P : Program} {id : Nat} {Q : Exit → Act → World → Prop} {a : Act} {w : World} {l : List Oper} (n : Nat) (hm : P.follows .mixedOrders = true) (hB : Region.lexTailB .any l.toArray n = true)
    (h : wpQuiet P l.toArray (fun x => x = w.drew) (fun a' => wpList P l.toArray Q (l.drop n) a' w.drew) (l.take n) a) : (Code.region id l.toArray true).wp P Q a w :=
  wp_region_still_tail n hm hB (wpStill_of_quiet _ _ h)
end Go.Proofs.Ytahaimecchdfeaa

/-
  A region that draws its order, in a round of a loop over a function: all its operations but the last few only read.
-/
namespace Go.Proofs.Ytahaimecchdfeaa
open Go.RowKit

theorem operIn_round {P : Program} {r n : Nat} {o : Oper} {a : Act} {w : World} {K : Act → World → Prop} {Q : Exit → Act → World → Prop} (hd : ∀ c, o.op ≠ .defer c) (h : o.wp P a w K Q) : o.wpIn (Fence.wide.inRound r) n P a w K Q := by
  refine ⟨fun _ _ => trivial, ?_⟩
  have e : o.semAt (Fence.wide.inRound r).round a.eval = execOp a.eval o := Oper.semAt_some r _ _ hd
  rw [e]
  unfold Oper.wp at h
  generalize (execOp a.eval o).run P w = q at h
  cases q with
  | ok x w' =>
    cases x with
    | enter f args => exact ⟨fun h => (by cases h), CallsIn.inRound r (callsIn_wide.2 h)⟩
    | row row args => exact ⟨fun h => (by cases h), fun c cs _ => let ⟨v, w', q, s⟩ := h c cs; ⟨v, w', q, stepsIn_wide.2 s⟩⟩
    | value v => exact h
    | skip => exact h
    | defer d => exact h
    | _ => exact h.elim
  | halt x w' => cases x <;> exact h
/-- No operation is a defer statement. -/
def noDefer (ops : Array Oper) : Bool := ops.all fun o => match o.op with | .defer _ => false | _ => true
theorem noDefer_at {ops : Array Oper} (h : noDefer ops = true) {i : Nat} {o : Oper} (hi : ops[i]? = some o) : ∀ c, o.op ≠ .defer c := fun c e => by
  unfold noDefer at h
  rw [Array.all_eq_true] at h
  obtain ⟨h1, h2⟩ := Array.getElem?_eq_some_iff.1 hi
  have := h i h1
  rw [h2, e] at this
  cases this
theorem anyIn_round {P : Program} {r n : Nat} {md : Region.Mode} {ops : Array Oper} {Q : Exit → Act → World → Prop} (hd : noDefer ops = true) (hL : ¬ LetsOut Q) : ∀ (fuel : Nat) (listed : Array Bool) (a : Act) (w : World), wpAny P md ops Q fuel listed a w → wpAnyIn (Fence.wide.inRound r) n P md ops Q fuel listed a w
  | 0, _, _, _, h => h
  | fuel + 1, listed, a, w, h => by
    refine ⟨h.1, fun i hi => ?_⟩
    have h2 := wpOp_mono (K' := wpAnyIn (Fence.wide.inRound r) n P md ops Q fuel (listed.setIfInBounds i true)) (fun a w h => anyIn_round hd hL fuel _ a w h) (h.2 i hi)
    unfold wpOp at h2
    unfold wpOpIn
    cases ho : ops[i]? with
    | none => rw [ho] at h2; exact h2
    | some o =>
      rw [ho] at h2
      dsimp only at h2 ⊢
      split
      · rename_i hw
        rw [if_pos hw] at h2
        rcases h2 with h2 | h2
        · exact operIn_round (noDefer_at hd ho) h2
        · exact absurd h2.2 hL
      · rename_i hw
        rw [if_neg hw] at h2
        exact ⟨fun _ _ => trivial, h2⟩
theorem any_still_tail {P : Program} {Q : Exit → Act → World → Prop} {a : Act} {w : World} {l : List Oper} (n : Nat) (hB : Region.lexTailB .any l.toArray n = true)
    (h : wpStill P l.toArray w (fun a' => wpList P l.toArray Q (l.drop n) a' w) (l.take n) a) : wpAny P .any l.toArray Q l.toArray.size (Array.replicate l.toArray.size false) a w := by
  unfold Region.lexTailB at hB
  simp only [Bool.and_eq_true, decide_eq_true_eq] at hB
  obtain ⟨⟨⟨⟨h1, h2⟩, h3⟩, h4⟩, h5⟩ := hB
  have hn : n < l.length := by simpa using h2
  have e1 : (l.take n).length = n := by rw [List.length_take]; omega
  have e2 : (l.drop n).length = l.toArray.size - n := by simp
  have hK := wpAnyL_lex (md := .any) (g := l.toArray.size - n) h1 h3 h4 h2 (l.take n) 0 (Array.replicate l.toArray.size false) a
    (fun j hj => by rw [e1] at hj; simp [hj]) (by rw [Nat.zero_add]; exact e1)
    ⟨by simp, fun _ _ _ hl => (by rw [getD_replicate_false] at hl; cases hl), fun t _ ht => getD_in (by simpa using ht) (getD_replicate_false _ _)⟩ (by rw [e1]; exact h5) h
  have hT : ∀ listed a', Region.seqB .any l.toArray (l.toArray.size - n) n listed = true ∧ wpList P l.toArray Q (l.drop n) a' w → wpAny P .any l.toArray Q (l.toArray.size - n) listed a' w := fun listed a' hq => by
    have := wpAny_of_seq (P := P) (md := .any) (ops := l.toArray) (Q' := Q) (l.drop n) n listed a' w (fun j => by simp [List.getElem?_drop]) (by rw [e2]; exact hq.1) hq.2
    rwa [e2] at this
  have hA := wpAny_of_head (Q' := Q) hT _ _ _ hK
  rwa [e1, show n + (l.toArray.size - n) = l.toArray.size by omega] at hA
theorem wpIn_region_quiet_tail_round {P : Program} {id r m : Nat} {Q : Exit → Act → World → Prop} {a : Act} {w : World} {l : List Oper} (n : Nat) (hm : P.follows .mixedOrders = true) (hB : Region.lexTailB .any l.toArray n = true) (hd : noDefer l.toArray = true) (hL : ¬ LetsOut Q)
    (h : wpQuiet P l.toArray (fun x => x = w.drew) (fun a' => wpList P l.toArray Q (l.drop n) a' w.drew) (l.take n) a) : (Code.region id l.toArray true).wpIn (Fence.wide.inRound r) m P Q a w :=
  wpIn_region_any hm (anyIn_round hd hL _ _ _ _ (any_still_tail n hB (wpStill_of_quiet _ _ h)))
end Go.Proofs.Ytahaimecchdfeaa

/-
  Walks: slices.Reverse of points.
-/
namespace Go.Proofs.Ytahaimecchdfeaa
open Go.RowKit

theorem own_put {w : World} {base e sz n g c k : Nat} {xs : List Value} (h : w.ownsRow base e sz (.slice (some ⟨g, 0, none⟩) n c) n xs) (x : Value) : (w.setCell ⟨g, k, none⟩ x).ownsRow base e sz (.slice (some ⟨g, 0, none⟩) n c) n (xs.set k x) := by
  refine ⟨by rw [List.length_set]; exact h.1, ?_⟩
  rcases h.2 with ⟨h1, _⟩ | ⟨g', cap, cur, e1, hg, hh, h3, h4, h5, h6⟩
  · cases h1
  · injection e1 with e1 e2 e3
    injection e1 with e1
    injection e1 with e4 e5
    subst e4 e3
    refine .inr ⟨g, c, cur.setIfInBounds k x, rfl, hg, Lib.heap_setCell_same hh x, h3, h4, by simpa using h5, ?_⟩
    rw [Array.toList_setIfInBounds, List.take_set, h6]
theorem crL_set : ∀ (l : List (Nat × Nat)) (t : Nat) (c : Nat × Nat), ((crL l).set (t * 2) (.int .i64 (c.1 : Nat))).set (t * 2 + 1) (.int .i64 (c.2 : Nat)) = crL (l.set t c)
  | [], t, c => by simp [crL]
  | d :: l, 0, c => rfl
  | d :: l, t + 1, c => by
    have ih := crL_set l t c
    have e : crL (d :: l) = .int .i64 (d.1 : Nat) :: .int .i64 (d.2 : Nat) :: crL l := rfl
    have e2 : crL (d :: l.set t c) = .int .i64 (d.1 : Nat) :: .int .i64 (d.2 : Nat) :: crL (l.set t c) := rfl
    rw [List.set_cons_succ, e2, e, show (t + 1) * 2 = t * 2 + 1 + 1 from by omega, ← ih]
    rfl
/-- A list, after so many swaps. -/
def rvP (l : List (Nat × Nat)) (i : Nat) : List (Nat × Nat) := (List.range l.length).map fun t => if t < i ∨ l.length - i ≤ t then l.getD (l.length - 1 - t) (0, 0) else l.getD t (0, 0)
theorem rvP_len (l : List (Nat × Nat)) (i : Nat) : (rvP l i).length = l.length := by unfold rvP; simp
theorem rvP_get {l : List (Nat × Nat)} {i t : Nat} (h : t < l.length) : (rvP l i)[t]? = some (if t < i ∨ l.length - i ≤ t then l.getD (l.length - 1 - t) (0, 0) else l.getD t (0, 0)) := by unfold rvP; simp [h]
theorem rvP_zero (l : List (Nat × Nat)) : rvP l 0 = l := by
  apply List.ext_getElem?
  intro t
  by_cases h : t < l.length
  · rw [rvP_get h, if_neg (by omega), List.getD_eq_getElem?_getD, List.getElem?_eq_getElem h]; rfl
  · rw [List.getElem?_eq_none_iff.2 (by rw [rvP_len]; omega), List.getElem?_eq_none_iff.2 (by omega)]
theorem rvP_end {l : List (Nat × Nat)} {i : Nat} (h : l.length ≤ 2 * i + 1) : rvP l i = l.reverse := by
  apply List.ext_getElem?
  intro t
  by_cases ht : t < l.length
  · rw [rvP_get ht, List.getElem?_reverse ht]
    by_cases hc : t < i ∨ l.length - i ≤ t
    · rw [if_pos hc, List.getD_eq_getElem?_getD, List.getElem?_eq_getElem (by omega)]; rfl
    · rw [if_neg hc, show l.length - 1 - t = t by omega, List.getD_eq_getElem?_getD, List.getElem?_eq_getElem ht]; rfl
  · rw [List.getElem?_eq_none_iff.2 (by rw [rvP_len]; omega), List.getElem?_eq_none_iff.2 (by rw [List.length_reverse]; omega)]
theorem rvP_step {l : List (Nat × Nat)} {i : Nat} (h : 2 * i + 1 < l.length) : ((rvP l i).set i (l.getD (l.length - 1 - i) (0, 0))).set (l.length - 1 - i) (l.getD i (0, 0)) = rvP l (i + 1) := by
  apply List.ext_getElem?
  intro t
  by_cases ht : t < l.length
  · rw [rvP_get ht, List.getElem?_set, List.getElem?_set, List.length_set, rvP_len]
    by_cases h1 : l.length - 1 - i = t
    · rw [if_pos h1, if_pos (by omega), if_pos (by omega), show l.length - 1 - t = i by omega]
    · rw [if_neg h1]
      by_cases h2 : i = t
      · rw [if_pos h2, if_pos (by omega), if_pos (by omega), h2]
      · rw [if_neg h2, rvP_get ht]
        by_cases h3 : t < i ∨ l.length - i ≤ t
        · rw [if_pos h3, if_pos (by omega)]
        · rw [if_neg h3, if_neg (by omega)]
  · rw [List.getElem?_eq_none_iff.2 (by rw [List.length_set, List.length_set, rvP_len]; omega), List.getElem?_eq_none_iff.2 (by rw [rvP_len]; omega)]
set_option maxHeartbeats 4000000 in
set_option maxRecDepth 100000 in
theorem Reverse_any (v : Value) (l : List (Nat × Nat)) (w : World) (base : Nat) (h : PnO w base v l) (_hb : base ≤ w.heap.size) (hl : l.length ≤ 65536) (hne : l ≠ []) :
    Calls Try.prog 63 #[v] w fun e w' => (∃ u, e = .returned u) ∧ PnO w' base v l.reverse ∧ Below base w w' := by
  have H := Lib.hid h
  obtain ⟨N, eN⟩ : ∃ N, N = l.length := ⟨_, rfl⟩
  have EN := Lib.hid eN
  have hN : 0 < N := by
    rcases Nat.eq_zero_or_pos N with h0 | h0
    · exact absurd (List.eq_nil_of_length_eq_zero (by rw [← eN]; exact h0)) hne
    · exact h0
  obtain ⟨g, c, rfl⟩ : ∃ g c, v = .slice (some ⟨g, 0, none⟩) l.length c := by
    obtain ⟨p, hp⟩ : ∃ p, l[0]? = some p := ⟨_, List.getElem?_eq_getElem (by omega)⟩
    obtain ⟨b, c, e, -⟩ := pnO_at h hp
    exact ⟨b, c, e⟩
  have hg : base ≤ g := (h.lt g rfl).1
  rw [← eN] at H hl ⊢
  have hw1 : IntKind.i64.wrap ((N : Int) - 1) = ((N - 1 : Nat) : Int) := by rw [IntKind.wrap_i64]; omega
  have hw2 : ((N : Int) - 1) = ((N - 1 : Nat) : Int) := by omega
  clear h eN hne
  have mixed : Try.prog.follows .mixedOrders = true := by kernel_rfl
  go_enter Try.func63, Try.ntmps63
  go_wp2_with fail
  obtain ⟨M, eM⟩ : ∃ M, M = N - 1 := ⟨_, rfl⟩
  rw [← eM]
  have EM := Lib.hid eM
  clear hw1 hw2 eM
  go_loopw [2, 3] (fun iv jv wr => ∃ i j : Nat, iv = .int .i64 i ∧ jv = .int .i64 j ∧ i + j + 1 = N ∧ i ≤ j + 1 ∧ PnO wr base (.slice (some ⟨g, 0, none⟩) N c) (rvP l i) ∧ Below base w wr) (fun iv jv _ => (intOf jv).toNat + 1 - (intOf iv).toNat)
  case atStart => exact ⟨0, M, rfl, rfl, by rw [EM.out]; omega, Nat.zero_le _, by rw [rvP_zero]; exact H.out, Below.refl _ _⟩
  case round =>
    obtain ⟨i, j, rfl, rfl, hij, hij2, hp, hbw⟩ := hrel
    have HP := Lib.hid hp
    have HBW := Lib.hid hbw
    by_cases hlt : i < j
    · have hii : (i : Int) < (j : Int) := by omega
      have hi1 : (i : Int) < (N : Int) := by omega
      have hj1 : (j : Int) < (N : Int) := by omega
      have hi0 : (0 : Int) ≤ (i : Int) := by omega
      have hj0 : (0 : Int) ≤ (j : Int) := by omega
      have hwj : IntKind.i64.wrap ((j : Int) - 1) = ((j - 1 : Nat) : Int) := by rw [IntKind.wrap_i64]; omega
      have hsj : ((j : Int) - 1) = ((j - 1 : Nat) : Int) := by omega
      have hlN := EN.out
      obtain ⟨p, hpi⟩ : ∃ p, p = l.getD i (0, 0) := ⟨_, rfl⟩
      obtain ⟨q, hqj⟩ : ∃ q, q = l.getD j (0, 0) := ⟨_, rfl⟩
      have gi : (rvP l i)[i]? = some p := by rw [rvP_get (by omega), if_neg (by omega), hpi]
      have gj : (rvP l i)[j]? = some q := by rw [rvP_get (by omega), if_neg (by omega), hqj]
      obtain ⟨g1, c1, e1, a0, a1⟩ := pnO_at hp gi
      injection e1 with e1 e2 e3
      injection e1 with e1
      injection e1 with e1 _
      subst e1
      obtain ⟨g2, c2, e4, b0, b1⟩ := pnO_at hp gj
      injection e4 with e4 e5 e6
      injection e4 with e4
      injection e4 with e4 _
      subst e4
      have hst : ((rvP l i).set i q).set j p = rvP l (i + 1) := by
        have := rvP_step (l := l) (i := i) (by omega)
        rw [show l.length - 1 - i = j by omega, ← hpi, ← hqj] at this
        exact this
      have HST := Lib.hid hst
      obtain ⟨cur, hcur, hsz⟩ : ∃ cur, Blk wr g 26 cur ∧ N * 2 ≤ cur.size := by
        rcases hp.2 with ⟨h1, _⟩ | ⟨g', cap, cur, e1, _, hh, h3, _, h5, _⟩
        · cases h1
        · injection e1 with e1 _ _
          injection e1 with e1
          injection e1 with e1 _
          subst e1
          exact ⟨cur, hh, by rw [h5]; rw [rvP_len, ← hlN] at h3; exact Nat.mul_le_mul_right 2 h3⟩
      obtain ⟨p1, p2⟩ := p
      obtain ⟨q1, q2⟩ := q
      dsimp only at a0 a1 b0 b1
      have k1 := hcur.set (i * 2) (.int .i64 q1)
      have k2 := k1.set (i * 2 + 1) (.int .i64 q2)
      have k2d : Blk (((wr.setCell ⟨g, i * 2, none⟩ (.int .i64 q1)).setCell ⟨g, i * 2 + 1, none⟩ (.int .i64 q2)).drew) g 26 ((cur.setIfInBounds (i * 2) (.int .i64 q1)).setIfInBounds (i * 2 + 1) (.int .i64 q2)) := k2
      have k3 := k2.set (j * 2) (.int .i64 p1)
      have k3d : Blk ((((wr.setCell ⟨g, i * 2, none⟩ (.int .i64 q1)).setCell ⟨g, i * 2 + 1, none⟩ (.int .i64 q2)).setCell ⟨g, j * 2, none⟩ (.int .i64 p1)).drew) g 26 (((cur.setIfInBounds (i * 2) (.int .i64 q1)).setIfInBounds (i * 2 + 1) (.int .i64 q2)).setIfInBounds (j * 2) (.int .i64 p1)) := k3
      obtain ⟨y1, hy1⟩ : ∃ y, (cur.setIfInBounds (i * 2) (.int .i64 q1))[i * 2 + 1]? = some y := ⟨_, Array.getElem?_eq_getElem (by simp; omega)⟩
      obtain ⟨y2, hy2⟩ : ∃ y, ((cur.setIfInBounds (i * 2) (.int .i64 q1)).setIfInBounds (i * 2 + 1) (.int .i64 q2))[j * 2]? = some y := ⟨_, Array.getElem?_eq_getElem (by simp; omega)⟩
      obtain ⟨y3, hy3⟩ : ∃ y, (((cur.setIfInBounds (i * 2) (.int .i64 q1)).setIfInBounds (i * 2 + 1) (.int .i64 q2)).setIfInBounds (j * 2) (.int .i64 p1))[j * 2 + 1]? = some y := ⟨_, Array.getElem?_eq_getElem (by simp; omega)⟩
      have s1 := k1.cell hy1
      have s2 := k2d.cell hy2
      have s3 := k3.cell hy3
      have s3' := k3d.cell hy3
      have f3' := k3d.frozen (k := j * 2 + 1)
      have s2' := k2.cell hy2
      have f2' := k2.frozen (k := j * 2)
      have f0 := hcur.frozen (k := i * 2)
      have f1 := k1.frozen (k := i * 2 + 1)
      have f2 := k2d.frozen (k := j * 2)
      have f3 := k3.frozen (k := j * 2 + 1)
      have HFIN : Hid (PnO ((((wr.drew.setCell ⟨g, i * 2, none⟩ (.int .i64 q1)).setCell ⟨g, i * 2 + 1, none⟩ (.int .i64 q2)).setCell ⟨g, j * 2, none⟩ (.int .i64 p1)).setCell ⟨g, j * 2 + 1, none⟩ (.int .i64 p2)) base (.slice (some ⟨g, 0, none⟩) N c) (rvP l (i + 1)) ∧ Below base w ((((wr.drew.setCell ⟨g, i * 2, none⟩ (.int .i64 q1)).setCell ⟨g, i * 2 + 1, none⟩ (.int .i64 q2)).setCell ⟨g, j * 2, none⟩ (.int .i64 p1)).setCell ⟨g, j * 2 + 1, none⟩ (.int .i64 p2))) := Lib.hid (by
        refine ⟨?_, ((((below_drew hbw).setCell (p := ⟨g, _, none⟩) hg _).setCell (p := ⟨g, _, none⟩) hg _).setCell (p := ⟨g, _, none⟩) hg _).setCell (p := ⟨g, _, none⟩) hg _⟩
        rw [← hst]
        unfold PnO
        rw [List.length_set, List.length_set, rvP_len, ← hlN, ← crL_set _ j (p1, p2), ← crL_set _ i (q1, q2)]
        have ho : wr.drew.ownsRow base 26 2 (.slice (some ⟨g, 0, none⟩) N c) N (crL (rvP l i)) := by
          have h := hp
          unfold PnO at h
          rw [rvP_len, ← hlN] at h
          exact h
        exact own_put (own_put (own_put (own_put ho _) _) _) _)
      clear hp hbw hcur hsz k1 k2 k2d k3 k3d hy1 hy2 hy3 hst hlN hpi hqj gi gj e2 e3 e5 e6
      go_wp2_with fail
      go_big_region_o
      all_goals go_wp2_with fail
      go_roundw
      case rel => exact ⟨i + 1, j - 1, by go_num, rfl, by omega, by omega, HFIN.out.1, HFIN.out.2⟩
      case measure => simp [intOf]; omega
    · have hii : ¬ (i : Int) < (j : Int) := by omega
      have HE := Lib.hid (rvP_end (l := l) (i := i) (by rw [← EN.out]; omega))
      clear hp hbw
      go_wp2_with fail
      go_end0
      refine ⟨⟨_, rfl⟩, ?_, HBW.out⟩
      rw [← HE.out]
      exact HP.out
end Go.Proofs.Ytahaimecchdfeaa

/-
  Plain facts on graphs: a shortest way to a point with another fact.
-/
namespace Go.Proofs.Ytahaimecchdfeaa
open Go.RowKit

/-- A walk of so many steps. -/
def walkN (R : Nat → Nat → Bool) (s : Nat) : Nat → Nat → Prop
  | 0, k => k = s
  | n + 1, k => ∃ j, walkN R s n j ∧ R j k = true
/-- The state of the search: what came before each known point (-1 at the start), how far it is, and the queue. -/
structure ChB (R : Nat → Nat → Bool) (N s : Nat) (fac : Nat → Bool) (bef : Nat → Option Int) (dep : Nat → Nat) (q : List Nat) : Prop where
  st : bef s = some (-1) ∧ dep s = 0
  sN : s < N
  kn : ∀ k, k ∈ q → k < N ∧ (bef k).isSome = true
  up : ∀ k v, bef k = some v → (k = s ∧ v = -1) ∨ k ≠ s ∧ ∃ j : Nat, v = (j : Int) ∧ (bef j).isSome = true ∧ R j k = true ∧ dep k = dep j + 1
  lt : ∀ k, (bef k).isSome = true → k < N
  min : ∀ k, (bef k).isSome = true → ∀ m, walkN R s m k → dep k ≤ m
  shut : ∀ j, (bef j).isSome = true → j ∉ q → fac j = fac s ∧ ∀ k, R j k = true → (bef k).isSome = true
  srt : ∀ i r, q = i :: r → (∀ b, b ∈ q → dep i ≤ dep b ∧ dep b ≤ dep i + 1) ∧ r.Pairwise (fun a b => dep a ≤ dep b)
theorem ChB.start (R : Nat → Nat → Bool) {N s : Nat} (fac : Nat → Bool) (hs : s < N) : ChB R N s fac (fun k => if k = s then some (-1) else none) (fun _ => 0) [s] := by
  refine ⟨⟨if_pos rfl, rfl⟩, hs, fun k hk => ?_, fun k v hv => ?_, fun k hk => ?_, fun k _ m _ => Nat.zero_le _, fun j hj hn => ?_, fun i r e => ?_⟩
  · rw [List.mem_singleton] at hk
    subst hk
    exact ⟨hs, by simp⟩
  · by_cases e : k = s
    · rw [if_pos e] at hv
      injection hv with hv
      exact .inl ⟨e, hv.symm⟩
    · rw [if_neg e] at hv
      cases hv
  · by_cases e : k = s
    · rw [e]; exact hs
    · rw [if_neg e] at hk
      cases hk
  · by_cases e : j = s
    · exact absurd (by rw [e]; simp) hn
    · rw [if_neg e] at hj
      cases hj
  · injection e with e1 e2
    subst e1 e2
    exact ⟨fun b _ => ⟨Nat.le_refl _, Nat.zero_le _⟩, List.Pairwise.nil⟩
/-- A walk to a point that is not known goes through the queue. -/
theorem ChB.far {R : Nat → Nat → Bool} {N s : Nat} {fac : Nat → Bool} {bef : Nat → Option Int} {dep : Nat → Nat} {q : List Nat} (h : ChB R N s fac bef dep q) : ∀ m x, walkN R s m x → (bef x).isSome = false → ∃ v, v ∈ q ∧ dep v + 1 ≤ m
  | 0, x, hw, hx => by
    have e : x = s := hw
    rw [e, h.st.1] at hx
    cases hx
  | m + 1, x, ⟨j, hj, hR⟩, hx => by
    cases hk : (bef j).isSome
    · obtain ⟨v, h1, h2⟩ := h.far m j hj hk
      exact ⟨v, h1, by omega⟩
    · by_cases hq : j ∈ q
      · exact ⟨j, hq, by have := h.min j hk m hj; omega⟩
      · rw [(h.shut j hk hq).2 x hR] at hx
        cases hx
/-- One point more. -/
theorem ChB.add {R : Nat → Nat → Bool} {N s i x : Nat} {fac : Nat → Bool} {bef : Nat → Option Int} {dep : Nat → Nat} {r : List Nat} (h : ChB R N s fac bef dep (i :: r)) (hR : R i x = true) (hx : x < N) (hn : (bef x).isSome = false) :
    ∃ dep', ChB R N s fac (fun k => if k = x then some (i : Int) else bef k) dep' (i :: r ++ [x]) ∧ dep' i = dep i := by
  have hik := (h.kn i (by simp)).2
  have hxs : x ≠ s := fun e => by rw [e, h.st.1] at hn; cases hn
  have hxi : x ≠ i := fun e => by rw [e, hik] at hn; cases hn
  have hne : ∀ k, (bef k).isSome = true → k ≠ x := fun k hk e => by rw [e, hn] at hk; cases hk
  have hsort := h.srt i r rfl
  have hnew : ∀ k, ((if k = x then some (i : Int) else bef k)).isSome = true ↔ k = x ∨ (bef k).isSome = true := fun k => by
    by_cases e : k = x
    · rw [if_pos e]; simp [e]
    · rw [if_neg e]; simp [e]
  have hmin : ∀ m, walkN R s m x → dep i + 1 ≤ m := fun m hw => by
    obtain ⟨v, h1, h2⟩ := h.far m x hw hn
    have := (hsort.1 v h1).1
    omega
  refine ⟨fun k => if k = x then dep i + 1 else dep k, ⟨⟨by rw [if_neg hxs.symm]; exact h.st.1, by rw [if_neg hxs.symm]; exact h.st.2⟩, h.sN, fun k hk => ?_, fun k v hv => ?_, fun k hk => ?_, fun k hk m hw => ?_, fun j hj hq => ?_, fun i' r' e => ?_⟩, if_neg hxi.symm⟩
  · rcases List.mem_append.1 hk with h1 | h1
    · exact ⟨(h.kn k h1).1, (hnew k).2 (.inr (h.kn k h1).2)⟩
    · rw [List.mem_singleton] at h1
      exact ⟨by omega, (hnew k).2 (.inl h1)⟩
  · by_cases e : k = x
    · rw [if_pos e] at hv
      injection hv with hv
      subst e
      exact .inr ⟨hxs, i, hv.symm, (hnew i).2 (.inr hik), hR, by rw [if_pos rfl, if_neg hxi.symm]⟩
    · rw [if_neg e] at hv
      rcases h.up k v hv with h1 | ⟨h1, j, h2, h3, h4, h5⟩
      · exact .inl h1
      · exact .inr ⟨h1, j, h2, (hnew j).2 (.inr h3), h4, by rw [if_neg e, if_neg (hne j h3)]; exact h5⟩
  · rcases (hnew k).1 hk with h1 | h1
    · omega
    · exact h.lt k h1
  · by_cases e : k = x
    · subst e
      rw [if_pos rfl]
      exact hmin m hw
    · rw [if_neg e]
      rcases (hnew k).1 hk with h1 | h1
      · exact absurd h1 e
      · exact h.min k h1 m hw
  · rcases (hnew j).1 hj with h1 | h1
    · exact absurd (by rw [h1]; simp) hq
    · obtain ⟨h2, h3⟩ := h.shut j h1 fun h4 => hq (List.mem_append_left _ h4)
      exact ⟨h2, fun k hk => (hnew k).2 (.inr (h3 k hk))⟩
  · have e1 : i' = i ∧ r' = r ++ [x] := by
      rw [List.cons_append] at e
      injection e with e1 e2
      exact ⟨e1.symm, e2.symm⟩
    obtain ⟨rfl, rfl⟩ := e1
    have hk : ∀ b, b ∈ i' :: r → b ≠ x := fun b hb => hne b (h.kn b hb).2
    refine ⟨fun b hb => ?_, ?_⟩
    · rw [if_neg hxi.symm]
      rcases List.mem_append.1 hb with h1 | h1
      · rw [if_neg (hk b h1)]
        exact hsort.1 b h1
      · rw [List.mem_singleton] at h1
        rw [if_pos h1]
        omega
    · rw [List.pairwise_append]
      refine ⟨hsort.2.imp_of_mem fun {a b} ha hb h1 => ?_, List.pairwise_singleton _ _, fun a ha b hb => ?_⟩
      · rw [if_neg (hk a (List.mem_cons_of_mem _ ha)), if_neg (hk b (List.mem_cons_of_mem _ hb))]
        exact h1
      · rw [List.mem_singleton] at hb
        rw [if_pos hb, if_neg (hk a (List.mem_cons_of_mem _ ha))]
        exact (hsort.1 a (List.mem_cons_of_mem _ ha)).2
/-- What is known behind some neighbours of a point. -/
def befF (bef : Nat → Option Int) (i : Nat) (l : List Nat) (k : Nat) : Option Int := match bef k with | some v => some v | none => if k ∈ l then some (i : Int) else none
def befS (bef : Nat → Option Int) (k : Nat) : Bool := (bef k).isSome
theorem befF_some (bef : Nat → Option Int) (i : Nat) (l : List Nat) (k : Nat) : (befF bef i l k).isSome = true ↔ (bef k).isSome = true ∨ k ∈ l := by
  unfold befF
  cases h : bef k with
  | some v => simp
  | none => by_cases e : k ∈ l <;> simp [e]
theorem befF_nil (bef : Nat → Option Int) (i k : Nat) : befF bef i [] k = bef k := by
  unfold befF
  cases h : bef k <;> simp
theorem befF_snoc (bef : Nat → Option Int) (i x : Nat) (l : List Nat) (k : Nat) : befF bef i (l ++ [x]) k = if (befF bef i l x).isSome then befF bef i l k else if k = x then some (i : Int) else befF bef i l k := by
  by_cases hx : (befF bef i l x).isSome = true
  · rw [if_pos hx]
    have hx2 := (befF_some bef i l x).1 hx
    unfold befF
    cases h : bef k with
    | some v => rfl
    | none =>
      dsimp only
      by_cases e : k = x
      · subst e
        rcases hx2 with h1 | h1
        · rw [h] at h1; cases h1
        · rw [if_pos (List.mem_append_left _ h1), if_pos h1]
      · simp [e]
  · rw [if_neg hx]
    have hx2 : ¬ ((bef x).isSome = true ∨ x ∈ l) := fun h => hx ((befF_some bef i l x).2 h)
    by_cases e : k = x
    · subst e
      rw [if_pos rfl]
      unfold befF
      cases h : bef k with
      | some v => exact absurd (.inl (by rw [h]; rfl)) hx2
      | none => simp
    · rw [if_neg e]
      unfold befF
      cases h : bef k with
      | some v => rfl
      | none => simp [e]
theorem befF_fst (bef : Nat → Option Int) (i : Nat) (q l : List Nat) (k : Nat) : (bfsF (befS bef) q l).1 k = (befF bef i l k).isSome := by
  rw [Bool.eq_iff_iff, bfsF_fst, befF_some]
  exact Iff.rfl
theorem ChB.fold {R : Nat → Nat → Bool} {N s i : Nat} {fac : Nat → Bool} {bef : Nat → Option Int} {dep : Nat → Nat} {r : List Nat} (h : ChB R N s fac bef dep (i :: r)) (l : List Nat) : (∀ k, k ∈ l → R i k = true ∧ k < N) →
    ∃ dep' r', (bfsF (befS bef) (i :: r) l).2 = i :: r' ∧ ChB R N s fac (befF bef i l) dep' (i :: r') := by
  refine snoc_rec (p := fun l => (∀ k, k ∈ l → R i k = true ∧ k < N) → ∃ dep' r', (bfsF (befS bef) (i :: r) l).2 = i :: r' ∧ ChB R N s fac (befF bef i l) dep' (i :: r')) (fun _ => ?_) (fun l x ih hl => ?_) l
  · have e : befF bef i [] = bef := funext fun k => befF_nil bef i k
    exact ⟨dep, r, rfl, by rw [e]; exact h⟩
  · obtain ⟨dep', r', e, hc⟩ := ih fun k hk => hl k (List.mem_append_left _ hk)
    have hx := hl x (by simp)
    rw [bfsF_snoc, befF_fst bef i]
    by_cases hk : (befF bef i l x).isSome = true
    · have e2 : befF bef i (l ++ [x]) = befF bef i l := funext fun k => by rw [befF_snoc, if_pos hk]
      rw [if_pos hk, e2]
      exact ⟨dep', r', e, hc⟩
    · have e2 : befF bef i (l ++ [x]) = fun k => if k = x then some (i : Int) else befF bef i l k := funext fun k => by rw [befF_snoc, if_neg hk]
      rw [if_neg hk, e2]
      obtain ⟨dep2, h2, -⟩ := hc.add hx.1 hx.2 (by simpa using hk)
      exact ⟨dep2, r' ++ [x], by show _ ++ [x] = _; rw [e]; rfl, h2⟩
/-- The head is done. -/
theorem ChB.pop {R : Nat → Nat → Bool} {N s i : Nat} {fac : Nat → Bool} {bef : Nat → Option Int} {dep : Nat → Nat} {r : List Nat} (h : ChB R N s fac bef dep (i :: r)) (hf : fac i = fac s) (hR : ∀ k, R i k = true → (bef k).isSome = true) : ChB R N s fac bef dep r := by
  have hs := h.srt i r rfl
  refine ⟨h.st, h.sN, fun k hk => h.kn k (List.mem_cons_of_mem _ hk), h.up, h.lt, h.min, fun j hj hq => ?_, fun a r' e => ?_⟩
  · by_cases e : j = i
    · rw [e]; exact ⟨hf, hR⟩
    · exact h.shut j hj fun h1 => (List.mem_cons.1 h1).elim e hq
  · subst e
    rw [List.pairwise_cons] at hs
    have ha := hs.1 a (by simp)
    refine ⟨fun b hb => ?_, hs.2.2⟩
    have h1 := (hs.1 b (List.mem_cons_of_mem _ hb)).2
    rcases List.mem_cons.1 hb with rfl | h2
    · omega
    · exact ⟨hs.2.1 b h2, by omega⟩
/-- The way back to the start. -/
def BackL (bef : Nat → Option Int) (s : Nat) : List Nat → Prop
  | [] => False
  | [k] => k = s ∧ bef k = some (-1)
  | k :: j :: l => bef k = some (j : Int) ∧ BackL bef s (j :: l)
theorem ChB.back {R : Nat → Nat → Bool} {N s : Nat} {fac : Nat → Bool} {bef : Nat → Option Int} {dep : Nat → Nat} {q : List Nat} (h : ChB R N s fac bef dep q) : ∀ d k, dep k = d → (bef k).isSome = true → ∃ l, BackL bef s (k :: l) ∧ l.length = d ∧ ∀ j, j ∈ k :: l → j < N
  | 0, k, hd, hk => by
    obtain ⟨v, hv⟩ := Option.isSome_iff_exists.1 hk
    rcases h.up k v hv with ⟨h1, h2⟩ | ⟨_, j, _, _, _, h5⟩
    · exact ⟨[], ⟨h1, by rw [hv, h2]⟩, rfl, fun j hj => by rw [List.mem_singleton] at hj; rw [hj]; exact h.lt k hk⟩
    · omega
  | d + 1, k, hd, hk => by
    obtain ⟨v, hv⟩ := Option.isSome_iff_exists.1 hk
    rcases h.up k v hv with ⟨h1, h2⟩ | ⟨_, j, h2, h3, h4, h5⟩
    · have := h.st.2
      rw [h1] at hd
      omega
    · obtain ⟨l, hl, hlen, hN⟩ := h.back d j (by omega) h3
      refine ⟨j :: l, ⟨by rw [hv, h2], hl⟩, by simp [hlen], fun i hi => ?_⟩
      rcases List.mem_cons.1 hi with rfl | h6
      · exact h.lt i hk
      · exact hN i h6
/-- A chain, from the start to a point with another fact, of least length. -/
structure ChOk (R : Nat → Nat → Bool) (N s : Nat) (fac : Nat → Bool) (l : List Nat) : Prop where
  head : l.head? = some s
  lt : ∀ k, k ∈ l → k < N
  link : ∀ t i k, l[t]? = some i → l[t + 1]? = some k → R i k = true
  last : ∃ i, l.getLast? = some i ∧ fac i ≠ fac s
  least : ∀ m k, walkN R s m k → fac k ≠ fac s → l.length ≤ m + 1
theorem BackL.last {bef : Nat → Option Int} {s : Nat} : ∀ {l : List Nat}, BackL bef s l → l.getLast? = some s
  | [k], h => by rw [h.1]; rfl
  | k :: j :: l, h => by
    have := BackL.last h.2
    rw [List.getLast?_cons_cons]
    exact this
theorem BackL.links {R : Nat → Nat → Bool} {N s : Nat} {fac : Nat → Bool} {bef : Nat → Option Int} {dep : Nat → Nat} {q : List Nat} (h : ChB R N s fac bef dep q) : ∀ {l : List Nat}, BackL bef s l → ∀ t i k, l[t]? = some i → l[t + 1]? = some k → R k i = true
  | [a], _, t, i, k, h1, h2 => by simp at h2
  | a :: j :: l, hb, 0, i, k, h1, h2 => by
    have e1 : a = i := by simpa using h1
    have e2 : j = k := by simpa using h2
    subst e1 e2
    rcases h.up a _ hb.1 with ⟨_, h3⟩ | ⟨_, j', h3, _, h4, _⟩
    · omega
    · have : j = j' := by omega
      rw [this]; exact h4
  | a :: j :: l, hb, t + 1, i, k, h1, h2 => BackL.links h hb.2 t i k (by simpa using h1) (by simpa using h2)
theorem ChB.found {R : Nat → Nat → Bool} {N s i : Nat} {fac : Nat → Bool} {bef : Nat → Option Int} {dep : Nat → Nat} {r l : List Nat} (h : ChB R N s fac bef dep (i :: r)) (hf : fac i ≠ fac s) (hl : BackL bef s (i :: l)) (hlen : l.length = dep i) (hN : ∀ j, j ∈ i :: l → j < N) :
    ChOk R N s fac (i :: l).reverse := by
  refine ⟨by rw [List.head?_reverse]; exact hl.last, fun k hk => hN k (List.mem_reverse.1 hk), fun t a b h1 h2 => ?_, ⟨i, by rw [List.getLast?_reverse]; rfl, hf⟩, fun m k hw hk => ?_⟩
  · have hlt := (List.getElem?_eq_some_iff.1 h2).1
    rw [List.length_reverse] at hlt
    rw [List.getElem?_reverse (by omega)] at h1 h2
    obtain ⟨u, hu⟩ : ∃ u, u = (i :: l).length - 1 - (t + 1) := ⟨_, rfl⟩
    rw [← hu] at h2
    rw [show (i :: l).length - 1 - t = u + 1 by omega] at h1
    exact BackL.links h hl u b a h2 h1
  · rw [List.length_reverse, List.length_cons, hlen]
    have hs := h.srt i r rfl
    cases hkn : (bef k).isSome
    · obtain ⟨v, h1, h2⟩ := h.far m k hw hkn
      have := (hs.1 v h1).1
      omega
    · by_cases hq : k ∈ i :: r
      · have h1 := (hs.1 k hq).1
        have h2 := h.min k hkn m hw
        omega
      · exact absurd (h.shut k hkn hq).1 hk
/-- All has been looked at. -/
theorem ChB.none {R : Nat → Nat → Bool} {N s : Nat} {fac : Nat → Bool} {bef : Nat → Option Int} {dep : Nat → Nat} (h : ChB R N s fac bef dep []) : ∀ m k, walkN R s m k → fac k = fac s := by
  have hk : ∀ m k, walkN R s m k → (bef k).isSome = true := fun m => by
    induction m with
    | zero => rintro k rfl; rw [h.st.1]; rfl
    | succ m ih =>
      rintro k ⟨j, hj, hR⟩
      exact (h.shut j (ih j hj) (by simp)).2 k hR
  exact fun m k hw => (h.shut k (hk m k hw) (by simp)).1
theorem BackL.desc {R : Nat → Nat → Bool} {N s : Nat} {fac : Nat → Bool} {bef : Nat → Option Int} {dep : Nat → Nat} {q : List Nat} (h : ChB R N s fac bef dep q) : ∀ {l : List Nat} {k : Nat}, BackL bef s (k :: l) → ∀ x, x ∈ l → dep x < dep k
  | j :: l, k, hb, x, hx => by
    have e : dep k = dep j + 1 := by
      rcases h.up k _ hb.1 with ⟨_, h3⟩ | ⟨_, j', h3, _, _, h5⟩
      · omega
      · have : j = j' := by omega
        rw [this]; exact h5
    rcases List.mem_cons.1 hx with rfl | h1
    · omega
    · have := BackL.desc h hb.2 x h1
      omega
theorem BackL.len {R : Nat → Nat → Bool} {N s : Nat} {fac : Nat → Bool} {bef : Nat → Option Int} {dep : Nat → Nat} {q : List Nat} (h : ChB R N s fac bef dep q) : ∀ {l : List Nat}, (l = [] ∨ BackL bef s l) → (∀ k, k ∈ l → k < N) → unf N (fun k => l.contains k) + l.length ≤ N
  | [], _, _ => by
    unfold unf
    refine Nat.le_trans (Nat.add_le_add_right (List.length_filter_le _ _) _) ?_
    simp
  | k :: l, hb, hN => by
    have hb1 := hb.resolve_left (List.cons_ne_nil _ _)
    have ih := BackL.len h (l := l) (by
      cases l with
      | nil => exact .inl rfl
      | cons j l => exact .inr hb1.2) fun x hx => hN x (List.mem_cons_of_mem _ hx)
    have hk : l.contains k = false := by
      rw [← Bool.not_eq_true, List.contains_iff_mem]
      intro hm
      have := BackL.desc h hb1 k hm
      omega
    have h1 := unf_add (N := N) (x := k) (S := fun x => l.contains x) (hN k (by simp)) hk
    have e : (fun x => l.contains x || x == k) = fun x => (k :: l).contains x := funext fun x => by
      rw [List.contains_cons, Bool.or_comm]
    rw [e] at h1
    rw [List.length_cons]
    omega
end Go.Proofs.Ytahaimecchdfeaa
