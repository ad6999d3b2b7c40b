/-
  Texts of this claim, one after the other: what each proves is said at its head. No condition beyond those that its theorems name.
-/
import Derived.Shelf.SlSortCmp.InsertionK
import Derived.Ground.SlsfProg
import Derived.Test.YtahaimecchdfeaaProg
import Derived.Test.YtahaimecchdfeaaG01
import Derived.Test.YtahaimecchdfeaaG08

/-
  Sorting rules by their agents: the kit's insertion sort, laid.
-/
namespace Go.Proofs.Ytahaimecchdfeaa
open Go.Shelf Go.RowKit Go.Lib Go.Sort

def Try.insRule_ren : Go.Shelf.Ren := ⟨fun | 20 => 126 | n => n, fun | 24 => 71 | 22 => 41 | 3 => 3 | 25 => 105 | 4 => 4 | 0 => 0 | n => n, fun | n => n⟩
theorem Try.insRule : Go.Proofs.SlLaysF0.n20 Try.prog Try.insRule_ren := {
  mixed := by kernel_rfl
  f20 := ⟨Try.f126.name, by decide, Try.func126.trans (congrArg some (by kernel_rfl))⟩
  t0 := Try.underlying0
  a0 := Try.isAgg0
  z0 := Try.sizeOf0
  v0 := Try.zeroValue0
  t3 := Try.underlying3
  a3 := Try.isAgg3
  z3 := Try.sizeOf3
  v3 := Try.zeroValue3
  t4 := Try.underlying4
  a4 := Try.isAgg4
  z4 := Try.sizeOf4
  v4 := Try.zeroValue4
  t22 := Try.underlying41
  a22 := Try.isAgg41
  z22 := Try.sizeOf41
  v22 := Try.zeroValue41
  t25 := Try.underlying105
  a25 := Try.isAgg105
  z25 := Try.sizeOf105
  v25 := Try.zeroValue105 }

/-- A rule's cells. -/
def encRl (x : Int × Int × Int) : List Value := [.int .i64 x.1, .int .i64 x.2.1, .int .i64 x.2.2]
def cfRl (x y : Int × Int × Int) : Int := wrap64 (x.1 - y.1)
set_option maxHeartbeats 2000000 in
theorem closureRl (x y : Int × Int × Int) (W : World) : Calls Try.prog 71 #[.agg #[.int .i64 x.1, .int .i64 x.2.1, .int .i64 x.2.2], .agg #[.int .i64 y.1, .int .i64 y.2.1, .int .i64 y.2.2]] W fun e w' => e = .returned (.int .i64 (cfRl x y)) ∧ ∃ q os', w' = grow (W.drewN q) os' := by
  obtain ⟨x0, x1, x2⟩ := x
  obtain ⟨y0, y1, y2⟩ := y
  unfold cfRl
  dsimp only
  go_enter Try.func71, Try.ntmps71
  go_wp2_with fail
  go_ret
  exact ⟨rfl, 0, _, by rw [alloc_eq_grow, alloc_eq_grow, grow_grow]; rfl⟩
theorem cmpRl (blk off size : Nat) (w : World) : CmpLays Try.prog 71 #[] encRl 3 cfRl blk off size w := fun _ _ _ _ x y => closureRl x y _
theorem rlL_get : ∀ (l : List (Int × Int × Int)) (q r : Nat), r < 3 → q < l.length → (rlL l)[q * 3 + r]? = some ((encRl l[q]!)[r]!)
  | [], _, _, _, h => absurd h (Nat.not_lt_zero _)
  | x :: l, 0, r, hr, _ => by
    have e : rlL (x :: l) = [.int .i64 x.1, .int .i64 x.2.1, .int .i64 x.2.2] ++ rlL l := rfl
    rw [e, List.getElem?_append_left (by simp; omega)]
    have : r = 0 ∨ r = 1 ∨ r = 2 := by omega
    rcases this with rfl | rfl | rfl <;> rfl
  | x :: l, q + 1, r, hr, h => by
    have e : rlL (x :: l) = [.int .i64 x.1, .int .i64 x.2.1, .int .i64 x.2.2] ++ rlL l := rfl
    rw [e, List.getElem?_append_right (by simp; omega), show (q + 1) * 3 + r - [Value.int .i64 x.1, .int .i64 x.2.1, .int .i64 x.2.2].length = q * 3 + r by simp; omega, rlL_get l q r hr (by simpa using h)]
    simp
theorem flat_get (l : List (Int × Int × Int)) (t : Nat) (h : t < l.length * 3) : (rlL l)[t]? = some ((flatK encRl 3 l.toArray)[t]!) := by
  rw [get_flatK encRl 3 l.toArray t (by simpa using h)]
  have := rlL_get l (t / 3) (t % 3) (Nat.mod_lt _ (by decide)) (by omega)
  rw [show t / 3 * 3 + t % 3 = t by omega] at this
  rw [this]
  simp
theorem RuO.holds {w : World} {base g cap : Nat} {l : List (Int × Int × Int)} (h : RuO w base (.slice (some ⟨g, 0, none⟩) l.length cap) l) : HoldsK encRl 3 w g 0 l.toArray := fun j hj => by
  have hj3 : j < l.length * 3 := by simpa using hj
  rcases h.2 with ⟨h1, _⟩ | ⟨g', cap', cur, e1, hg, hh, h3, h4, h5, h6⟩
  · cases h1
  · injection e1 with e1 _ _
    injection e1 with e1
    injection e1 with e1 _
    subst e1
    refine ⟨?_, by simp [World.frozen?, hh]⟩
    rw [cell_of_row w g _ cur 71 (0, 0) hh, Nat.zero_add]
    have h7 := flat_get l j hj3
    rw [← h6, List.getElem?_take, if_pos hj3] at h7
    simpa using h7
theorem RuO.sorted {w : World} {base g cap : Nat} {l : List (Int × Int × Int)} (h : RuO w base (.slice (some ⟨g, 0, none⟩) l.length cap) l) (l' : List (Int × Int × Int)) (hl : l'.length = l.length) (m : Nat) (os : Array Obj) :
    RuO (sortWorldK encRl 3 w g 0 m l'.toArray os) base (.slice (some ⟨g, 0, none⟩) l.length cap) l' ∧ w.grownBy (sortWorldK encRl 3 w g 0 m l'.toArray os) (some g) := by
  rcases h.2 with ⟨h1, _⟩ | ⟨g', cap', cur, e1, hg, hh, h3, h4, h5, h6⟩
  · cases h1
  injection e1 with e1 _ e3
  injection e1 with e1
  injection e1 with e1 _
  subst e1 e3
  have hlt := (Array.getElem?_eq_some_iff.1 hh).1
  have hblk : ∀ b, b < w.heap.size → (sortWorldK encRl 3 w g 0 m l'.toArray os).heap[b]? = if g = b then (w.heap[b]?).map (onCells (putCells id 0 (flatK encRl 3 l'.toArray))) else w.heap[b]? := fun b hb => by
    unfold sortWorldK grow putRowK putRow mapBlock
    show ((Array.modify w.heap g _) ++ os)[b]? = _
    rw [Array.getElem?_append_left (by simpa using hb), Array.getElem?_modify]
  have hg1 : (sortWorldK encRl 3 w g 0 m l'.toArray os).heap[g]? = some (.cells (putCells id 0 (flatK encRl 3 l'.toArray) cur) 71 (0, 0)) := by
    rw [hblk g hlt, if_pos rfl, hh]; rfl
  refine ⟨⟨by rw [rlL_len, hl], .inr ⟨g, cap, _, by rw [hl], hg, hg1, by rw [hl]; exact h3, h4, by simpa [putCells] using h5, ?_⟩⟩, rfl, rfl, rfl, ?_, fun b hb hne => ?_⟩
  · apply List.ext_getElem?
    intro t
    by_cases ht : t < l'.length * 3
    · rw [List.getElem?_take, if_pos ht, flat_get l' t ht]
      have hc : t < cur.size := by have := Nat.mul_le_mul_right 3 h3; omega
      simp [putCells, hc]
      intro h9
      omega
    · rw [List.getElem?_eq_none_iff.2 (by rw [List.length_take]; omega), List.getElem?_eq_none_iff.2 (by rw [rlL_len]; omega)]
  · unfold sortWorldK grow putRowK putRow mapBlock
    show w.heap.size ≤ ((Array.modify w.heap g _) ++ os).size
    simp
  · rw [hblk b hb, if_neg (fun e => hne (by rw [e]))]
set_option maxHeartbeats 2000000 in
theorem insRl (g cap : Nat) (d : Array (Int × Int × Int)) (w : World) (hH : HoldsK encRl 3 w g 0 d) (hg : g < w.heap.size) (hs : d.size ≤ 16) :
    Calls Try.prog 126 #[.slice (some ⟨g, 0, none⟩) d.size cap, .int .i64 0, .int .i64 d.size, .func (.func 71) #[] #[]] w fun e w' => e = .returned (.tuple #[]) ∧ ∃ n os, w' = sortWorldK encRl 3 w g 0 n (Sort.insertionSort (ltOf cfRl) d 0 d.size) os := by
  have eg : ∀ args w, (callFunc 71 args).run Try.prog w = .ok (.enter 71 args) w := enters_of Try.func71 (by kernel_rfl) rfl
  exact AnyQ.insertionSortCmpFunc Try.insRule 3 (fun _ => by kernel_rfl) (fun _ => by kernel_rfl) encRl (fun _ => rfl) (fun x v hv => by simp [encRl] at hv; rcases hv with rfl | rfl | rfl <;> rfl) cfRl 71 #[] g 0 cap 0 d.size d w eg (cmpRl g 0 d.size w) hH hg (Nat.zero_le _) (Nat.le_refl _) (by omega)
set_option maxHeartbeats 2000000 in
theorem stableRl (g cap : Nat) (d : Array (Int × Int × Int)) (w : World) (hH : HoldsK encRl 3 w g 0 d) (hg : g < w.heap.size) (hs : d.size ≤ 16) :
    Calls Try.prog 90 #[.slice (some ⟨g, 0, none⟩) d.size cap, .int .i64 d.size, .func (.func 71) #[] #[]] w fun e w' => (∃ u, e = .returned u) ∧ ∃ n os, w' = sortWorldK encRl 3 w g 0 n (Sort.insertionSort (ltOf cfRl) d 0 d.size) os := by
  have HI := Lib.hid (insRl g cap d w hH hg hs)
  obtain ⟨r, er⟩ : ∃ r, r = Sort.insertionSort (ltOf cfRl) d 0 d.size := ⟨_, rfl⟩
  rw [← er] at HI ⊢
  obtain ⟨N, eN⟩ : ∃ N, N = d.size := ⟨_, rfl⟩
  rw [← eN] at HI hs ⊢
  have h1 : ¬ (20 : Int) ≤ (N : Int) := by omega
  have h2 : ¬ (20 : Int) < (N : Int) := by omega
  have h3 : ¬ 20 ≤ N := by omega
  have h4 : ¬ 20 < N := by omega
  clear hH eN er
  go_enter Try.func90, Try.ntmps90
  go_wp2_with fail
  go_loopw [7, 8] (fun av bv wr => av = .int .i64 0 ∧ bv = .int .i64 20 ∧ wr = w) (fun _ _ _ => 0)
  case atStart => exact ⟨rfl, rfl, rfl⟩
  case round =>
    obtain ⟨rfl, rfl, rfl⟩ := hrel
    go_wp2_with (go_at_call 126; refine HI.out.mono ?_; rintro e w' ⟨rfl, n, os, ew⟩; have EW := Lib.hid ew; clear ew)
    go_loopw [6] (fun bv wx => bv = .int .i64 20 ∧ wx = w') (fun _ _ => 0)
    case atStart => exact ⟨rfl, rfl⟩
    case round =>
      obtain ⟨rfl, rfl⟩ := hrel
      go_wp2_with fail
      go_end0
      exact ⟨⟨_, rfl⟩, n, os, EW.out⟩
set_option maxHeartbeats 2000000 in
theorem sortRl (g cap : Nat) (d : Array (Int × Int × Int)) (w : World) (hH : HoldsK encRl 3 w g 0 d) (hg : g < w.heap.size) (hs : d.size ≤ 16) :
    Calls Try.prog 70 #[.slice (some ⟨g, 0, none⟩) d.size cap, .func (.func 71) #[] #[]] w fun e w' => (∃ u, e = .returned u) ∧ ∃ n os, w' = sortWorldK encRl 3 w g 0 n (Sort.insertionSort (ltOf cfRl) d 0 d.size) os := by
  have HI := Lib.hid (stableRl g cap d w hH hg hs)
  obtain ⟨r, er⟩ : ∃ r, r = Sort.insertionSort (ltOf cfRl) d 0 d.size := ⟨_, rfl⟩
  rw [← er] at HI ⊢
  obtain ⟨N, eN⟩ : ∃ N, N = d.size := ⟨_, rfl⟩
  rw [← eN] at HI hs ⊢
  clear hH eN er
  go_enter Try.func70, Try.ntmps70
  go_wp2_with (go_at_call 90; refine HI.out.mono ?_; rintro e w' ⟨⟨u, rfl⟩, n, os, ew⟩; have EW := Lib.hid ew; clear ew)
  go_end0
  exact ⟨⟨_, rfl⟩, n, os, EW.out⟩
set_option maxHeartbeats 2000000 in
theorem insRl0 (v fv : Value) (w : World) : Calls Try.prog 126 #[v, .int .i64 0, .int .i64 0, fv] w fun e w' => (∃ u, e = .returned u) ∧ w' = w := by
  go_enter Try.func126, Try.ntmps126
  go_wp2_with fail
  go_loopw [8] (fun iv wr => iv = .int .i64 1 ∧ wr = w) (fun _ _ => 0)
  case atStart => exact ⟨rfl, rfl⟩
  case round =>
    obtain ⟨rfl, rfl⟩ := hrel
    go_wp2_with fail
    go_end0
    exact ⟨⟨_, rfl⟩, rfl⟩
set_option maxHeartbeats 2000000 in
theorem stableRl0 (v fv : Value) (w : World) : Calls Try.prog 90 #[v, .int .i64 0, fv] w fun e w' => (∃ u, e = .returned u) ∧ w' = w := by
  go_enter Try.func90, Try.ntmps90
  go_wp2_with fail
  go_loopw [7, 8] (fun av bv wr => av = .int .i64 0 ∧ bv = .int .i64 20 ∧ wr = w) (fun _ _ _ => 0)
  case atStart => exact ⟨rfl, rfl, rfl⟩
  case round =>
    obtain ⟨rfl, rfl, rfl⟩ := hrel
    go_wp2_with (go_at_call 126; refine (insRl0 _ _ _).mono ?_; rintro e w' ⟨⟨u, rfl⟩, rfl⟩)
    go_loopw [6] (fun bv wx => bv = .int .i64 20 ∧ wx = w') (fun _ _ => 0)
    case atStart => exact ⟨rfl, rfl⟩
    case round =>
      obtain ⟨rfl, rfl⟩ := hrel
      go_wp2_with fail
      go_end0
      exact ⟨⟨_, rfl⟩, rfl⟩
set_option maxHeartbeats 2000000 in
theorem sortRl0 (fv : Value) (w : World) : Calls Try.prog 70 #[.slice none 0 0, fv] w fun e w' => (∃ u, e = .returned u) ∧ w' = w := by
  go_enter Try.func70, Try.ntmps70
  go_wp2_with (go_at_call 90; refine (stableRl0 _ _ _).mono ?_; rintro e w' ⟨⟨u, rfl⟩, rfl⟩)
  go_end0
  exact ⟨⟨_, rfl⟩, rfl⟩
/-- Sorting rules of the call's own. -/
theorem sortO {w : World} {base : Nat} {v : Value} {l l' : List (Int × Int × Int)} (h : RuO w base v l) (hs : l.length ≤ 16) (hl : (Sort.insertionSort (ltOf cfRl) l.toArray 0 l.length).toList = l') (hlen : l'.length = l.length) :
    Calls Try.prog 70 #[v, .func (.func 71) #[] #[]] w fun e w' => (∃ u, e = .returned u) ∧ RuO w' base v l' ∧ w.grownBy w' v.ownBlock := by
  rcases h.2 with ⟨rfl, h2⟩ | ⟨g, cap, cur, rfl, hg, hh, -⟩
  · have e1 : l = [] := List.eq_nil_of_length_eq_zero h2
    have e2 : l' = [] := List.eq_nil_of_length_eq_zero (by rw [hlen, h2])
    subst e1 e2
    refine (sortRl0 _ w).mono ?_
    rintro e w' ⟨hu, rfl⟩
    exact ⟨hu, h, rfl, rfl, rfl, Nat.le_refl _, fun _ _ _ => rfl⟩
  · have hS := sortRl g cap l.toArray w h.holds (Array.getElem?_eq_some_iff.1 hh).1 (by simpa using hs)
    rw [show l.toArray.size = l.length by simp] at hS
    refine hS.mono ?_
    rintro e w' ⟨hu, n, os, rfl⟩
    rw [show Sort.insertionSort (ltOf cfRl) l.toArray 0 l.length = l'.toArray by rw [← hl]]
    have := h.sorted l' hlen n os
    exact ⟨hu, this.1, this.2⟩
/-- The exchange of alternating: what each knows, and the rules. -/
def altN : Nat → Nat × Nat
  | 0 => (5, 4)
  | k + 1 => (4 * (altN k).2 + 1, 4 * (altN k).1)
def altR : Nat → List (Int × Int × Int)
  | 0 => []
  | k + 1 => altR k ++ [(((k % 2 : Nat) : Int), (((altN k).1 : Nat) : Int), 1)]
def altS (k : Nat) : List (Int × Int × Int) := (altR k).filter (fun x => x.1 == 0) ++ (altR k).filter (fun x => x.1 == 1)
theorem le4 {p : Nat → Prop} (h0 : p 0) (h1 : p 1) (h2 : p 2) (h3 : p 3) (h4 : p 4) : ∀ k, k ≤ 4 → p k
  | 0, _ => h0
  | 1, _ => h1
  | 2, _ => h2
  | 3, _ => h3
  | 4, _ => h4
  | _ + 5, h => absurd h (by omega)
theorem altR_len : ∀ k, (altR k).length = k
  | 0 => rfl
  | k + 1 => by unfold altR; rw [List.length_append, altR_len k]; rfl
theorem altN_le : ∀ k, k ≤ 4 → (altN k).1 ≤ 2000 ∧ (altN k).2 ≤ 2000 := le4 (by decide) (by decide) (by decide) (by decide) (by decide)
def insFu {α : Type} [Inhabited α] (lt : α → α → Bool) (a : Nat) : Nat → Nat → Array α → Array α
  | 0, _, d => d
  | f + 1, i, d => insFu lt a f (i + 1) (insInner lt a i d)
theorem insFu_eq {α : Type} [Inhabited α] (lt : α → α → Bool) (a b : Nat) : ∀ (f i : Nat) (d : Array α), b - i = f → insOuter lt a b i d = insFu lt a f i d
  | 0, i, d, h => by rw [insOuter, if_neg (by omega)]; rfl
  | f + 1, i, d, h => by rw [insOuter, if_pos (by omega), insFu_eq lt a b f (i + 1) _ (by omega)]; rfl
theorem alt_sorted (k : Nat) (h : k ≤ 4) : (Sort.insertionSort (ltOf cfRl) (altR k).toArray 0 (altR k).length).toList = altS k := by
  unfold Sort.insertionSort
  rw [insFu_eq _ _ _ ((altR k).length - 1) _ _ (by omega)]
  revert k
  exact le4 (by kernel_rfl) (by kernel_rfl) (by kernel_rfl) (by kernel_rfl) (by kernel_rfl)
theorem altS_len : ∀ k, k ≤ 4 → (altS k).length = (altR k).length := le4 (by decide) (by decide) (by decide) (by decide) (by decide)
end Go.Proofs.Ytahaimecchdfeaa
