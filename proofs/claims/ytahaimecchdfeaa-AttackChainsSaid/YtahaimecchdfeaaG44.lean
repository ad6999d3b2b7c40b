/-
  Texts of this claim, one after the other: what each proves is said at its head. No condition beyond those that its theorems name.
-/
import Derived.Test.YtahaimecchdfeaaProg
import Derived.Deep.DeepCutAuto
import Derived.Deep.AppendLies
import Derived.Laws.AppendOwnNone
import Derived.Deep.RegionHeld3
import Derived.Test.YtahaimecchdfeaaG01
import Derived.Test.YtahaimecchdfeaaG02
import Derived.Test.YtahaimecchdfeaaG03
import Derived.Test.YtahaimecchdfeaaG06
import Derived.Test.YtahaimecchdfeaaG20
import Derived.Test.YtahaimecchdfeaaG22
import Derived.Test.YtahaimecchdfeaaG23
import Derived.Test.YtahaimecchdfeaaG24
import Derived.Test.YtahaimecchdfeaaG27
import Derived.Test.YtahaimecchdfeaaG30
import Derived.Test.YtahaimecchdfeaaG32
import Derived.Test.YtahaimecchdfeaaG36
import Derived.Test.YtahaimecchdfeaaG38

/-
  Plain facts: the reference's search for a chain.
-/
namespace Go.Proofs.Ytahaimecchdfeaa
open Go.RowKit

/-- What came before a point, by its place in the queue. -/
def befV (q : List Nat) (v : Int) : Option Int := if v = 0 then none else if v < 0 then some (-1) else some ((q.getD (v - 1).toNat 0 : Nat) : Int)
def befQ (q : List Nat) (fr : Nat → Int) (k : Nat) : Option Int := befV q (fr k)
theorem befQ_some {q : List Nat} {fr : Nat → Int} {k : Nat} : (befQ q fr k).isSome = true ↔ fr k ≠ 0 := by
  unfold befQ befV
  by_cases h : fr k = 0
  · rw [if_pos h]; simp [h]
  · rw [if_neg h]
    by_cases h2 : fr k < 0
    · rw [if_pos h2]; simp [h]
    · rw [if_neg h2]; simp [h]
structure RcB (R : Nat → Nat → Bool) (N s : Nat) (fac : Nat → Bool) (fr : Nat → Int) (q : List Nat) (x : Nat) : Prop where
  ch : ∃ dep, ChB R N s fac (befQ q fr) dep (q.drop x)
  lt : ∀ k, k ∈ q → k < N
  len : unf N (fun k => fr k != 0) + q.length ≤ N
  ix : ∀ (t k : Nat), q[t]? = some k → fr k = -1 ∨ ∃ i : Nat, fr k = (i : Int) + 1 ∧ i < t
  bd : ∀ k, fr k = 0 ∨ fr k = -1 ∨ ∃ i : Nat, fr k = (i : Int) + 1 ∧ i < q.length
theorem RcB.start (R : Nat → Nat → Bool) {N s : Nat} (fac : Nat → Bool) (hs : s < N) : RcB R N s fac (fun k => if k = s then -1 else 0) [s] 0 := by
  refine ⟨⟨fun _ => 0, ?_⟩, fun k hk => ?_, ?_, fun t k h => ?_, fun k => ?_⟩
  · have e : befQ [s] (fun k => if k = s then -1 else 0) = fun k => if k = s then some (-1) else none := by
      funext k
      show befV [s] (if k = s then -1 else 0) = _
      by_cases h : k = s
      · rw [if_pos h, if_pos h]; rfl
      · rw [if_neg h, if_neg h]; rfl
    rw [e]
    exact ChB.start R fac hs
  · rw [List.mem_singleton] at hk
    omega
  · have h1 : unf N (fun k => (false || k == s)) < unf N (fun _ => false) := unf_add (N := N) (x := s) (S := fun _ => false) hs rfl
    have h2 := unf_start N s
    have e : unf N (fun k => (if k = s then (-1 : Int) else 0) != 0) = unf N (fun k => (false || k == s)) := by
      congr 1
      funext k
      by_cases h : k = s
      · simp [h]
      · simp [h]
    rw [e, List.length_singleton]
    rw [List.length_singleton] at h2
    omega
  · have hk : k = s := by
      cases t with
      | zero => exact (Option.some.inj h).symm
      | succ t => cases h
    left
    rw [if_pos hk]
  · by_cases h : k = s
    · rw [if_pos h]; exact .inr (.inl rfl)
    · rw [if_neg h]; exact .inl rfl
/-- A point that is found is put into the queue. -/
theorem RcB.add {R : Nat → Nat → Bool} {N s x i y : Nat} {fac : Nat → Bool} {fr : Nat → Int} {q : List Nat} (h : RcB R N s fac fr q x) (hi : q[x]? = some i) (hy : y < N) (hR : R i y = true) (h0 : fr y = 0) : RcB R N s fac (fun k => if k = y then (x : Int) + 1 else fr k) (q ++ [y]) x := by
  have hx : x < q.length := (List.getElem?_eq_some_iff.1 hi).1
  have hd : q.drop x = i :: q.drop (x + 1) := by rw [List.drop_eq_getElem_cons hx, (List.getElem?_eq_some_iff.1 hi).2]
  obtain ⟨dep, hch⟩ := h.ch
  rw [hd] at hch
  obtain ⟨dep', hch', -⟩ := hch.add hR hy (by
    rw [← Bool.not_eq_true]
    intro hc
    exact befQ_some.1 hc h0)
  have e : befQ (q ++ [y]) (fun k => if k = y then (x : Int) + 1 else fr k) = fun k => if k = y then some (i : Int) else befQ q fr k := by
    funext k
    show befV (q ++ [y]) (if k = y then (x : Int) + 1 else fr k) = if k = y then some (i : Int) else befV q (fr k)
    by_cases hk : k = y
    · rw [if_pos hk, if_pos hk]
      unfold befV
      rw [if_neg (by omega), if_neg (by omega)]
      have : ((x : Int) + 1 - 1).toNat = x := by omega
      rw [this, List.getD_eq_getElem?_getD, List.getElem?_append_left hx, hi]
      rfl
    · rw [if_neg hk, if_neg hk]
      unfold befV
      by_cases c1 : fr k = 0
      · rw [if_pos c1, if_pos c1]
      · rw [if_neg c1, if_neg c1]
        by_cases c2 : fr k < 0
        · rw [if_pos c2, if_pos c2]
        · rw [if_neg c2, if_neg c2]
          rcases h.bd k with c | c | ⟨j, c, hj⟩
          · exact absurd c c1
          · omega
          · have : (fr k - 1).toNat < q.length := by omega
            rw [List.getD_eq_getElem?_getD, List.getD_eq_getElem?_getD, List.getElem?_append_left this]
  refine ⟨⟨dep', ?_⟩, fun k hk => ?_, ?_, fun t k hk => ?_, fun k => ?_⟩
  · rw [e, List.drop_append_of_le_length (by omega), hd]
    exact hch'
  · rcases List.mem_append.1 hk with h1 | h1
    · exact h.lt k h1
    · rw [List.mem_singleton] at h1
      omega
  · have h1 : unf N (fun k => ((fr k != 0) || k == y)) < unf N (fun k => fr k != 0) := unf_add (N := N) (x := y) (S := fun k => fr k != 0) hy (by simp [h0])
    have e2 : unf N (fun k => (if k = y then (x : Int) + 1 else fr k) != 0) = unf N (fun k => ((fr k != 0) || k == y)) := by
      congr 1
      funext k
      by_cases hk : k = y
      · rw [if_pos hk]
        subst hk
        have : ((x : Int) + 1 != 0) = true := by rw [bne_iff_ne]; omega
        simp [this]
      · rw [if_neg hk]
        simp [hk]
    have h2 := h.len
    rw [e2, List.length_append, List.length_singleton]
    omega
  · by_cases ht : t < q.length
    · rw [List.getElem?_append_left ht] at hk
      have h1 := h.ix t k hk
      have hky : k ≠ y := fun e => by
        subst e
        rcases h1 with c | ⟨j, c, -⟩ <;> omega
      rw [if_neg hky]
      exact h1
    · have ht2 : t = q.length := by
        have := (List.getElem?_eq_some_iff.1 hk).1
        rw [List.length_append, List.length_singleton] at this
        omega
      subst ht2
      rw [List.getElem?_append_right (Nat.le_refl _), Nat.sub_self] at hk
      have : y = k := Option.some.inj hk
      subst this
      rw [if_pos rfl]
      exact .inr ⟨x, rfl, hx⟩
  · rw [List.length_append, List.length_singleton]
    by_cases hk : k = y
    · rw [if_pos hk]
      exact .inr (.inr ⟨x, rfl, by omega⟩)
    · rw [if_neg hk]
      rcases h.bd k with c | c | ⟨j, c, hj⟩
      · exact .inl c
      · exact .inr (.inl c)
      · exact .inr (.inr ⟨j, c, by omega⟩)
theorem RcB.pop {R : Nat → Nat → Bool} {N s x i : Nat} {fac : Nat → Bool} {fr : Nat → Int} {q : List Nat} (h : RcB R N s fac fr q x) (hi : q[x]? = some i) (hf : fac i = fac s) (hk : ∀ k, R i k = true → fr k ≠ 0) : RcB R N s fac fr q (x + 1) := by
  have hx : x < q.length := (List.getElem?_eq_some_iff.1 hi).1
  have hd : q.drop x = i :: q.drop (x + 1) := by rw [List.drop_eq_getElem_cons hx, (List.getElem?_eq_some_iff.1 hi).2]
  obtain ⟨dep, hch⟩ := h.ch
  rw [hd] at hch
  exact ⟨⟨dep, hch.pop hf fun k hR => befQ_some.2 (hk k hR)⟩, h.lt, h.len, h.ix, h.bd⟩
theorem RcB.dry {R : Nat → Nat → Bool} {N s : Nat} {fac : Nat → Bool} {fr : Nat → Int} {q : List Nat} (h : RcB R N s fac fr q q.length) : ∀ m k, walkN R s m k → fac k = fac s := by
  obtain ⟨dep, hch⟩ := h.ch
  rw [List.drop_length] at hch
  exact hch.none
/-- A chain back to the start, step by step. -/
theorem BackL.at {bef : Nat → Option Int} {s : Nat} : ∀ {l : List Nat}, BackL bef s l → ∀ j k, l[j]? = some k → (l[j + 1]? = none ∧ bef k = some (-1)) ∨ ∃ k' : Nat, l[j + 1]? = some k' ∧ bef k = some (k' : Int)
  | [a], h, 0, k, hk => by
    have : a = k := Option.some.inj hk
    subst this
    exact .inl ⟨rfl, h.2⟩
  | [a], _, j + 1, k, hk => by cases hk
  | a :: b :: l, h, 0, k, hk => by
    have : a = k := Option.some.inj hk
    subst this
    exact .inr ⟨b, rfl, h.1⟩
  | a :: b :: l, h, j + 1, k, hk => BackL.at (l := b :: l) h.2 j k hk
theorem RcB.found {R : Nat → Nat → Bool} {N s x i : Nat} {fac : Nat → Bool} {fr : Nat → Int} {q : List Nat} (h : RcB R N s fac fr q x) (hi : q[x]? = some i) (hf : fac i ≠ fac s) :
    ∃ l, (i :: l).length ≤ N ∧ (∀ k, k ∈ i :: l → k < N) ∧ ChOk R N s fac (i :: l).reverse ∧ ∀ j k t, (i :: l)[j]? = some k → q[t]? = some k →
      ((i :: l)[j + 1]? = none ∧ fr k = -1) ∨ ∃ (k' t' : Nat), (i :: l)[j + 1]? = some k' ∧ fr k = (t' : Int) + 1 ∧ t' < t ∧ q[t']? = some k' := by
  have hx : x < q.length := (List.getElem?_eq_some_iff.1 hi).1
  have hd : q.drop x = i :: q.drop (x + 1) := by rw [List.drop_eq_getElem_cons hx, (List.getElem?_eq_some_iff.1 hi).2]
  obtain ⟨dep, hch⟩ := h.ch
  rw [hd] at hch
  obtain ⟨l, hb, hlen, hN⟩ := hch.back (dep i) i rfl (hch.kn i (by simp)).2
  refine ⟨l, ?_, hN, hch.found hf hb hlen hN, fun j k t hj ht => ?_⟩
  · have := BackL.len hch (l := i :: l) (.inr hb) hN
    omega
  · rcases hb.at j k hj with ⟨e1, e2⟩ | ⟨k', e1, e2⟩
    · refine .inl ⟨e1, ?_⟩
      rcases h.ix t k ht with c | ⟨t', c, -⟩
      · exact c
      · unfold befQ befV at e2
        rw [if_neg (by omega), if_neg (by omega)] at e2
        have := Option.some.inj e2
        omega
    · refine .inr ?_
      rcases h.ix t k ht with c | ⟨t', c, hlt⟩
      · unfold befQ befV at e2
        rw [if_neg (by omega), if_pos (by omega)] at e2
        have := Option.some.inj e2
        omega
      · refine ⟨k', t', e1, c, hlt, ?_⟩
        unfold befQ befV at e2
        rw [if_neg (by omega), if_neg (by omega)] at e2
        have h3 : ((q.getD (fr k - 1).toNat 0 : Nat) : Int) = (k' : Int) := Option.some.inj e2
        have h4 : (fr k - 1).toNat = t' := by omega
        rw [h4] at h3
        have htq : t' < q.length := by
          have := (List.getElem?_eq_some_iff.1 ht).1
          omega
        rw [List.getD_eq_getElem?_getD, List.getElem?_eq_getElem htq] at h3
        rw [List.getElem?_eq_getElem htq]
        congr 1
        have : q[t'] = k' := by
          have h5 : (some q[t']).getD 0 = q[t'] := rfl
          rw [h5] at h3
          omega
        exact this
end Go.Proofs.Ytahaimecchdfeaa

/-
  Walk: the reference's Chain.
-/
namespace Go.Proofs.Ytahaimecchdfeaa
open Go.RowKit

/-- A row of ints, as it lies. -/
def intA (f : Nat → Int) (N : Nat) : Array Value := (i64L f N).toArray
theorem intA_size (f : Nat → Int) (N : Nat) : (intA f N).size = N := by unfold intA i64L; simp
theorem intA_get {f : Nat → Int} {N k : Nat} (h : k < N) : (intA f N)[k]? = some (.int .i64 (f k)) := by unfold intA i64L; simp [h]
theorem intA_set {f f' : Nat → Int} {N k : Nat} {z : Int} (_h : k < N) (h' : ∀ j, j < N → f' j = if j = k then z else f j) : (intA f N).setIfInBounds k (.int .i64 z) = intA f' N := by
  apply Array.ext_getElem?
  intro j
  rw [Array.getElem?_setIfInBounds]
  by_cases hj : j < N
  · by_cases e : k = j
    · subst e
      rw [if_pos rfl, if_pos (by rw [intA_size]; exact hj), intA_get hj, h' k hj, if_pos rfl]
    · rw [if_neg e, intA_get hj, intA_get hj, h' j hj, if_neg (fun e2 => e e2.symm)]
  · have h1 : (intA f N)[j]? = none := by rw [Array.getElem?_eq_none_iff, intA_size]; omega
    have h2 : (intA f' N)[j]? = none := by rw [Array.getElem?_eq_none_iff, intA_size]; omega
    by_cases e : k = j
    · subst e
      rw [if_pos rfl, if_neg (by rw [intA_size]; omega), h2]
    · rw [if_neg e, h1, h2]
theorem madeCells_int (N : Nat) : madeCells #[.int .i64 0] N = intA (fun _ => 0) N := by
  apply Array.ext_getElem?
  intro j
  by_cases hj : j < N
  · rw [intA_get hj]
    unfold madeCells
    simp [hj, Nat.mod_one]
  · rw [Array.getElem?_eq_none_iff.2 (by rw [size_madeCells]; omega), Array.getElem?_eq_none_iff.2 (by rw [intA_size]; omega)]
/-- The search in memory. -/
structure RcI (V W : World) (gF N : Nat) (pts : List (Nat × Nat)) (fr : Nat → Int) (q : List Nat) (v : Value) : Prop where
  below : Below V.heap.size V W
  row : Blk W gF 3 (intA fr N)
  que : PnO W V.heap.size v (q.map (ptG pts))
  ge : V.heap.size ≤ gF
theorem RcI.kept {V W W' : World} {gF N : Nat} {pts : List (Nat × Nat)} {fr : Nat → Int} {q : List Nat} {v : Value} (h : RcI V W gF N pts fr q v) (hb : Below W.heap.size W W') : RcI V W' gF N pts fr q v := ⟨below_trans h.below hb, h.row.below hb, h.que.below hb, h.ge⟩
theorem RcI.mark {V W : World} {gF N k : Nat} {z : Int} {pts : List (Nat × Nat)} {fr : Nat → Int} {q : List Nat} {v : Value} (h : RcI V W gF N pts fr q v) (hk : k < N) : RcI V (W.setCell ⟨gF, k, none⟩ (.int .i64 z)) gF N pts (fun j => if j = k then z else fr j) q v :=
  ⟨h.below.setCell (p := ⟨gF, k, none⟩) h.ge _, by
    have := h.row.set k (.int .i64 z)
    rwa [intA_set (f' := fun j => if j = k then z else fr j) hk (fun j _ => rfl)] at this, own_keeps h.que (Keeps.of_set h.row (by decide) _ _), h.ge⟩
theorem RcI.push {V W W3 : World} {gF N k : Nat} {pts : List (Nat × Nat)} {fr : Nat → Int} {q : List Nat} {v v' : Value} {o : Obj} (h : RcI V W gF N pts fr q v) (hown : PnO W3 V.heap.size v' ((q ++ [k]).map (ptG pts))) (hg : (W.alloc o).grownBy W3 v.ownBlock) : RcI V W3 gF N pts fr (q ++ [k]) v' :=
  ⟨below_append h.below rfl h.que hg, (h.row.below (below_alloc W o)).kept_row (own_alloc' h.que o) (by decide) hg, hown, h.ge⟩
theorem pts_get {pts : List (Nat × Nat)} {k : Nat} (h : k < pts.length) : pts[k]? = some (ptG pts k) := by
  rw [List.getElem?_eq_getElem h]
  unfold ptG
  rw [List.getD_eq_getElem?_getD, List.getElem?_eq_getElem h]
  rfl
/-- What the reference's Chain answers. -/
def RcPost (w : World) (R : Int) (n : Nat) (fa fh fm : Nat → Int) (r t : Int) (e : Ending) (w' : World) : Prop :=
  ∃ v E, e = .returned (.tuple #[v, .int .i64 E]) ∧ Below w.heap.size w w' ∧ ∃ ps, ps = losRs (sndV n fa fh fm) R.toNat ∧
    ((losE R n fa fh fm ≠ 0 ∧ v = .slice none 0 0 ∧ E = (losE R n fa fh fm : Nat)) ∨
     (losE R n fa fh fm = 0 ∧ ¬ inP ps.length (R + 1).toNat r t ∧ v = .slice none 0 0 ∧ E = 2) ∨
     (losE R n fa fh fm = 0 ∧ inP ps.length (R + 1).toNat r t ∧ E = 0 ∧
       ((∃ l, ChOk (akS 2 (R + 1) ps.length (psL (sndV n fa fh fm) ps)) (ps.length * (R + 1).toNat) (posP (R + 1) r t) (facK (lF ps) ps.length (R + 1) 0) l ∧ PnO w' w.heap.size v (l.map (ptG (ptL ps.length (R + 1).toNat))) ∧ l.length ≤ 1024) ∨
        (v = .slice none 0 0 ∧ ∀ m k, walkN (akS 2 (R + 1) ps.length (psL (sndV n fa fh fm) ps)) (posP (R + 1) r t) m k → facK (lF ps) ps.length (R + 1) 0 k = facK (lF ps) ps.length (R + 1) 0 (posP (R + 1) r t)))))
set_option maxHeartbeats 8000000 in
set_option maxRecDepth 100000 in
theorem rChain_any (R : Int) (A : Option Addr) (n c : Nat) (fa fh fm : Nat → Int) (r t : Int) (w : World) (hx : RuleS w A n fa fh fm) (hn : n ≤ 65536) :
    Calls Try.prog 26 #[.agg #[.int .i64 R, .slice A n c], .agg #[.int .i64 r, .int .i64 t]] w (RcPost w R n fa fh fm r t) := by
  have HLO := Lib.hid (fun W (h : RuleS W A n fa fh fm) => rLossy_any R A n c fa fh fm W h (by omega))
  have HLS := Lib.hid (fun (w1 : World) base AR cR (h : RunsO w1 base (.slice AR (losD R n fa fh fm).ps.length cR) (losD R n fa fh fm).ps) (hE : losE R n fa fh fm = 0) => los_shape rfl h hE)
  obtain ⟨E, eE⟩ : ∃ E, E = losE R n fa fh fm := ⟨_, rfl⟩
  obtain ⟨DD, eD⟩ : ∃ E, E = losD R n fa fh fm := ⟨_, rfl⟩
  obtain ⟨PO, ePO⟩ : ∃ P, P = RcPost w R n fa fh fm r t := ⟨_, rfl⟩
  have HPN : Hid (∀ w' v E', Below w.heap.size w w' → E ≠ 0 → v = .slice none 0 0 → E' = (E : Int) → PO (.returned (.tuple #[v, .int .i64 E'])) w') := Lib.hid fun w' v E' h1 h2 h3 h4 => by
    rw [ePO]
    exact ⟨v, E', rfl, h1, _, rfl, .inl ⟨by rw [← eE]; exact h2, h3, by rw [← eE]; exact h4⟩⟩
  have HPI : Hid (∀ w' v E', Below w.heap.size w w' → E = 0 → ¬ inP (losRs (sndV n fa fh fm) R.toNat).length (R + 1).toNat r t → v = .slice none 0 0 → E' = 2 → PO (.returned (.tuple #[v, .int .i64 E'])) w') := Lib.hid fun w' v E' h1 h2 h3 h4 h5 => by
    rw [ePO]
    exact ⟨v, E', rfl, h1, _, rfl, .inr (.inl ⟨by rw [← eE]; exact h2, h3, h4, h5⟩)⟩
  have HPY : Hid (∀ w' v E', Below w.heap.size w w' → E = 0 → inP (losRs (sndV n fa fh fm) R.toNat).length (R + 1).toNat r t → E' = 0 →
      ((∃ l, ChOk (akS 2 (R + 1) (losRs (sndV n fa fh fm) R.toNat).length (psL (sndV n fa fh fm) (losRs (sndV n fa fh fm) R.toNat))) ((losRs (sndV n fa fh fm) R.toNat).length * (R + 1).toNat) (posP (R + 1) r t) (facK (lF (losRs (sndV n fa fh fm) R.toNat)) (losRs (sndV n fa fh fm) R.toNat).length (R + 1) 0) l ∧ PnO w' w.heap.size v (l.map (ptG (ptL (losRs (sndV n fa fh fm) R.toNat).length (R + 1).toNat))) ∧ l.length ≤ 1024) ∨
        (v = .slice none 0 0 ∧ ∀ m k, walkN (akS 2 (R + 1) (losRs (sndV n fa fh fm) R.toNat).length (psL (sndV n fa fh fm) (losRs (sndV n fa fh fm) R.toNat))) (posP (R + 1) r t) m k → facK (lF (losRs (sndV n fa fh fm) R.toNat)) (losRs (sndV n fa fh fm) R.toNat).length (R + 1) 0 k = facK (lF (losRs (sndV n fa fh fm) R.toNat)) (losRs (sndV n fa fh fm) R.toNat).length (R + 1) 0 (posP (R + 1) r t))) →
      PO (.returned (.tuple #[v, .int .i64 E'])) w') := Lib.hid fun w' v E' h1 h2 h3 h4 h5 => by
    rw [ePO]
    exact ⟨v, E', rfl, h1, _, rfl, .inr (.inr ⟨by rw [← eE]; exact h2, h3, h4, h5⟩)⟩
  rw [← ePO]
  rw [← eE] at HLO HLS
  rw [← eD] at HLO HLS
  obtain ⟨W, hW⟩ : ∃ W, W = (w.alloc (.cells #[.int .i64 R, .slice A n c] 43)).alloc (.cells #[.int .i64 r, .int .i64 t] 26) := ⟨_, rfl⟩
  obtain ⟨k0, k1, hB⟩ := two_boxes4 w _ _ _ _ W hW
  have hlo := HLO.out W (hx.below hB)
  unfold SysPost at hlo
  have HL1 := Lib.hid hlo
  have HB := Lib.hid hB
  have HK1 := Lib.hid k1
  have d0 := k0.cell (k := 0) rfl
  have d1 := k0.cell (k := 1) rfl
  clear k0 k1 hB hlo HLO eE eD ePO hx
  go_enter Try.func26, Try.ntmps26
  go_upto_region 1 with (fail)
  rw [← hW]
  obtain ⟨bE, ebE⟩ : ∃ b, b = w.heap.size := ⟨_, rfl⟩
  obtain ⟨bP, ebP⟩ : ∃ b, b = w.heap.size + 1 := ⟨_, rfl⟩
  rw [← ebP, ← ebE]
  rw [← ebE] at d0 d1
  rw [← ebP] at HK1
  clear hW ebE ebP
  go_upto_region 2 with (go_at_call 61; refine HL1.out.mono ?_; rintro e w1 ⟨x, rfl, hown, hb1⟩; obtain ⟨vR, rfl, hro⟩ := hown; obtain ⟨AR, cR, rfl⟩ := runsO_shape hro; have HB := Lib.hid (below_trans HB.out hb1); have HK1 := Lib.hid (HK1.out.below hb1); have HRO := Lib.hid hro; clear hb1 hro)
  clear d0 d1 HL1
  have hba := below_alloc w1 (.cells #[.int .i64 DD.a, .int .i64 DD.f, .int .i64 DD.l, .slice AR DD.ps.length cR] 24)
  have hbk := Blk.new w1 #[.int .i64 DD.a, .int .i64 DD.f, .int .i64 DD.l, .slice AR DD.ps.length cR] 24
  have HB := Lib.hid (below_trans HB.out hba)
  have HK1 := Lib.hid (HK1.out.below hba)
  obtain ⟨W2, eW2⟩ : ∃ W2, W2 = w1.alloc (.cells #[.int .i64 DD.a, .int .i64 DD.f, .int .i64 DD.l, .slice AR DD.ps.length cR] 24) := ⟨_, rfl⟩
  rw [← eW2] at hba hbk HB HK1 ⊢
  obtain ⟨bS, ebS⟩ : ∃ b, b = w1.heap.size := ⟨_, rfl⟩
  rw [← ebS] at hbk ⊢
  clear eW2 ebS
  by_cases hE : E = 0
  case neg =>
    have t1 : ((E : Int) != 0) = true := by rw [bne_iff_ne]; omega
    have HNE := Lib.hid hE
    clear hE HLS hbk hba HPI HPY
    go_wp2_with fail
    try go_ret2
    exact HPN.out _ _ _ HB.out HNE.out rfl rfl
  subst hE
  rw [show (((0 : Nat)) : Int) = 0 from rfl]
  obtain ⟨⟨e1, e2, e3, e5⟩, hls, hlc, hlp, hR, hex⟩ := HLS.out w1 _ _ _ HRO.out rfl
  have hls2 := hls.below hba
  rw [e1, e2, e3, e5] at hbk ⊢
  generalize sndV n fa fh fm = snd at *
  obtain ⟨ps, eps⟩ : ∃ ps, ps = losRs snd R.toNat := ⟨_, rfl⟩
  rw [← eps] at hls2 hlc hlp hbk HPI HPY ⊢
  have hN64 := hlp.len.2
  obtain ⟨T, rfl⟩ : ∃ T : Nat, R = (T : Int) := ⟨R.toNat, by omega⟩
  have hT : T ≤ 4 := by omega
  have hck : chkE ((2 : Nat) : Int) 1 ((T + 1 : Nat) : Int) ps.length (lT ps) (fun _ _ => 2) (lT ps) (lF ps) = 0 := hlc
  obtain ⟨-, -, -, -, -, -, hfr, -⟩ := chkE_ok hck
  have hS : SysR W2 (.agg #[.int .i64 ((2 : Nat) : Int), .int .i64 1, .int .i64 ((T + 1 : Nat) : Int), .slice AR ps.length cR]) ((2 : Nat) : Int) 1 ((T + 1 : Nat) : Int) ps.length (lT ps) (fun _ _ => 2) (psL snd ps) (lT ps) (lF ps) := hls2
  have HS := Lib.hid hS
  have HK := Lib.hid hbk
  have HPO := Lib.hid (rpoint_any _ _ _ _ _ _ _ _ _ _ r t W2 hS)
  have hTl : ((T + 1 : Nat) : Int).toNat = T + 1 := by omega
  have hTl2 : ((T : Int) + 1).toNat = T + 1 := by omega
  rw [hTl] at HPO
  rw [hTl2] at HPI HPY
  have q0 := hbk.cell (k := 0) rfl
  have q1 := hbk.cell (k := 1) rfl
  have q2 := hbk.cell (k := 2) rfl
  have q3 := hbk.cell (k := 3) rfl
  have p0 := HK1.out.cell (k := 0) rfl
  have p1 := HK1.out.cell (k := 1) rfl
  have hPO := HPO.out
  by_cases hP : inP ps.length (T + 1) r t
  case neg =>
    rw [decide_eq_false hP] at hPO
    have HPX := Lib.hid hPO
    have HNP := Lib.hid hP
    clear e1 e2 e3 e5 hls hlc hlp hR hex hls2 hba hbk HLS eps HRO hfr hS HPO hTl hTl2 hPO hP hck HPN HPY
    go_wp2_with (go_at_call 44; refine HPX.out.mono ?_; rintro e w2 ⟨rfl, hb1⟩; have HB := Lib.hid (below_trans HB.out hb1); clear hb1)
    try go_ret2
    exact HPI.out _ _ _ HB.out (by first | rfl | trivial) HNP.out rfl rfl
  rw [decide_eq_true hP] at hPO
  have HPX := Lib.hid hPO
  have HPY2 := Lib.hid (fun w' v E' h1 h4 h5 => HPY.out w' v E' h1 (by first | rfl | trivial) hP h4 h5)
  obtain ⟨⟨hr0, hr1⟩, ht0, ht1⟩ := hP
  obtain ⟨r', rfl⟩ : ∃ q : Nat, r = q := ⟨r.toNat, by omega⟩
  obtain ⟨t', rfl⟩ : ∃ q : Nat, t = q := ⟨t.toNat, by omega⟩
  have hr : r' < ps.length := by omega
  have ht : t' < T + 1 := by omega
  have hpos := pos_lt hr ht
  have hNl : ps.length * (T + 1) ≤ 1024 := Nat.le_trans (Nat.mul_le_mul hN64 (show T + 1 ≤ 5 by omega)) (by decide)
  have HPT1 := Lib.hid (fun (X : World) (hX : Below W2.heap.size W2 X) => rPoints_any _ _ _ _ _ _ _ _ _ _ X (sys_below HS.out hX) (by omega) hck)
  have HPS1 := Lib.hid (fun (X : World) (hX : Below W2.heap.size W2 X) (r t : Nat) (hb : r * (T + 1) + t ≤ 65536) => rposition_any _ _ _ _ _ _ _ _ _ _ r t X (sys_below HS.out hX) hb)
  have hfr2 : ∀ q, q < ps.length → lT ps q = T + 1 := fun q hq => by have := (hfr q hq).1; omega
  have hAK := fun (X : World) (hX : Below W2.heap.size W2 X) (r t r' t' : Nat) (hr : r < ps.length) (ht : t < T + 1) (hr' : r' < ps.length) (ht' : t' < T + 1) => ralike_any _ 2 1 _ ps.length (lT ps) (fun _ _ => 2) (psL snd ps) (lT ps) (lF ps) r t r' t' X (sys_below HS.out hX) (by decide) hr (by rw [hfr2 r hr]; exact ht) hr' (by rw [hfr2 r' hr']; exact ht') (Nat.le_refl _) (Nat.le_refl _)
  have hFA : ∀ (X : World), Below W2.heap.size W2 X → ∀ k, k < ps.length * (T + 1) → Calls Try.prog 50 #[.agg #[.int .i64 2, .int .i64 1, .int .i64 ((T : Int) + 1), .slice AR ps.length cR], .agg #[.int .i64 (ptG (ptL ps.length (T + 1)) k).1, .int .i64 (ptG (ptL ps.length (T + 1)) k).2], .int .i64 0] X fun e w' => e = .returned (.bool (facK (lF ps) ps.length ((T : Int) + 1) 0 k)) ∧ Below X.heap.size X w' := fun X hX k hk => by
    obtain ⟨r1, t1, f1, h1, h2, h3⟩ := ptG_at hk
    have := rfact_any _ _ _ _ _ _ _ _ _ _ r1 t1 0 X (sys_below HS.out hX) h1 (by rw [hfr2 r1 h1]; exact h2) (by decide)
    unfold facK
    rw [hTl2, f1]
    exact this
  obtain ⟨N, eN⟩ : ∃ N, N = ps.length * (T + 1) := ⟨_, rfl⟩
  obtain ⟨pts, epts⟩ : ∃ p, p = ptL ps.length (T + 1) := ⟨_, rfl⟩
  obtain ⟨RR, eRR⟩ : ∃ R, R = akS 2 ((T : Int) + 1) ps.length (psL snd ps) := ⟨_, rfl⟩
  obtain ⟨FA, eFA⟩ : ∃ q : Nat → Bool, q = facK (lF ps) ps.length ((T : Int) + 1) 0 := ⟨_, rfl⟩
  obtain ⟨s, es⟩ : ∃ s, s = r' * (T + 1) + t' := ⟨_, rfl⟩
  have hposP : posP ((T : Int) + 1) (r' : Int) (t' : Int) = s := by rw [es]; unfold posP; rw [hTl2]; simp
  have hpl : pts.length = N := by rw [epts, ptL_len, eN]
  have hRR : RR = akB 2 (psL snd ps) pts := by rw [eRR, epts]; unfold akS; rw [hTl2]; rfl
  have HF := Lib.hid (show ∀ (X : World), Below W2.heap.size W2 X → ∀ k, k < N → Calls Try.prog 50 #[.agg #[.int .i64 2, .int .i64 1, .int .i64 ((T : Int) + 1), .slice AR ps.length cR], .agg #[.int .i64 (ptG pts k).1, .int .i64 (ptG pts k).2], .int .i64 0] X fun e w' => e = .returned (.bool (FA k)) ∧ Below X.heap.size X w' by rw [eFA, eN, epts]; exact hFA)
  have HAL : Hid (∀ (X : World) (_ : Below W2.heap.size W2 X) (j k : Nat), j < N → k < N → Calls Try.prog 62 #[.agg #[.int .i64 2, .int .i64 1, .int .i64 ((T : Int) + 1), .slice AR ps.length cR], .agg #[.int .i64 (ptG pts j).1, .int .i64 (ptG pts j).2], .agg #[.int .i64 (ptG pts k).1, .int .i64 (ptG pts k).2]] X fun e w' => e = .returned (.bool (RR j k)) ∧ Below X.heap.size X w') := Lib.hid fun X hX j k hj hk => by
    rw [eN] at hj hk
    obtain ⟨r1, t1, f1, h1, h2, h3⟩ := ptG_at hj
    obtain ⟨r2, t2, f2, h4, h5, h6⟩ := ptG_at hk
    have := hAK X hX r1 t1 r2 t2 h1 h2 h4 h5
    rw [hRR, epts, f1, f2, h3, h6, akB_pos h1 h2 h4 h5]
    exact this
  have HPS : Hid (∀ (X : World) (_ : Below W2.heap.size W2 X) (k : Nat), k < N → Calls Try.prog 55 #[.agg #[.int .i64 2, .int .i64 1, .int .i64 ((T : Int) + 1), .slice AR ps.length cR], .agg #[.int .i64 (ptG pts k).1, .int .i64 (ptG pts k).2]] X fun e w' => e = .returned (.int .i64 (k : Nat)) ∧ Below X.heap.size X w') := Lib.hid fun X hX k hk => by
    rw [eN] at hk
    obtain ⟨r1, t1, f1, h1, h2, h3⟩ := ptG_at hk
    have := HPS1.out X hX r1 t1 (by omega)
    rw [epts, f1, h3]
    exact this
  have HRN : Hid (∀ j k, RR j k = true → k < N) := Lib.hid fun j k h => by
    rw [hRR] at h
    unfold akB at h
    rw [Bool.and_eq_true, decide_eq_true_eq, hpl] at h
    exact h.1
  have hP0 : ptG pts s = (r', t') := by rw [epts, es, ptG_get (pos_lt hr ht), pos_div ht, pos_mod ht]
  rw [← epts] at HPT1
  rw [← es, ← eN] at hpos
  rw [hposP, ← eN, ← epts, ← eRR, ← eFA] at HPY2
  rw [← eN] at hNl
  have HP0 := Lib.hid hP0
  have HPL := Lib.hid hpl
  obtain ⟨NR, eNR⟩ : ∃ q, q = ps.length := ⟨_, rfl⟩
  rw [← eNR] at HF HAL HPS HPX HPT1 HK q3 ⊢
  have hmk := fun w1 => run_make_row' (P := Try.prog) (w := w1) 75 3 (.int .i64 0) 8 Try.underlying75 Try.infoInt rfl .i64 .i64 N (by omega) (by omega)
  clear e1 e2 e3 e5 hls hlc hlp hR hex hls2 hba hbk HLS eps HRO hfr hS HPO hTl hTl2 hPO hck HPN HPI HPY hN64 hT hr0 hr1 ht0 ht1 HPS1 hfr2 hAK hFA hr ht epts eRR eFA es hposP hpl hRR hP0 eNR HS eN
  go_upto_region 6 with (go_at_call 44; refine HPX.out.mono ?_; rintro e w2 ⟨rfl, hb1⟩; have HBW := Lib.hid hb1; clear hb1)
  clear q0 q1 q2 q3 p0 p1 HPX
  have q0 := (HK.out.below HBW.out).cell (k := 0) rfl
  have q1 := (HK.out.below HBW.out).cell (k := 1) rfl
  have q2 := (HK.out.below HBW.out).cell (k := 2) rfl
  have q3 := (HK.out.below HBW.out).cell (k := 3) rfl
  go_upto_region 7 with (go_at_call 45; refine (HPT1.out _ HBW.out).mono ?_; rintro e w3 ⟨vP, rfl, hpo, hb1⟩; obtain ⟨Ap, cp, rfl⟩ := hpo.shape; have HPP := Lib.hid hpo; have HBW := Lib.hid (below_trans HBW.out hb1); clear hb1 hpo)
  clear q0 q1 q2 q3 HPT1
  rw [HPL.out]
  have hpp := HPP.out
  rw [HPL.out] at hpp
  have hpp2 : PnO w3 w2.heap.size (.slice Ap N cp) pts := hpp
  have HPT := Lib.hid hpp2
  clear hpp hpp2 HPP
  obtain ⟨V, eV⟩ : ∃ V, V = w3 := ⟨_, rfl⟩
  subst eV
  go_upto_region 8 with (fail)
  have hrw := Blk.new V (madeCells #[.int .i64 0] N) 3
  have hba := below_alloc V (.cells (madeCells #[.int .i64 0] N) 3)
  obtain ⟨W3, eW3⟩ : ∃ W3, W3 = V.alloc (.cells (madeCells #[.int .i64 0] N) 3) := ⟨_, rfl⟩
  rw [← eW3] at hrw hba ⊢
  obtain ⟨gF, egF⟩ : ∃ g, g = V.heap.size := ⟨_, rfl⟩
  rw [← egF] at hrw ⊢
  rw [madeCells_int] at hrw
  have p0 := (HK1.out.below (below_trans HBW.out hba)).cell (k := 0) rfl
  have p1 := (HK1.out.below (below_trans HBW.out hba)).cell (k := 1) rfl
  have HRW := Lib.hid hrw
  have HBA := Lib.hid hba
  have hgF : V.heap.size ≤ gF := Nat.le_of_eq egF.symm
  clear hrw hba eW3 egF hmk
  go_upto_region 9 with (fail)
  have hlit := World.ownsRow_lit (base := V.heap.size) (e := 26) (size := 2) W3 #[.int .i64 r', .int .i64 t'] 1 HBA.out.size (by decide) rfl
  have hba := below_alloc W3 (.cells #[.int .i64 r', .int .i64 t'] 26)
  obtain ⟨W4, eW4⟩ : ∃ W4, W4 = W3.alloc (.cells #[.int .i64 r', .int .i64 t'] 26) := ⟨_, rfl⟩
  rw [← eW4] at hlit hba ⊢
  have hS0 : RcI V W4 gF N pts (fun _ => 0) [s] (.slice (some ⟨W3.heap.size, 0, none⟩) 1 1) :=
    ⟨below_trans HBA.out hba, HRW.out.below hba, by
      show W4.ownsRow _ _ _ _ _ _
      rw [List.map_cons, List.map_nil, HP0.out]
      exact hlit, hgF⟩
  have HS0 := Lib.hid hS0
  clear p0 p1 hlit hba eW4 hS0 HRW HBA
  have hw4 := below_trans HBW.out HS0.out.below
  have HPX := Lib.hid (fun (X : World) (hX : Below W4.heap.size W4 X) => HPS.out X (below_trans hw4 hX) s hpos)
  rw [HP0.out] at HPX
  have q0 := (HK.out.below hw4).cell (k := 0) rfl
  have q1 := (HK.out.below hw4).cell (k := 1) rfl
  have q2 := (HK.out.below hw4).cell (k := 2) rfl
  have q3 := (HK.out.below hw4).cell (k := 3) rfl
  have p0 := (HK1.out.below hw4).cell (k := 0) rfl
  have p1 := (HK1.out.below hw4).cell (k := 1) rfl
  have hsN : (s : Int) < (N : Int) := by omega
  clear hw4
  go_upto_region 10 with (go_at_call 55; refine (HPX.out _ (Below.refl _ _)).mono ?_; rintro e w5 ⟨rfl, hb1⟩; have HS0 := Lib.hid (HS0.out.kept hb1); have c0 := HS0.out.row.cell (intA_get hpos); have fz : w5.frozen? ⟨gF, s, none⟩ = false := HS0.out.row.frozen; clear hb1)
  clear q0 q1 q2 q3 p0 p1 HPX c0 fz
  have hS1 := HS0.out.mark (z := -1) hpos
  obtain ⟨W6, eW6⟩ : ∃ W6, W6 = w5.setCell ⟨gF, s, none⟩ (.int .i64 (-1)) := ⟨_, rfl⟩
  rw [← eW6] at hS1 ⊢
  have HS1 := Lib.hid hS1
  clear hS1 eW6 HS0 hsN
  go_wp2_with fail
  go_loopw [10, 11] (fun lv iv wr => ∃ (x : Nat) (fr : Nat → Int) (q : List Nat), x ≤ q.length ∧ iv = .int .i64 x ∧ RcI V wr gF N pts fr q lv ∧ Hid (RcB RR N s FA fr q x)) (fun _ iv _ => N + 1 - (intOf iv).toNat)
  case atStart => exact ⟨0, _, [s], Nat.zero_le _, rfl, HS1.out, Lib.hid (RcB.start RR FA hpos)⟩
  case round =>
    clear HS1
    obtain ⟨x, fr, q, hx, rfl, hI, HQ⟩ := hrel
    have HI := Lib.hid hI
    obtain ⟨Aq, cq, eq⟩ := hI.que.shape
    rw [List.length_map] at eq
    subst eq
    obtain ⟨Q, eQ⟩ : ∃ Q, Q = q.length := ⟨_, rfl⟩
    have EQ := Lib.hid eQ
    rw [← eQ] at hx HI ⊢
    have hQN : Q ≤ N := by rw [eQ]; have := HQ.out.len; omega
    by_cases hlt : x < Q
    · have hxx : (x : Int) < (Q : Int) := by omega
      obtain ⟨i, hi⟩ : ∃ j, q[x]? = some j := ⟨_, List.getElem?_eq_getElem (by rw [← EQ.out]; exact hlt)⟩
      have hiN : i < N := HQ.out.lt i (List.mem_of_getElem? hi)
      have hbw := hI.below
      have hw := below_trans HBW.out hbw
      obtain ⟨gq, kq, eqq, g0, g1⟩ := pnO_at hI.que (show (q.map (ptG pts))[x]? = some (ptG pts i) by rw [List.getElem?_map, hi]; rfl)
      rw [List.length_map] at eqq
      rw [← eQ] at eqq
      injection eqq with eqq ex1 ex2
      subst eqq
      clear ex1 ex2 eQ
      have HGI := Lib.hid hi
      obtain ⟨i1, ei1⟩ : ∃ p, p = (ptG pts i).1 := ⟨_, rfl⟩
      obtain ⟨i2, ei2⟩ : ∃ p, p = (ptG pts i).2 := ⟨_, rfl⟩
      rw [← ei1] at g0
      rw [← ei2] at g1
      have HPI := Lib.hid (show ptG pts i = (i1, i2) by rw [ei1, ei2])
      have q0 := (HK.out.below hw).cell (k := 0) rfl
      have q1 := (HK.out.below hw).cell (k := 1) rfl
      have q2 := (HK.out.below hw).cell (k := 2) rfl
      have q3 := (HK.out.below hw).cell (k := 3) rfl
      have p0 := (HK1.out.below hw).cell (k := 0) rfl
      have p1 := (HK1.out.below hw).cell (k := 1) rfl
      have hb0 := Below.refl wr.heap.size wr
      have HSOF := Lib.hid (fun (z : World) (h : Below wr.heap.size wr z) => (⟨h, cell_below h q0, cell_below h q1, cell_below h q2, cell_below h q3, cell_below h g0, cell_below h g1, cell_below h p0, cell_below h p1⟩ : Below wr.heap.size wr z ∧ z.cell? ⟨bS, 0, none⟩ = some (.int .i64 2) ∧ z.cell? ⟨bS, 1, none⟩ = some (.int .i64 1) ∧ z.cell? ⟨bS, 2, none⟩ = some (.int .i64 ((T : Int) + 1)) ∧ z.cell? ⟨bS, 3, none⟩ = some (.slice AR NR cR) ∧ z.cell? ⟨gq, x * 2, none⟩ = some (.int .i64 i1) ∧ z.cell? ⟨gq, x * 2 + 1, none⟩ = some (.int .i64 i2) ∧ z.cell? ⟨bP, 0, none⟩ = some (.int .i64 r') ∧ z.cell? ⟨bP, 1, none⟩ = some (.int .i64 t')))
      have HFX := Lib.hid (fun (X : World) (hX : Below wr.heap.size wr X) (z1 z2 : Nat) (b : Bool) (h : (z1 = i1 ∧ z2 = i2 ∧ b = FA i) ∨ (z1 = r' ∧ z2 = t' ∧ b = FA s)) => show Calls Try.prog 50 #[.agg #[.int .i64 2, .int .i64 1, .int .i64 ((T : Int) + 1), .slice AR NR cR], .agg #[.int .i64 z1, .int .i64 z2], .int .i64 0] X fun e w' => e = .returned (.bool b) ∧ Below X.heap.size X w' by
        rcases h with ⟨rfl, rfl, rfl⟩ | ⟨rfl, rfl, rfl⟩
        · have := HF.out X (below_trans hw hX) i hiN
          rw [← ei1, ← ei2] at this
          exact this
        · have := HF.out X (below_trans hw hX) s hpos
          rw [HP0.out] at this
          exact this)
      have HFE := Lib.hid (show FA i = FA s ∨ FA i ≠ FA s from Classical.em _)
      clear ei1 ei2 q0 q1 q2 q3 p0 p1 g0 g1 hi hw hI
      by_cases hf : FA i = FA s
      · have t1 : (FA i != FA s) = false := by rw [bne_eq_false_iff_eq]; exact hf
        have t1b : (FA i == FA s) = true := by rw [beq_iff_eq]; exact hf
        have HFS := Lib.hid hf
        obtain ⟨u, eu⟩ : ∃ u, u = FA i := ⟨_, rfl⟩
        obtain ⟨v, ev⟩ : ∃ u, u = FA s := ⟨_, rfl⟩
        rw [← eu, ← ev] at HFX t1 t1b
        clear hf HFE eu ev
        go_upto_region 13 with (fail)
        go_region_held3 (fun z => Below wr.heap.size wr z ∧ z.cell? ⟨bS, 0, none⟩ = some (.int .i64 2) ∧ z.cell? ⟨bS, 1, none⟩ = some (.int .i64 1) ∧ z.cell? ⟨bS, 2, none⟩ = some (.int .i64 ((T : Int) + 1)) ∧ z.cell? ⟨bS, 3, none⟩ = some (.slice AR NR cR) ∧ z.cell? ⟨gq, x * 2, none⟩ = some (.int .i64 i1) ∧ z.cell? ⟨gq, x * 2 + 1, none⟩ = some (.int .i64 i2) ∧ z.cell? ⟨bP, 0, none⟩ = some (.int .i64 r') ∧ z.cell? ⟨bP, 1, none⟩ = some (.int .i64 t')) (first | exact HSOF.out _ (by assumption) | exact HSOF.out _ (below_drew hb0) | exact HSOF.out _ (below_trans (And.left (by assumption)) (by assumption)))
          ((go_at_call 50; refine (HFX.out _ (And.left (by assumption)) _ _ _ (by first | exact Or.inl ⟨rfl, rfl, rfl⟩ | exact Or.inr ⟨rfl, rfl, rfl⟩)).mono ?_; rintro e w7 ⟨rfl, hb1⟩; have HB7 := below_trans (And.left (by assumption)) hb1; clear hb1))
        all_goals (
          have hbz := And.left (by assumption : Below wr.heap.size wr _ ∧ _)
          have HI := Lib.hid (HI.out.kept hbz)
          rename_i hz
          clear hz hbz HSOF HFX hb0
          go_wp2_with fail
          clear t1 t1b
          go_loopw [10, 14] (fun lv kv wz => ∃ (k : Nat) (fr' : Nat → Int) (q' : List Nat), k ≤ N ∧ kv = .int .i64 k ∧ RcI V wz gF N pts fr' q' lv ∧ Hid (RcB RR N s FA fr' q' x) ∧ Hid (q'[x]? = some i) ∧ Hid (∀ y, y < k → RR i y = true → fr' y ≠ 0)) (fun _ kv _ => N - (intOf kv).toNat)
          case atStart => exact ⟨0, fr, q, Nat.zero_le _, rfl, HI.out, HQ, HGI, Lib.hid fun y hy => absurd hy (Nat.not_lt_zero _)⟩
          case round =>
            clear HI HQ HGI hbw
            obtain ⟨k, fr', q', hk, rfl, hI, HQ, HGI, HKN⟩ := hrel
            have HI := Lib.hid hI
            have hbw := hI.below
            have hw := below_trans HBW.out hbw
            obtain ⟨gz, kz, eqq, g0, g1⟩ := pnO_at hI.que (show (q'.map (ptG pts))[x]? = some (ptG pts i) by rw [List.getElem?_map, HGI.out]; rfl)
            rw [List.length_map] at eqq
            subst eqq
            have hx1 : x < q'.length := (List.getElem?_eq_some_iff.1 HGI.out).1
            have hlen := HQ.out.len
            obtain ⟨Q1, eQ1⟩ : ∃ Q1, Q1 = q'.length := ⟨_, rfl⟩
            rw [← eQ1] at hx1 HI hlen ⊢
            have EQ1 := Lib.hid eQ1
            by_cases hkN : k < N
            · have hkk : (k : Int) < (N : Int) := by omega
              have hx2 : (x : Int) < (Q1 : Int) := by omega
              obtain ⟨gp, kp, ep, p0, p1⟩ := pnO_at (HPT.out.below hbw) (pts_get (k := k) (by rw [HPL.out]; exact hkN))
              injection ep with ep1 ep2 ep3
              subst ep1
              obtain ⟨k1, ek1⟩ : ∃ p, p = (ptG pts k).1 := ⟨_, rfl⟩
              obtain ⟨k2, ek2⟩ : ∃ p, p = (ptG pts k).2 := ⟨_, rfl⟩
              have HPK := Lib.hid (show ptG pts k = (k1, k2) by rw [ek1, ek2])
              rw [HPI.out] at g0 g1
              rw [← ek1] at p0
              rw [← ek2] at p1
              have c0 := hI.row.cell (intA_get hkN)
              have HAX := Lib.hid (fun (X : World) (hX : Below wr.heap.size wr X) => HAL.out X (below_trans hw hX) i k hiN hkN)
              rw [HPI.out, HPK.out] at HAX
              dsimp only at g0 g1 HAX
              have q0 := (HK.out.below hw).cell (k := 0) rfl
              have q1 := (HK.out.below hw).cell (k := 1) rfl
              have q2 := (HK.out.below hw).cell (k := 2) rfl
              have q3 := (HK.out.below hw).cell (k := 3) rfl
              have hb0 := Below.refl wr.heap.size wr
              have HKY : Hid (fr' k ≠ 0 ∨ RR i k = false → ∀ y, y < k + 1 → RR i y = true → fr' y ≠ 0) := Lib.hid fun h y hy hR => by
                rcases Nat.lt_succ_iff_lt_or_eq.1 hy with h1 | rfl
                · exact HKN.out y h1 hR
                · rcases h with h | h
                  · exact h
                  · rw [hR] at h; cases h
              by_cases hfr : fr' k = 0
              · rw [hfr] at c0
                have HSOF := Lib.hid (fun (z : World) (h : Below wr.heap.size wr z) => (⟨h, cell_below h q0, cell_below h q1, cell_below h q2, cell_below h q3, cell_below h c0, cell_below h g0, cell_below h g1, cell_below h p0, cell_below h p1⟩ : Below wr.heap.size wr z ∧ z.cell? ⟨bS, 0, none⟩ = some (.int .i64 2) ∧ z.cell? ⟨bS, 1, none⟩ = some (.int .i64 1) ∧ z.cell? ⟨bS, 2, none⟩ = some (.int .i64 ((T : Int) + 1)) ∧ z.cell? ⟨bS, 3, none⟩ = some (.slice AR NR cR) ∧ z.cell? ⟨gF, k, none⟩ = some (.int .i64 0) ∧ z.cell? ⟨gz, x * 2, none⟩ = some (.int .i64 i1) ∧ z.cell? ⟨gz, x * 2 + 1, none⟩ = some (.int .i64 i2) ∧ z.cell? ⟨gp, k * 2, none⟩ = some (.int .i64 k1) ∧ z.cell? ⟨gp, k * 2 + 1, none⟩ = some (.int .i64 k2)))
                have HFR := Lib.hid hfr
                clear eQ1 ek1 ek2 ep2 ep3 hI hfr g0 g1 p0 p1 q0 q1 q2 q3 c0 hw
                cases hR : RR i k with
                | false =>
                  rw [hR] at HAX
                  have HKZ := Lib.hid (HKY.out (.inr hR))
                  clear hR HKY hbw
                  go_upto_region 23 with (fail)
                  go_region_held3 (fun z => Below wr.heap.size wr z ∧ z.cell? ⟨bS, 0, none⟩ = some (.int .i64 2) ∧ z.cell? ⟨bS, 1, none⟩ = some (.int .i64 1) ∧ z.cell? ⟨bS, 2, none⟩ = some (.int .i64 ((T : Int) + 1)) ∧ z.cell? ⟨bS, 3, none⟩ = some (.slice AR NR cR) ∧ z.cell? ⟨gF, k, none⟩ = some (.int .i64 0) ∧ z.cell? ⟨gz, x * 2, none⟩ = some (.int .i64 i1) ∧ z.cell? ⟨gz, x * 2 + 1, none⟩ = some (.int .i64 i2) ∧ z.cell? ⟨gp, k * 2, none⟩ = some (.int .i64 k1) ∧ z.cell? ⟨gp, k * 2 + 1, none⟩ = some (.int .i64 k2)) (first | exact HSOF.out _ (by assumption) | exact HSOF.out _ (below_drew hb0) | exact HSOF.out _ (below_trans (And.left (by assumption)) (by assumption)))
                    ((go_at_call 62; refine (HAX.out _ (And.left (by assumption))).mono ?_; rintro e w7 ⟨rfl, hb1⟩; have HB7 := below_trans (And.left (by assumption)) hb1; clear hb1))
                  all_goals (
                    have hbz := And.left (by assumption : Below wr.heap.size wr _ ∧ _)
                    go_wp2_with fail
                    go_roundw
                    case rel => exact ⟨k + 1, fr', q', by omega, by go_num, HI.out.kept hbz, HQ, HGI, HKZ⟩
                    case measure => simp [intOf]; omega)
                | true =>
                  rw [hR] at HAX
                  have HQN := Lib.hid (HQ.out.add HGI.out hkN hR HFR.out)
                  have HGN : Hid ((q' ++ [k])[x]? = some i) := Lib.hid (by rw [List.getElem?_append_left (by rw [← EQ1.out]; exact hx1)]; exact HGI.out)
                  have HKZ : Hid (∀ y, y < k + 1 → RR i y = true → (if y = k then (x : Int) + 1 else fr' y) ≠ 0) := Lib.hid fun y hy hR => by
                    by_cases e : y = k
                    · rw [if_pos e]; omega
                    · rw [if_neg e]; exact HKN.out y (by omega) hR
                  clear hR HKY hbw
                  go_upto_region 23 with (fail)
                  go_region_held3 (fun z => Below wr.heap.size wr z ∧ z.cell? ⟨bS, 0, none⟩ = some (.int .i64 2) ∧ z.cell? ⟨bS, 1, none⟩ = some (.int .i64 1) ∧ z.cell? ⟨bS, 2, none⟩ = some (.int .i64 ((T : Int) + 1)) ∧ z.cell? ⟨bS, 3, none⟩ = some (.slice AR NR cR) ∧ z.cell? ⟨gF, k, none⟩ = some (.int .i64 0) ∧ z.cell? ⟨gz, x * 2, none⟩ = some (.int .i64 i1) ∧ z.cell? ⟨gz, x * 2 + 1, none⟩ = some (.int .i64 i2) ∧ z.cell? ⟨gp, k * 2, none⟩ = some (.int .i64 k1) ∧ z.cell? ⟨gp, k * 2 + 1, none⟩ = some (.int .i64 k2)) (first | exact HSOF.out _ (by assumption) | exact HSOF.out _ (below_drew hb0) | exact HSOF.out _ (below_trans (And.left (by assumption)) (by assumption)))
                    ((go_at_call 62; refine (HAX.out _ (And.left (by assumption))).mono ?_; rintro e w7 ⟨rfl, hb1⟩; have HB7 := below_trans (And.left (by assumption)) hb1; clear hb1))
                  all_goals (
                    have HI7 := Lib.hid (HI.out.kept HB7)
                    have c0 := HI7.out.row.cell (intA_get hkN)
                    have fz : w7.frozen? ⟨gF, k, none⟩ = false := HI7.out.row.frozen
                    rename_i hz
                    clear hz HB7 hb0
                    go_upto_region 25 with (fail)
                    have HI8 := HI7.out.mark (z := (x : Int) + 1) hkN
                    obtain ⟨W8, eW8⟩ : ∃ W8, W8 = w7.setCell ⟨gF, k, none⟩ (.int .i64 ((x : Int) + 1)) := ⟨_, rfl⟩
                    rw [← eW8] at HI8 ⊢
                    obtain ⟨gp', kp', ep', p0, p1⟩ := pnO_at (HPT.out.below HI8.below) (show pts[k]? = some (k1, k2) by rw [← HPK.out]; exact pts_get (by rw [HPL.out]; exact hkN))
                    injection ep' with ep1 ex1 ex2
                    injection ep1 with ep1
                    injection ep1 with epb
                    subst epb
                    clear ex1 ex2
                    have HO2 := Lib.hid HI8.que
                    unfold PnO at HO2
                    rw [List.length_map, ← EQ1.out] at HO2
                    have hsz2 := HI8.below.size
                    have HI8 := Lib.hid HI8
                    have hmap : (q' ++ [k]).map (ptG pts) = q'.map (ptG pts) ++ [(k1, k2)] := by rw [List.map_append, List.map_cons, HPK.out]; rfl
                    have HMP := Lib.hid hmap
                    clear c0 fz eW8 hmap HI7
                    dsimp only at p0 p1
                    go_wp2_with (at_builtin; obtain ⟨ii, hi, hz0, hz1, hz2⟩ := info_parts Try.infoPoint; refine wpList_append_own_at _ rfl _ _ 29 rfl V.heap.size 26 ii _ 2 16 Try.underlying29 hi hz0 hz1 hz2 rfl (by decide) _ _ _ rfl (own_alloc' HO2.out _) ⟨W8.heap.size, 0, none⟩ 1 1 [.int .i64 k1, .int .i64 k2] rfl rfl (World.news_of_block (cs := #[.int .i64 k1, .int .i64 k2]) (t := 26) (fr := (0, 0)) (heap_alloc_new W8 _)) (by simp [Value.oneCell']) (by unfold maxLen; omega) (by omega) (by simp; omega) ?_; intro v' w9 hown' hgrow _ _; have HOW := Lib.hid hown'; have HGR := Lib.hid hgrow; clear hown' hgrow hi hz0 hz1 hz2)
                    go_roundw
                    case rel =>
                      refine ⟨k + 1, _, q' ++ [k], by omega, by go_num, HI8.out.push ?_ HGR.out, HQN, HGN, HKZ⟩
                      unfold PnO
                      rw [HMP.out, crL_snoc, List.length_append, List.length_map, ← EQ1.out]
                      exact HOW.out
                    case measure => simp [intOf]; omega)
              · have u1 : (fr' k == 0) = false := by rw [beq_eq_false_iff_ne]; exact hfr
                have HKZ := Lib.hid (HKY.out (.inl hfr))
                obtain ⟨z, ez⟩ : ∃ z, z = fr' k := ⟨_, rfl⟩
                rw [← ez] at c0 u1
                clear eQ1 ek1 ek2 ep2 ep3 hI hfr g0 g1 p0 p1 q0 q1 q2 q3 hw HKY ez hb0 hbw HAX
                go_wp2_with fail
                go_quiet (fail)
                go_wp2_with fail
                go_roundw
                case rel => exact ⟨k + 1, fr', q', by omega, by go_num, HI.out.kept (below_drewN (Below.refl _ _) _), HQ, HGI, HKZ⟩
                case measure => simp [intOf]; omega
            · obtain rfl : k = N := by omega
              have hkk : ¬ (k : Int) < (k : Int) := by omega
              have HQN := Lib.hid (HQ.out.pop HGI.out HFS.out fun y hR => HKN.out y (HRN.out i y hR) hR)
              have hlx : x + 1 ≤ q'.length := by rw [← EQ1.out]; exact hx1
              have HLX := Lib.hid hlx
              clear hI eQ1 g0 g1 hbw hw hlx
              go_wp2_with fail
              go_roundw
              case rel => exact ⟨x + 1, fr', q', HLX.out, by go_num, HI.out, HQN⟩
              case measure => simp [intOf]; omega)
      · have t1 : (FA i != FA s) = true := by rw [bne_iff_ne]; exact hf
        have t1b : (FA i == FA s) = false := by rw [beq_eq_false_iff_ne]; exact hf
        obtain ⟨l, hln, hlN, hok, hstep⟩ := HQ.out.found HGI.out hf
        obtain ⟨full, efull⟩ : ∃ f, f = i :: l := ⟨_, rfl⟩
        have hf0 : full[0]? = some i := by rw [efull]; rfl
        rw [← efull] at hln hlN hok hstep
        have HOK := Lib.hid hok
        have HST := Lib.hid hstep
        have HLN := Lib.hid hlN
        have HF0 := Lib.hid hf0
        obtain ⟨u, eu⟩ : ∃ u, u = FA i := ⟨_, rfl⟩
        obtain ⟨v, ev⟩ : ∃ u, u = FA s := ⟨_, rfl⟩
        rw [← eu, ← ev] at HFX t1 t1b
        clear hf HFE eu ev efull hok hstep hlN hf0
        go_upto_region 13 with (fail)
        go_region_held3 (fun z => Below wr.heap.size wr z ∧ z.cell? ⟨bS, 0, none⟩ = some (.int .i64 2) ∧ z.cell? ⟨bS, 1, none⟩ = some (.int .i64 1) ∧ z.cell? ⟨bS, 2, none⟩ = some (.int .i64 ((T : Int) + 1)) ∧ z.cell? ⟨bS, 3, none⟩ = some (.slice AR NR cR) ∧ z.cell? ⟨gq, x * 2, none⟩ = some (.int .i64 i1) ∧ z.cell? ⟨gq, x * 2 + 1, none⟩ = some (.int .i64 i2) ∧ z.cell? ⟨bP, 0, none⟩ = some (.int .i64 r') ∧ z.cell? ⟨bP, 1, none⟩ = some (.int .i64 t')) (first | exact HSOF.out _ (by assumption) | exact HSOF.out _ (below_drew hb0) | exact HSOF.out _ (below_trans (And.left (by assumption)) (by assumption)))
          ((go_at_call 50; refine (HFX.out _ (And.left (by assumption)) _ _ _ (by first | exact Or.inl ⟨rfl, rfl, rfl⟩ | exact Or.inr ⟨rfl, rfl, rfl⟩)).mono ?_; rintro e w7 ⟨rfl, hb1⟩; have HB7 := below_trans (And.left (by assumption)) hb1; clear hb1))
        all_goals (
          have hbz := And.left (by assumption : Below wr.heap.size wr _ ∧ _)
          have HI := Lib.hid (HI.out.kept hbz)
          rename_i hz
          clear hz hbz HSOF HFX hb0 hbw
          obtain ⟨V2, eV2⟩ : ∃ V2, V2 = w7 := ⟨_, rfl⟩
          rw [← eV2] at HI ⊢
          clear eV2
          have hw2 := below_trans HBW.out HI.out.below
          have HBV := Lib.hid hw2
          have hszV := hw2.size
          go_wp2_with fail
          clear t1 t1b
          go_loopw [12, 13] (fun lv kv wz => ∃ (j : Nat) (kz : Int), j ≤ full.length ∧ kv = .int .i64 kz ∧ PnO wz V2.heap.size lv (((full.take j).reverse).map (ptG pts)) ∧ Below V2.heap.size V2 wz ∧ Hid ((j = full.length ∧ kz = -2) ∨ ∃ tt k : Nat, kz = (tt : Int) ∧ q[tt]? = some k ∧ full[j]? = some k)) (fun _ kv _ => (intOf kv + 2).toNat)
          case atStart => exact ⟨0, (x : Int), Nat.zero_le _, rfl, World.ownsRow_nil _ _ _ _, Below.refl _ _, Lib.hid (.inr ⟨x, i, rfl, HGI.out, HF0.out⟩)⟩
          case round =>
            obtain ⟨j, kz, hj, rfl, ho, hb, HD⟩ := hrel
            have HO := Lib.hid ho
            have HBX := Lib.hid hb
            rcases HD.out with ⟨hje, hkz⟩ | ⟨tt, k, hkz, hqt, hfj⟩
            · have u1 : decide (kz ≥ 0) = false := decide_eq_false (by omega)
              have u2 : decide (0 ≤ kz) = false := decide_eq_false (by omega)
              have hkn : ¬ (0 : Int) ≤ kz := by omega
              have hres : PnO wr V2.heap.size u12 (full.reverse.map (ptG pts)) := by
                rw [hje, List.take_length] at ho
                exact ho
              have HRES := Lib.hid hres
              clear ho hb hje hkz hres hw2 HD
              go_wp2_with fail
              try go_ret2
              exact HPY2.out _ _ _ (below_trans HB.out (below_trans HBV.out HBX.out)) rfl (.inl ⟨full.reverse, HOK.out, own_mono' HRES.out (Nat.le_trans HB.out.size hszV), by rw [List.length_reverse]; omega⟩)
            · subst hkz
              have u1 : decide ((tt : Int) ≥ 0) = true := decide_eq_true (by omega)
              have u2 : decide ((0 : Int) ≤ (tt : Int)) = true := decide_eq_true (by omega)
              have hkn : (0 : Int) ≤ (tt : Int) := by omega
              have hjl : j < full.length := (List.getElem?_eq_some_iff.1 hfj).1
              have htq : tt < Q := by rw [EQ.out]; exact (List.getElem?_eq_some_iff.1 hqt).1
              have htQ : (tt : Int) < (Q : Int) := by omega
              have hkN : k < N := HLN.out k (List.mem_of_getElem? hfj)
              obtain ⟨gz, kz', eqq, g0, g1⟩ := pnO_at (HI.out.que.below hb) (show (q.map (ptG pts))[tt]? = some (ptG pts k) by rw [List.getElem?_map, hqt]; rfl)
              rw [List.length_map, ← EQ.out] at eqq
              injection eqq with eqq ex1 ex2
              injection eqq with eqq
              injection eqq with eqq
              subst eqq
              clear ex1 ex2
              obtain ⟨k1, ek1⟩ : ∃ p, p = (ptG pts k).1 := ⟨_, rfl⟩
              obtain ⟨k2, ek2⟩ : ∃ p, p = (ptG pts k).2 := ⟨_, rfl⟩
              have HPK := Lib.hid (show ptG pts k = (k1, k2) by rw [ek1, ek2])
              rw [← ek1] at g0
              rw [← ek2] at g1
              have HLS : Hid (((full.take (j + 1)).reverse).map (ptG pts) = (k1, k2) :: ((full.take j).reverse).map (ptG pts)) := Lib.hid (by rw [List.take_add_one, hfj, ← HPK.out]; simp)
              obtain ⟨ys, eys⟩ : ∃ ys, ys = ((full.take j).reverse).map (ptG pts) := ⟨_, rfl⟩
              have hyl : ys.length = j := by rw [eys, List.length_map, List.length_reverse, List.length_take]; omega
              rw [← eys] at HO HLS
              have HST2 := Lib.hid (HST.out j k tt hfj hqt)
              have hw := below_trans HBV.out hb
              have HPX := Lib.hid (fun (X : World) (hX : Below wr.heap.size wr X) => HPS.out X (below_trans hw hX) k hkN)
              rw [HPK.out] at HPX
              have HHO := HO.out
              unfold PnO at HHO
              rw [hyl] at HHO
              have HO2 := Lib.hid HHO
              have hsz2 := hb.size
              have hjN : j < N := by omega
              clear ho hb hqt hfj ek1 ek2 eys hw hw2 HHO HD
              go_upto_region 17 with (at_builtin; obtain ⟨ii, hi, hz0, hz1, hz2⟩ := info_parts Try.infoPoint; refine wpList_append_row rfl _ _ 29 rfl V2.heap.size 26 ii _ 2 16 Try.underlying29 hi hz0 hz1 hz2 rfl (by decide) _ 1 (crL [(k1, k2)]) rfl (World.ownsRow_lit (base := V2.heap.size) (e := 26) (size := 2) wr #[.int .i64 k1, .int .i64 k2] 1 hsz2 (by decide) rfl) V2.heap.size _ j (crL ys) rfl (own_alloc' HO2.out _) (crL_one ys) (by unfold maxLen; omega) (by omega) (by simp; omega) ?_; intro v' w9 hown' hgrow; have HOW := Lib.hid hown'; have HB9 := Lib.hid ((below_trans (show Below wr.heap.size wr wr from Below.refl _ _) (below_alloc wr _)).grown hgrow (by simp) (fun g e => by cases e; exact Nat.le_refl _)); clear hown' hgrow hi hz0 hz1 hz2)
              have hpn : PnO w9 V2.heap.size v' ((k1, k2) :: ys) := by
                have h1 := HOW.out
                unfold PnO
                rw [show crL ((k1, k2) :: ys) = crL [(k1, k2)] ++ crL ys by simp [crL], List.length_cons, hyl, Nat.add_comm]
                exact h1
              have HPN9 := Lib.hid hpn
              have hb9 := below_trans HBX.out HB9.out
              have hw9 := below_trans HBV.out hb9
              have hst : ∃ fk kz2 : Int, fr k = fk ∧ IntKind.i64.wrap (fk - 1) = kz2 ∧ kz2 < (tt : Int) ∧ -2 ≤ kz2 ∧ ((j + 1 = full.length ∧ kz2 = -2) ∨ ∃ tt' k' : Nat, kz2 = (tt' : Int) ∧ q[tt']? = some k' ∧ full[j + 1]? = some k') := by
                rcases HST2.out with ⟨e1, e2⟩ | ⟨k', t2, e1, e2, e3, e4⟩
                · refine ⟨-1, -2, e2, by decide, by omega, by omega, .inl ⟨?_, rfl⟩⟩
                  rw [List.getElem?_eq_none_iff] at e1
                  omega
                · refine ⟨(t2 : Int) + 1, t2, e2, by rw [IntKind.wrap_i64]; omega, by omega, by omega, .inr ⟨t2, k', rfl, e4, e1⟩⟩
              obtain ⟨fk, kz2, hfk, hwk, hlt2, hge2, hD2⟩ := hst
              have HD2 := Lib.hid hD2
              have g0 := cell_below HB9.out g0
              have g1 := cell_below HB9.out g1
              have c0 : w9.cell? ⟨gF, k, none⟩ = some (.int .i64 fk) := by
                have := (HI.out.row.below hb9).cell (intA_get hkN)
                rwa [hfk] at this
              have q0 := (HK.out.below hw9).cell (k := 0) rfl
              have q1 := (HK.out.below hw9).cell (k := 1) rfl
              have q2 := (HK.out.below hw9).cell (k := 2) rfl
              have q3 := (HK.out.below hw9).cell (k := 3) rfl
              have hb0 := Below.refl w9.heap.size w9
              have hkN2 : (k : Int) < (N : Int) := by omega
              have HSOF := Lib.hid (fun (z : World) (h : Below w9.heap.size w9 z) => (⟨h, cell_below h q0, cell_below h q1, cell_below h q2, cell_below h q3, cell_below h g0, cell_below h g1, cell_below h c0⟩ : Below w9.heap.size w9 z ∧ z.cell? ⟨bS, 0, none⟩ = some (.int .i64 2) ∧ z.cell? ⟨bS, 1, none⟩ = some (.int .i64 1) ∧ z.cell? ⟨bS, 2, none⟩ = some (.int .i64 ((T : Int) + 1)) ∧ z.cell? ⟨bS, 3, none⟩ = some (.slice AR NR cR) ∧ z.cell? ⟨gq, tt * 2, none⟩ = some (.int .i64 k1) ∧ z.cell? ⟨gq, tt * 2 + 1, none⟩ = some (.int .i64 k2) ∧ z.cell? ⟨gF, k, none⟩ = some (.int .i64 fk)))
              have HPX9 := Lib.hid (fun (X : World) (hX : Below w9.heap.size w9 X) => HPX.out X (below_trans HB9.out hX))
              have HBZ := Lib.hid hb9
              clear hpn hD2 g0 g1 c0 q0 q1 q2 q3 hb9 hw9 hfk HST2 HOW HPX
              go_region_held3 (fun z => Below w9.heap.size w9 z ∧ z.cell? ⟨bS, 0, none⟩ = some (.int .i64 2) ∧ z.cell? ⟨bS, 1, none⟩ = some (.int .i64 1) ∧ z.cell? ⟨bS, 2, none⟩ = some (.int .i64 ((T : Int) + 1)) ∧ z.cell? ⟨bS, 3, none⟩ = some (.slice AR NR cR) ∧ z.cell? ⟨gq, tt * 2, none⟩ = some (.int .i64 k1) ∧ z.cell? ⟨gq, tt * 2 + 1, none⟩ = some (.int .i64 k2) ∧ z.cell? ⟨gF, k, none⟩ = some (.int .i64 fk)) (first | exact HSOF.out _ (by assumption) | exact HSOF.out _ (below_drew hb0) | exact HSOF.out _ (below_trans (And.left (by assumption)) (by assumption)))
                ((go_at_call 55; refine (HPX9.out _ (And.left (by assumption))).mono ?_; rintro e w7 ⟨rfl, hb1⟩; have HB7 := below_trans (And.left (by assumption)) hb1; clear hb1))
              have hbz := And.left (by assumption : Below w9.heap.size w9 _ ∧ _)
              rename_i hz
              clear hz hb0 HSOF
              go_wp2_with fail
              go_roundw
              case rel => exact ⟨j + 1, kz2, by omega, rfl, by rw [HLS.out]; exact HPN9.out.below hbz, below_trans HBZ.out hbz, HD2⟩
              case measure => simp [intOf]; omega)
    · obtain rfl : x = Q := by omega
      have hxx : ¬ (x : Int) < (x : Int) := by omega
      have hQe := HQ.out
      rw [EQ.out] at hQe
      have HDR := Lib.hid hQe.dry
      clear hQe hI eQ
      go_wp2_with fail
      try go_ret2
      exact HPY2.out _ _ _ (below_trans HB.out (below_trans HBW.out HI.out.below)) rfl (.inr ⟨rfl, HDR.out⟩)
end Go.Proofs.Ytahaimecchdfeaa

/-
  Plain facts: the program's chain and the reference's have the same length, and the program's is accepted.
-/
namespace Go.Proofs.Ytahaimecchdfeaa
open Go.RowKit

theorem walk_of_rch {R : Nat → Nat → Bool} {s k : Nat} (h : Rch R s k) : ∃ m, walkN R s m k := by
  obtain ⟨n, hn⟩ := h
  have key : ∀ n k, rchN R s n k → walkN R s (n + 1) k := fun n => by
    induction n with
    | zero => exact fun k hk => ⟨s, rfl, hk⟩
    | succ n ih => exact fun k ⟨j, h1, h2⟩ => ⟨j, ih j h1, h2⟩
  exact ⟨n + 1, key n k hn⟩
theorem ChOk.steps {R : Nat → Nat → Bool} {N s : Nat} {fac : Nat → Bool} {l : List Nat} (h : ChOk R N s fac l) : ∀ t i, l[t]? = some i → walkN R s t i
  | 0, i, hi => by
    have := h.head
    rw [List.head?_eq_getElem?, hi] at this
    exact Option.some.inj this
  | t + 1, k, hk => by
    have ht : t < l.length := by
      have := (List.getElem?_eq_some_iff.1 hk).1
      omega
    exact ⟨l[t], h.steps t _ (List.getElem?_eq_getElem ht), h.link t _ k (List.getElem?_eq_getElem ht) hk⟩
theorem ChOk.pos {R : Nat → Nat → Bool} {N s : Nat} {fac : Nat → Bool} {l : List Nat} (h : ChOk R N s fac l) : 0 < l.length := by
  cases l with
  | nil => have := h.head; cases this
  | cons x xs => exact Nat.succ_pos _
theorem ChOk.le {R : Nat → Nat → Bool} {N s : Nat} {fac : Nat → Bool} {l l' : List Nat} (h : ChOk R N s fac l) (h' : ChOk R N s fac l') : l.length ≤ l'.length := by
  obtain ⟨i, hi, hf⟩ := h'.last
  rw [List.getLast?_eq_getElem?] at hi
  have hp := h'.pos
  have := h.least (l'.length - 1) i (h'.steps _ i hi) hf
  omega
theorem ChOk.same {R : Nat → Nat → Bool} {N s : Nat} {fac : Nat → Bool} {l l' : List Nat} (h : ChOk R N s fac l) (h' : ChOk R N s fac l') : l.length = l'.length := Nat.le_antisymm (h.le h') (h'.le h)
/-- From each point of the lossy channel there is a way to the other bit. -/
theorem los_way {R : Int} {n : Nat} {fa fh fm : Nat → Int} {r t : Int} (hE : losE R n fa fh fm = 0) (hin : inP (losRs (sndV n fa fh fm) R.toNat).length (R + 1).toNat r t) :
    ∃ m k, walkN (akS 2 (R + 1) (losRs (sndV n fa fh fm) R.toNat).length (psL (sndV n fa fh fm) (losRs (sndV n fa fh fm) R.toNat))) (posP (R + 1) r t) m k ∧ facK (lF (losRs (sndV n fa fh fm) R.toNat)) (losRs (sndV n fa fh fm) R.toNat).length (R + 1) 0 k ≠ facK (lF (losRs (sndV n fa fh fm) R.toNat)) (losRs (sndV n fa fh fm) R.toNat).length (R + 1) 0 (posP (R + 1) r t) := by
  have hX : exErr R n fa fh fm = 0 := by
    unfold losE at hE
    by_cases h1 : exErr R n fa fh fm = 0
    · exact h1
    · rw [if_neg h1] at hE; exact hE
  have h64 : (losRs (sndV n fa fh fm) R.toNat).length ≤ 64 := by
    unfold losE at hE
    rw [if_pos hX] at hE
    by_cases h1 : 64 < (losRs (sndV n fa fh fm) R.toNat).length
    · rw [if_pos h1] at hE; cases hE
    · omega
  have hR := exErr_R hX
  have hs := snd_range hX
  obtain ⟨T, rfl⟩ : ∃ T : Nat, R = T := ⟨R.toNat, by omega⟩
  rw [Int.toNat_natCast] at h64 hin ⊢
  have hTl : ((T : Int) + 1).toNat = T + 1 := by omega
  rw [hTl] at hin
  obtain ⟨⟨h1, h2⟩, h3, h4⟩ := hin
  obtain ⟨r', rfl⟩ : ∃ q : Nat, r = q := ⟨r.toNat, by omega⟩
  obtain ⟨t', rfl⟩ : ∃ q : Nat, t = q := ⟨t.toNat, by omega⟩
  have hr : r' < (losRs (sndV n fa fh fm) T).length := by omega
  have hb := fun (b : Int) (h : b = 0 ∨ b = 1) => both_bits (t := t') (r := r') hs (by omega : T ≤ 4) h64 (by omega) hr h
  have hak : akS 2 ((T : Int) + 1) (losRs (sndV n fa fh fm) T).length (psL (sndV n fa fh fm) (losRs (sndV n fa fh fm) T)) = akB 2 (psL (sndV n fa fh fm) (losRs (sndV n fa fh fm) T)) (ptL (losRs (sndV n fa fh fm) T).length (T + 1)) := by
    unfold akS
    rw [hTl]
    rfl
  have hpos : posP ((T : Int) + 1) (r' : Int) (t' : Int) = r' * (T + 1) + t' := by
    unfold posP
    rw [hTl]
    simp
  rw [hak, hpos]
  have hf : ∀ q, q < (losRs (sndV n fa fh fm) T).length → facK (lF (losRs (sndV n fa fh fm) T)) (losRs (sndV n fa fh fm) T).length ((T : Int) + 1) 0 (q * (T + 1) + t') = (ppR (losRs (sndV n fa fh fm) T) q).1.toNat.testBit 0 := fun q h => by
    unfold facK facB2 lF
    rw [hTl, ptG_get (pos_lt h (by omega)), pos_div (by omega)]
  rw [hf r' hr]
  obtain ⟨r0, a1, a2, a3⟩ := hb 0 (.inl rfl)
  obtain ⟨r1, b1, b2, b3⟩ := hb 1 (.inr rfl)
  cases hg : (ppR (losRs (sndV n fa fh fm) T) r').1.toNat.testBit 0 with
  | true =>
    obtain ⟨m, hm⟩ := walk_of_rch a3
    refine ⟨m, _, hm, ?_⟩
    rw [hf r0 a1, a2]
    decide
  | false =>
    obtain ⟨m, hm⟩ := walk_of_rch b3
    refine ⟨m, _, hm, ?_⟩
    rw [hf r1 b1, b2]
    decide
/-- A chain of the program's is accepted. -/
theorem chain_ok {R : Int} {n : Nat} {fa fh fm : Nat → Int} {r t : Int} {l : List Nat} (hE : losE R n fa fh fm = 0)
    (h : ChOk (akS 2 (R + 1) (losRs (sndV n fa fh fm) R.toNat).length (psL (sndV n fa fh fm) (losRs (sndV n fa fh fm) R.toNat))) ((losRs (sndV n fa fh fm) R.toNat).length * (R + 1).toNat) (posP (R + 1) r t) (facK (lF (losRs (sndV n fa fh fm) R.toNat)) (losRs (sndV n fa fh fm) R.toNat).length (R + 1) 0) l) :
    verV R n fa fh fm l.length (fun k => (((l.map (ptG (ptL (losRs (sndV n fa fh fm) R.toNat).length (R + 1).toNat))).getD k (0, 0)).1 : Nat)) (fun k => (((l.map (ptG (ptL (losRs (sndV n fa fh fm) R.toNat).length (R + 1).toNat))).getD k (0, 0)).2 : Nat)) = 0 := by
  unfold verV
  rw [if_pos hE]
  generalize losRs (sndV n fa fh fm) R.toNat = ps at *
  generalize psL (sndV n fa fh fm) ps = L at *
  generalize eN : ps.length = N at *
  generalize lF ps = F at *
  have hpt : ∀ k, k < l.length → ∃ q r t : Nat, l[k]? = some q ∧ q < N * (R + 1).toNat ∧ (l.map (ptG (ptL N (R + 1).toNat))).getD k (0, 0) = (r, t) ∧ r < N ∧ t < (R + 1).toNat ∧ q = r * (R + 1).toNat + t := fun k hk => by
    have hq := List.getElem?_eq_getElem hk
    have hlt := h.lt _ (List.getElem_mem hk)
    obtain ⟨r, t, e, h1, h2, h3⟩ := ptG_at hlt
    exact ⟨l[k], r, t, hq, hlt, by rw [List.getD_eq_getElem?_getD, List.getElem?_map, hq]; exact e, h1, h2, h3⟩
  have hP := verN_P (N := N) (m := l.length) (l := R + 1) (L := L) (F := F) (X := fun k => (((l.map (ptG (ptL N (R + 1).toNat))).getD k (0, 0)).1 : Nat)) (Y := fun k => (((l.map (ptG (ptL N (R + 1).toNat))).getD k (0, 0)).2 : Nat))
  have hall : ∀ k, k < l.length → inP N (R + 1).toNat (((l.map (ptG (ptL N (R + 1).toNat))).getD k (0, 0)).1 : Nat) (((l.map (ptG (ptL N (R + 1).toNat))).getD k (0, 0)).2 : Nat) := fun k hk => by
    obtain ⟨q, r, t, -, -, e, h1, h2, -⟩ := hpt k hk
    rw [e]
    exact ⟨⟨by omega, by omega⟩, by omega, by omega⟩
  rw [hP.fin hall (fun i hi => ?_) h.pos, if_neg ?_]
  · obtain ⟨q0, r0, t0, e0, f0, g0, h0, i0, j0⟩ := hpt 0 h.pos
    obtain ⟨q1, r1, t1, e1, f1, g1, h1, i1, j1⟩ := hpt (l.length - 1) (by have := h.pos; omega)
    rw [g0, g1]
    show ¬ facB2 F ((r0 : Int).toNat, (t0 : Int).toNat) 0 = facB2 F ((r1 : Int).toNat, (t1 : Int).toNat) 0
    simp only [Int.toNat_natCast]
    rw [← facK_pos (n := N) (l := R + 1) h0 i0, ← facK_pos (n := N) (l := R + 1) h1 i1, ← j0, ← j1]
    obtain ⟨i, hi, hf⟩ := h.last
    rw [List.getLast?_eq_getElem?, e1] at hi
    have : q1 = i := Option.some.inj hi
    subst this
    have hh := h.head
    rw [List.head?_eq_getElem?, e0] at hh
    have : q0 = posP (R + 1) r t := Option.some.inj hh
    rw [this]
    exact fun e => hf e.symm
  · obtain ⟨q0, r0, t0, e0, f0, g0, h0, i0, j0⟩ := hpt i (by omega)
    obtain ⟨q1, r1, t1, e1, f1, g1, h1, i1, j1⟩ := hpt (i + 1) hi
    rw [g0, g1]
    have hk := h.link i q0 q1 e0 e1
    have := akB_pos (a := 2) (L := L) h0 i0 h1 i1
    rw [← j0, ← j1] at this
    simp only [Int.toNat_natCast]
    rw [← this]
    exact hk
end Go.Proofs.Ytahaimecchdfeaa
