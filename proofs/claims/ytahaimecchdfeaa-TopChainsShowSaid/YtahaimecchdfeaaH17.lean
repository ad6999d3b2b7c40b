/-
  Texts of this claim, one after the other: what each proves is said at its head. No condition beyond those that its theorems name.
-/
import Derived.Test.YtahaimecchdfeaaProg
import Derived.Deep.DeepCutAuto
import Derived.Deep.RegionHeld3
import Derived.Test.YtahaimecchdfeaaH01
import Derived.Test.YtahaimecchdfeaaH02
import Derived.Test.YtahaimecchdfeaaH03
import Derived.Test.YtahaimecchdfeaaH09
import Derived.Test.YtahaimecchdfeaaH12
import Derived.Test.YtahaimecchdfeaaH15

/-
  Memory of the temporal checker: maps from states to points, maps of truth values, tables of truth values, the check.
-/
namespace Go.Proofs.Ytahaimecchdfeaa
open Go.RowKit

def keyI (x : Int) : Lit := .int .i64 x
theorem keyI_lit (x : Int) : WideAt.IsKeyLit (keyI x) := by simp [WideAt.IsKeyLit, keyI]
theorem keyI_inj {x y : Int} (h : keyI x = keyI y) : x = y := by
  unfold keyI at h
  injection h
theorem keyI_ok {x : Int} (h : okX x) : keyOf Try.prog 3 (.int .i64 x) = some (keyI x) := Maps.keyOf_int_mk Try.underlying3 (okX_wf h)
theorem zeroPts (w : World) : (zeroValue 29).run Try.prog w = .ok (.slice none 0 0) w := by kernel_rfl
theorem zeroBool (w : World) : (zeroValue 4).run Try.prog w = .ok (.bool false) w := by kernel_rfl
/-- A map from states to the points that have them. -/
structure PtM (w : World) (base b n : Nat) (D : DataW Value) (I : Int → List (Nat × Nat)) : Prop where
  own : w.ownsMap Try.prog 3 rawR b n D
  rows : ∀ x : Int, okX x → Maps.has D (keyI x) = true → ∃ v, D.atKey (keyI x) (.held (.slice none 0 0)) = .held v ∧ PnO w base v (I x)
  miss : ∀ x : Int, okX x → Maps.has D (keyI x) = false → I x = []
  apart : ∀ x x' : Int, okX x → okX x' → x ≠ x' → Maps.has D (keyI x) = true → Maps.has D (keyI x') = true → ∀ v v' q, D.atKey (keyI x) (.held (.slice none 0 0)) = .held v → D.atKey (keyI x') (.held (.slice none 0 0)) = .held v' → v.ownBlock = some q → v'.ownBlock ≠ some q
theorem PtM.made (w : World) (base : Nat) : PtM (w.alloc (.map #[] 0)) base w.heap.size 0 (.map []) (fun _ => []) :=
  ⟨World.ownsMap_made _ _ _ _, fun _ _ h => by simp [Maps.has] at h, fun _ _ _ => rfl, fun _ _ _ _ _ h => by simp [Maps.has] at h⟩
theorem PtM.below {w w1 : World} {base b n : Nat} {D : DataW Value} {I : Int → List (Nat × Nat)} (h : PtM w base b n D I) (hb : Below w.heap.size w w1) : PtM w1 base b n D I :=
  ⟨ownsMap_below h.own hb, fun x h1 h2 => by obtain ⟨v, e, ho⟩ := h.rows x h1 h2; exact ⟨v, e, ho.below hb⟩, h.miss, h.apart⟩
theorem PtM.congr {w : World} {base b n : Nat} {D : DataW Value} {I I' : Int → List (Nat × Nat)} (h : PtM w base b n D I) (e : ∀ x, I x = I' x) : PtM w base b n D I' := by
  have : I = I' := funext e
  exact this ▸ h
/-- The rows of points are kept, and the map is. -/
theorem PtM.keeps {w w1 : World} {base b n : Nat} {D : DataW Value} {I : Int → List (Nat × Nat)} (h : PtM w base b n D I) (hk : Keeps w w1 26) (ho : w1.ownsMap Try.prog 3 rawR b n D) : PtM w1 base b n D I :=
  ⟨ho, fun x h1 h2 => by
    obtain ⟨v, e, hp⟩ := h.rows x h1 h2
    exact ⟨v, e, own_keeps hp hk⟩, h.miss, h.apart⟩
theorem PtM.mono {w : World} {base base' b n : Nat} {D : DataW Value} {I : Int → List (Nat × Nat)} (h : PtM w base b n D I) (hb : base' ≤ base) : PtM w base' b n D I :=
  ⟨h.own, fun x h1 h2 => by obtain ⟨v, e, hp⟩ := h.rows x h1 h2; exact ⟨v, e, own_mono' hp hb⟩, h.miss, h.apart⟩
theorem PtM.no_cells {w : World} {base b n : Nat} {D : DataW Value} {I : Int → List (Nat × Nat)} (h : PtM w base b n D I) : ∀ cs T fr, w.heap[b]? ≠ some (.cells cs T fr) := by
  obtain ⟨es, clock, hm, -⟩ := h.own
  intro cs T fr e
  have := e.symm.trans hm
  simp at this
theorem PtM.ne_own {w : World} {base b n B e sz k : Nat} {D : DataW Value} {I : Int → List (Nat × Nat)} {v : Value} {xs : List Value} (h : PtM w base b n D I) (hr : w.ownsRow B e sz v k xs) : v.ownBlock ≠ some b := by
  rcases hr.2 with ⟨rfl, _⟩ | ⟨g, cap, cur, rfl, _, hgb, _⟩
  · simp [Value.ownBlock]
  · intro e'
    obtain rfl : g = b := by simpa [Value.ownBlock] using e'
    exact h.no_cells _ _ _ hgb
theorem PtM.step {w wC : World} {base b n : Nat} {x : Int} {p : Nat × Nat} {D : DataW Value} {I : Int → List (Nat × Nat)} {v0 v' : Value} (h : PtM w base b n D I) (hx : okX x)
    (hv : (Maps.has D (keyI x) = true ∧ D.atKey (keyI x) (.held (.slice none 0 0)) = .held v0) ∨ (Maps.has D (keyI x) = false ∧ v0 = .slice none 0 0))
    (hk : KeepRow w wC v0.ownBlock) (hloc : ∀ q, v'.ownBlock = some q → v0.ownBlock = some q ∨ w.heap.size ≤ q)
    (ho : wC.ownsMap Try.prog 3 rawR b (n + 1) (D.put (keyI x) (.held v'))) (hr : PnO wC base v' (I x ++ [p])) :
    PtM wC base b (n + 1) (D.put (keyI x) (.held v')) (fun x' => if x' = x then I x ++ [p] else I x') := by
  have hM := h.own.isMap
  have hkey : ∀ x' : Int, x' ≠ x → keyI x' ≠ keyI x := fun x' hne e => hne (keyI_inj e)
  have hfar : ∀ x' : Int, okX x' → x' ≠ x → Maps.has D (keyI x') = true → ∀ v q, D.atKey (keyI x') (.held (.slice none 0 0)) = .held v → v.ownBlock = some q → v0.ownBlock ≠ some q := fun x' h2 hne hh v q ev hq e => by
    rcases hv with ⟨h3, h4⟩ | ⟨-, rfl⟩
    · exact h.apart x' x h2 hx hne hh h3 v v0 q ev h4 hq e
    · cases e
  refine ⟨ho, fun x' h2 hh => ?_, fun x' h2 hh => ?_, fun x1 x2 h2 h4 hne hh hh' v v'' q ev ev' hq hq' => ?_⟩
  · by_cases hc : x' = x
    · subst hc
      exact ⟨v', Maps.atKey_put_same hM (keyI_lit _) _ _, by rw [if_pos rfl]; exact hr⟩
    · rw [Maps.has_put_other (hkey x' hc)] at hh
      obtain ⟨v, ev, hown⟩ := h.rows x' h2 hh
      refine ⟨v, by rw [Maps.atKey_put_other (hkey x' hc)]; exact ev, ?_⟩
      rw [if_neg hc]
      exact own_keepRow hown hk fun q hq => hfar x' h2 hc hh v q ev hq
  · by_cases hc : x' = x
    · subst hc
      rw [Maps.has_put_same hM (keyI_lit _)] at hh; cases hh
    · rw [Maps.has_put_other (hkey x' hc)] at hh
      rw [if_neg hc]
      exact h.miss x' h2 hh
  · by_cases c1 : x1 = x
    · by_cases c2 : x2 = x
      · exact hne (c1.trans c2.symm)
      · subst c1
        rw [Maps.atKey_put_same hM (keyI_lit _)] at ev
        injection ev with ev
        subst ev
        rw [Maps.has_put_other (hkey x2 c2)] at hh'
        rw [Maps.atKey_put_other (hkey x2 c2)] at ev'
        obtain ⟨u, eu, hown⟩ := h.rows x2 h4 hh'
        rw [ev'] at eu
        injection eu with eu
        subst eu
        rcases hloc q hq with e | e
        · exact hfar x2 h4 c2 hh' _ q ev' hq' e
        · have := own_lt hown hq'
          omega
    · rw [Maps.has_put_other (hkey x1 c1)] at hh
      rw [Maps.atKey_put_other (hkey x1 c1)] at ev
      by_cases c2 : x2 = x
      · subst c2
        rw [Maps.atKey_put_same hM (keyI_lit _)] at ev'
        injection ev' with ev'
        subst ev'
        obtain ⟨u, eu, hown⟩ := h.rows x1 h2 hh
        rw [ev] at eu
        injection eu with eu
        subst eu
        rcases hloc q hq' with e | e
        · exact hfar x1 h2 c1 hh _ q ev hq e
        · have := own_lt hown hq
          omega
      · rw [Maps.has_put_other (hkey x2 c2)] at hh'
        rw [Maps.atKey_put_other (hkey x2 c2)] at ev'
        exact h.apart x1 x2 h2 h4 hne hh hh' v v'' q ev ev' hq hq'
/-- Reading the map. -/
theorem PtM.look {w : World} {base b n : Nat} {D : DataW Value} {I : Int → List (Nat × Nat)} (h : PtM w base b n D I) {x : Int} (hx : okX x) :
    ∃ v, (Instr.lookup 149 (.map (some b)) (.int .i64 x) false).run Try.prog w = .ok v w ∧ PnO w base v (I x) ∧ ((Maps.has D (keyI x) = true ∧ D.atKey (keyI x) (.held (.slice none 0 0)) = .held v) ∨ (Maps.has D (keyI x) = false ∧ v = .slice none 0 0)) := by
  obtain ⟨v, ps, hrun, hv⟩ := h.own.lookup (Maps.int_keyed Try.underlying3) Try.underlying149 (zeroPts w) (show rawR (.slice none 0 0) = some (.held (.slice none 0 0), []) from rfl) (keyI_ok hx)
  have e := rawR_at hv
  cases hh : Maps.has D (keyI x)
  · rw [Maps.atKey_of_not_has hh] at e
    injection e with e
    subst e
    refine ⟨_, hrun, ?_, .inr ⟨rfl, rfl⟩⟩
    rw [h.miss x hx hh]
    exact World.ownsRow_nil _ _ _ _
  · obtain ⟨u, eu, ho⟩ := h.rows x hx hh
    rw [e] at eu
    injection eu with eu
    subst eu
    exact ⟨_, hrun, ho, .inl ⟨rfl, e⟩⟩
/-- One point more. -/
theorem PtM.push {V w3 : World} {base b k : Nat} {D : DataW Value} {I : Int → List (Nat × Nat)} {x : Int} {p : Nat × Nat} {v0 v' : Value} {o : Obj} (h : PtM V base b k D I) (hx : okX x) (hk : k < 65536) (hp : PnO V base v0 (I x))
    (hv : (Maps.has D (keyI x) = true ∧ D.atKey (keyI x) (.held (.slice none 0 0)) = .held v0) ∨ (Maps.has D (keyI x) = false ∧ v0 = .slice none 0 0))
    (hown : w3.ownsRow base 26 2 v' ((I x).length + 1) (crL (I x) ++ [.int .i64 (p.1 : Nat), .int .i64 (p.2 : Nat)])) (hg : (V.alloc o).grownBy w3 v0.ownBlock) (hloc : v'.ownBlock = v0.ownBlock ∨ v'.ownBlock = some (V.alloc o).heap.size) :
    ∃ w4 D', (Instr.mapUpdate 149 (.map (some b)) (.int .i64 x) v').run Try.prog w3 = .ok () w4 ∧ PtM w4 base b (k + 1) D' (fun x' => if x' = x then I x ++ [p] else I x') ∧ w3.grownBy w4 (some b) := by
  have hba := below_alloc V o
  have hso : (V.alloc o).heap.size = V.heap.size + 1 := by simp
  have ho3 : w3.ownsMap Try.prog 3 rawR b k D := (ownsMap_below h.own hba).kept hg (fun e => h.ne_own hp e.symm)
  obtain ⟨w4, hrun, ho4, hg4⟩ := ho3.update (Maps.int_keyed Try.underlying3) Try.underlying149 (by unfold maxLen; omega) (keyI_ok hx) (show rawR v' = some (.held v', []) from rfl)
  refine ⟨w4, _, hrun, h.step hx hv ?_ ?_ ho4 ?_, hg4⟩
  · exact ((KeepRow.below hba _).trans (KeepRow.grown hg)).trans (KeepRow.map ho3 hg4 _)
  · intro q hq
    rcases hloc with e | e
    · exact .inl (e ▸ hq)
    · rw [e] at hq
      have := Option.some.inj hq
      exact .inr (by omega)
  · unfold PnO
    rw [crL_snoc, List.length_append]
    exact own_keeps hown (Keeps.map ho3 hg4 _)
/-- A map from states to truth values. -/
def BooM (w : World) (b n : Nat) (m : Int → Option Bool) : Prop :=
  ∃ D, w.ownsMap Try.prog 3 rawR b n D ∧ ∀ k v, okX k → m k = some v → D.atKey (keyI k) (.held (.bool false)) = .held (.bool v)
theorem BooM.made (w : World) : BooM (w.alloc (.map #[] 0)) w.heap.size 0 (fun _ => none) := ⟨.map [], World.ownsMap_made _ _ _ _, fun _ _ _ h => by cases h⟩
theorem BooM.below {w w1 : World} {b n : Nat} {m : Int → Option Bool} (h : BooM w b n m) (hb : Below w.heap.size w w1) : BooM w1 b n m := by
  obtain ⟨D, ho, hm⟩ := h
  exact ⟨D, ownsMap_below ho hb, hm⟩
theorem BooM.kept {w w1 : World} {b n : Nat} {m : Int → Option Bool} {row : Option Nat} (h : BooM w b n m) (hg : w.grownBy w1 row) (hne : row ≠ some b) : BooM w1 b n m := by
  obtain ⟨D, ho, hm⟩ := h
  exact ⟨D, ho.kept hg (fun e => hne e.symm), hm⟩
theorem BooM.lt {w : World} {b n : Nat} {m : Int → Option Bool} (h : BooM w b n m) : b < w.heap.size := by
  obtain ⟨D, ho, -⟩ := h
  exact ho.lt
theorem BooM.no_cells {w : World} {b n : Nat} {m : Int → Option Bool} (h : BooM w b n m) : ∀ cs T fr, w.heap[b]? ≠ some (.cells cs T fr) := by
  obtain ⟨D, ⟨es, clock, hm, -⟩, -⟩ := h
  intro cs T fr e
  have := e.symm.trans hm
  simp at this
theorem BooM.bound {w : World} {b n n' : Nat} {m : Int → Option Bool} (h : BooM w b n m) (hn : n ≤ n') : BooM w b n' m := by
  obtain ⟨D, ho, hm⟩ := h
  exact ⟨D, ho.mono hn, hm⟩
theorem BooM.weak {w : World} {b n : Nat} {m m' : Int → Option Bool} (h : BooM w b n m) (e : ∀ k v, m' k = some v → m k = some v) : BooM w b n m' := by
  obtain ⟨D, ho, hm⟩ := h
  exact ⟨D, ho, fun k v hk hv => hm k v hk (e k v hv)⟩
theorem BooM.look {w : World} {b n : Nat} {k : Int} {x : Bool} {m : Int → Option Bool} (h : BooM w b n m) (hk : okX k) (hx : m k = some x) : (Instr.lookup 164 (.map (some b)) (.int .i64 k) false).run Try.prog w = .ok (.bool x) w := by
  obtain ⟨D, ho, hm⟩ := h
  obtain ⟨v, ps, hrun, hv⟩ := ho.lookup (Maps.int_keyed Try.underlying3) Try.underlying164 (zeroBool w) (show rawR (.bool false) = some (.held (.bool false), []) from rfl) (keyI_ok hk)
  rw [hrun]
  have e := rawR_at hv
  rw [hm k x hk hx] at e
  have e := DataW.held.inj e
  subst e
  rfl
theorem BooM.put {w : World} {b n : Nat} {k : Int} {m : Int → Option Bool} (h : BooM w b n m) (hk : okX k) (hn : n < 65536) (v : Bool) : ∃ w', (Instr.mapUpdate 164 (.map (some b)) (.int .i64 k) (.bool v)).run Try.prog w = .ok () w' ∧ BooM w' b (n + 1) (fun j => if j = k then some v else m j) ∧ w.grownBy w' (some b) := by
  obtain ⟨D, ho, hm⟩ := h
  have hM := ho.isMap
  obtain ⟨w', hrun, ho', hg⟩ := ho.update (Maps.int_keyed Try.underlying3) Try.underlying164 (by unfold maxLen; omega) (keyI_ok hk) (show rawR (.bool v) = some (.held (.bool v), []) from rfl)
  refine ⟨w', hrun, ⟨_, ho', fun j x hj hx => ?_⟩, hg⟩
  by_cases e : j = k
  · subst e
    dsimp only at hx
    rw [if_pos rfl] at hx
    have hx := Option.some.inj hx
    rw [← hx]
    exact Maps.atKey_put_same hM (keyI_lit _) _ _
  · dsimp only at hx
    rw [if_neg e] at hx
    rw [Maps.atKey_put_other (fun h => e (keyI_inj h))]
    exact hm j x hj hx
/-! ### tables of truth values -/
def slcA (g l n i : Nat) : Array Value := ((List.range n).map fun r => if r < i then Value.slice (some ⟨g + 1 + r, 0, none⟩) l l else .slice none 0 0).toArray
theorem slcA_size (g l n i : Nat) : (slcA g l n i).size = n := by unfold slcA; simp
theorem slcA_get {g l n i r : Nat} (h : r < n) (hi : r < i) : (slcA g l n i)[r]? = some (.slice (some ⟨g + 1 + r, 0, none⟩) l l) := by unfold slcA; simp [h, hi]
theorem slcA_get0 {g l n i r : Nat} (h : r < n) (hi : ¬ r < i) : (slcA g l n i)[r]? = some (.slice none 0 0) := by unfold slcA; simp [h, hi]
theorem slcA_set {g l n i : Nat} : (slcA g l n i).setIfInBounds i (.slice (some ⟨g + 1 + i, 0, none⟩) l l) = slcA g l n (i + 1) := by
  apply Array.ext_getElem?
  intro r
  by_cases e : i = r
  · subst e
    by_cases h : i < n
    · rw [Array.getElem?_setIfInBounds_self, slcA_get h (Nat.lt_succ_self _), if_pos (by rw [slcA_size]; exact h)]
    · rw [Array.getElem?_eq_none (by rw [Array.size_setIfInBounds, slcA_size]; omega), Array.getElem?_eq_none (by rw [slcA_size]; omega)]
  · rw [Array.getElem?_setIfInBounds_ne e]
    by_cases h : r < n
    · by_cases hi : r < i
      · rw [slcA_get h hi, slcA_get h (by omega)]
      · rw [slcA_get0 h hi, slcA_get0 h (by omega)]
    · rw [Array.getElem?_eq_none (by rw [slcA_size]; omega), Array.getElem?_eq_none (by rw [slcA_size]; omega)]
theorem slcA_zero (g l n : Nat) : madeCells #[.slice none 0 0] n = slcA g l n 0 := by
  unfold slcA madeCells
  apply Array.ext_getElem?
  intro r
  by_cases h : r < n
  · simp [h, Nat.mod_one]
  · simp [h]
/-- A table that a call has made: its rows lie behind it. -/
structure TruO (w : World) (g l n : Nat) (X : Nat → Nat → Bool) : Prop where
  box : Blk w g 65 (slcA g l n n)
  row : ∀ r, r < n → Blk w (g + 1 + r) 4 (boolA (X r) l)
theorem TruO.below {w w1 : World} {g l n : Nat} {X : Nat → Nat → Bool} (h : TruO w g l n X) (hb : Below w.heap.size w w1) : TruO w1 g l n X := ⟨h.box.below hb, fun r hr => (h.row r hr).below hb⟩
theorem TruO.congr {w : World} {g l n : Nat} {X X' : Nat → Nat → Bool} (h : TruO w g l n X) (e : ∀ r t, r < n → t < l → X r t = X' r t) : TruO w g l n X' := ⟨h.box, fun r hr => by
  have := h.row r hr
  rwa [boolA_congr (fun t ht => e r t hr ht)] at this⟩
theorem TruO.lt {w : World} {g l n : Nat} {X : Nat → Nat → Bool} (h : TruO w g l n X) : g < w.heap.size := h.box.lt
/-- One value is written. -/
theorem TruO.set {w : World} {g l n r t : Nat} {X : Nat → Nat → Bool} (h : TruO w g l n X) (hr : r < n) (ht : t < l) (b : Bool) : TruO (w.setCell ⟨g + 1 + r, t, none⟩ (.bool b)) g l n (fun r' t' => if r' = r ∧ t' = t then b else X r' t') := by
  refine ⟨h.box.set_ne (by omega) t _, fun r' hr' => ?_⟩
  by_cases e : r' = r
  · subst e
    have h1 := (h.row r' hr).set t (.bool b)
    rw [boolA_set (S' := fun t' => if r' = r' ∧ t' = t then b else X r' t') (b := b) ht (fun j _ => by
      by_cases e : j = t
      · rw [if_pos e, if_pos ⟨rfl, e⟩]
      · rw [if_neg e, if_neg (fun h => e h.2)])] at h1
    exact h1
  · have h1 := (h.row r' hr').set_ne (b' := g + 1 + r) (by omega) t (.bool b)
    rwa [boolA_congr (fun t' _ => show X r' t' = if r' = r ∧ t' = t then b else X r' t' by rw [if_neg (fun h => e h.1)])] at h1
/-- A table, read. -/
def TruR (w : World) (v : Value) (l n : Nat) (X : Nat → Nat → Bool) : Prop := ∃ g, v = .slice (some ⟨g, 0, none⟩) n n ∧ TruO w g l n X
theorem TruR.below {w w1 : World} {v : Value} {l n : Nat} {X : Nat → Nat → Bool} (h : TruR w v l n X) (hb : Below w.heap.size w w1) : TruR w1 v l n X := by
  obtain ⟨g, e, ho⟩ := h
  exact ⟨g, e, ho.below hb⟩
/-- The points of a state, in order. -/
def locI (L : Nat → Nat → Nat → Int) (pts : List (Nat × Nat)) (g : Nat) (x : Int) : List (Nat × Nat) := pts.filter fun p => L p.1 p.2 g == x
theorem locI_snoc (L : Nat → Nat → Nat → Int) (pts : List (Nat × Nat)) (p : Nat × Nat) (g : Nat) (x : Int) : locI L (pts ++ [p]) g x = if x = L p.1 p.2 g then locI L pts g (L p.1 p.2 g) ++ [p] else locI L pts g x := by
  unfold locI
  rw [List.filter_append]
  by_cases h : x = L p.1 p.2 g
  · subst h
    rw [if_pos rfl]
    simp
  · rw [if_neg h, List.filter_cons_of_neg (by simpa using fun e => h e.symm)]
    simp
/-- The check. -/
structure ChkR (w : World) (bc l n : Nat) (L : Nat → Nat → Nat → Int) (F : Nat → Nat → Nat) : Prop where
  c0 : w.cell? ⟨bc, 0, none⟩ = some (.int .i64 2)
  c2 : w.cell? ⟨bc, 2, none⟩ = some (.int .i64 l)
  c3 : ∃ g o c T m K, w.cell? ⟨bc, 3, none⟩ = some (.slice (some ⟨g, o, none⟩) n c) ∧ RunsR w (some ⟨g, o, none⟩) n T m L K F ∧ ∀ r t, r < n → t < l → t < T r ∧ t < K r ∧ 2 ≤ m r t
  c4 : ∃ gp cp, w.cell? ⟨bc, 4, none⟩ = some (.slice (some ⟨gp, 0, none⟩) (n * l) cp) ∧ PnO w 0 (.slice (some ⟨gp, 0, none⟩) (n * l) cp) (ptL n l)
  c5 : ∃ gs cs, w.cell? ⟨bc, 5, none⟩ = some (.slice (some ⟨gs, 0, none⟩) 2 cs) ∧ ∀ g, g < 2 → ∃ mb D nn, w.cell? ⟨gs, g, none⟩ = some (.map (some mb)) ∧ PtM w 0 mb nn D (locI L (ptL n l) g) ∧ nn ≤ 512
theorem ChkR.below {w w1 : World} {bc l n : Nat} {L : Nat → Nat → Nat → Int} {F : Nat → Nat → Nat} (h : ChkR w bc l n L F) (hb : Below w.heap.size w w1) : ChkR w1 bc l n L F := by
  obtain ⟨g, o, c, T, m, K, h3, hR, hx⟩ := h.c3
  obtain ⟨gp, cp, h4, hP⟩ := h.c4
  obtain ⟨gs, cs, h5, hM⟩ := h.c5
  refine ⟨cell_below hb h.c0, cell_below hb h.c2, ⟨g, o, c, T, m, K, cell_below hb h3, hR.below hb, hx⟩, ⟨gp, cp, cell_below hb h4, hP.below hb⟩, ⟨gs, cs, cell_below hb h5, fun g hg => ?_⟩⟩
  obtain ⟨mb, D, nn, h6, h7, h8⟩ := hM g hg
  exact ⟨mb, D, nn, cell_below hb h6, h7.below hb, h8⟩
/-- A point of the check. -/
theorem ChkR.pt {w : World} {bc l n : Nat} {L : Nat → Nat → Nat → Int} {F : Nat → Nat → Nat} (h : ChkR w bc l n L F) : ∃ gp cp, w.cell? ⟨bc, 4, none⟩ = some (.slice (some ⟨gp, 0, none⟩) (n * l) cp) ∧ ∀ k, k < n * l → ∃ r t, r < n ∧ t < l ∧ k = r * l + t ∧ w.cell? ⟨gp, k * 2, none⟩ = some (.int .i64 r) ∧ w.cell? ⟨gp, k * 2 + 1, none⟩ = some (.int .i64 t) := by
  obtain ⟨gp, cp, h4, hP⟩ := h.c4
  refine ⟨gp, cp, h4, fun k hk => ?_⟩
  have hl : 0 < l := by
    rcases Nat.eq_zero_or_pos l with e | e
    · rw [e, Nat.mul_zero] at hk; omega
    · exact e
  obtain ⟨b, cap, e, d0, d1⟩ := pnO_at hP (ptL_get hk)
  injection e with e
  injection e with e
  injection e with e
  subst e
  have hd := Nat.div_add_mod k l
  exact ⟨k / l, k % l, (Nat.div_lt_iff_lt_mul hl).2 hk, Nat.mod_lt _ hl, by rw [Nat.mul_comm]; omega, d0, d1⟩
/-- The state of an agent at a point. -/
theorem ChkR.loc {w : World} {bc l n : Nat} {L : Nat → Nat → Nat → Int} {F : Nat → Nat → Nat} (h : ChkR w bc l n L F) : ∃ g o c, w.cell? ⟨bc, 3, none⟩ = some (.slice (some ⟨g, o, none⟩) n c) ∧ ∀ r t, r < n → t < l → ∃ b1 o1 n1 c1, w.cell? ⟨g, o + r * 2, none⟩ = some (.slice (some ⟨b1, o1, none⟩) n1 c1) ∧ t < n1 ∧ ∀ a, a < 2 → ∃ b2 o2 n2 c2, w.cell? ⟨b1, o1 + t, none⟩ = some (.slice (some ⟨b2, o2, none⟩) n2 c2) ∧ a < n2 ∧ w.cell? ⟨b2, o2 + a, none⟩ = some (.int .i64 (L r t a)) ∧ okX (L r t a) := by
  obtain ⟨g, o, c, T, m, K, h3, hR, hx⟩ := h.c3
  refine ⟨g, o, c, h3, fun r t hr ht => ?_⟩
  obtain ⟨Ax, cx, Bx, dx, x0, x1, ⟨R, cc, hM⟩, -⟩ := runs_at hR hr
  obtain ⟨h1, h2, h4⟩ := hx r t hr ht
  obtain ⟨b1, o1, rfl, k2, -, hI⟩ := hM t h1
  refine ⟨b1, o1, T r, cx, x0, h1, fun a ha => ?_⟩
  obtain ⟨b2, o2, e2, k3, q1, q2⟩ := hI a (by omega)
  rw [e2] at k2
  exact ⟨b2, o2, m r t, cc t, k2, by omega, k3, ⟨q1, q2⟩⟩
/-- The facts at a point. -/
theorem ChkR.fac {w : World} {bc l n : Nat} {L : Nat → Nat → Nat → Int} {F : Nat → Nat → Nat} (h : ChkR w bc l n L F) : ∃ g o c, w.cell? ⟨bc, 3, none⟩ = some (.slice (some ⟨g, o, none⟩) n c) ∧ ∀ r t, r < n → t < l → ∃ b1 o1 n1 c1, w.cell? ⟨g, o + r * 2 + 1, none⟩ = some (.slice (some ⟨b1, o1, none⟩) n1 c1) ∧ t < n1 ∧ w.cell? ⟨b1, o1 + t, none⟩ = some (.int .u64 (F r t)) := by
  obtain ⟨g, o, c, T, m, K, h3, hR, hx⟩ := h.c3
  refine ⟨g, o, c, h3, fun r t hr ht => ?_⟩
  obtain ⟨Ax, cx, Bx, dx, x0, x1, -, hF⟩ := runs_at hR hr
  obtain ⟨h1, h2, h4⟩ := hx r t hr ht
  obtain ⟨b1, o1, rfl, k2, -⟩ := hF t h2
  exact ⟨b1, o1, K r, dx, x1, h2, k2⟩
end Go.Proofs.Ytahaimecchdfeaa

/-
  Walk: the points of a system (of the program).
-/
namespace Go.Proofs.Ytahaimecchdfeaa
open Go.RowKit

set_option maxHeartbeats 4000000 in
theorem tPoints_any (x : Value) (a f : Int) (l n : Nat) (T : Nat → Nat) (m : Nat → Nat → Nat) (L : Nat → Nat → Nat → Int) (K : Nat → Nat) (F : Nat → Nat → Nat) (w : World) (h : SysR w x a f l n T m L K F) (hn : n ≤ 65536) (hc : chkE a f l n T m K F = 0) :
    Calls Try.prog 103 #[x] w fun e w' => ∃ v, e = .returned v ∧ PnO w' w.heap.size v (ptL n l) ∧ Below w.heap.size w w' := by
  have HCK := Lib.hid (fun W (h : SysR W x a f l n T m L K F) => rCheckS_any x a f l n T m L K F W h hn)
  rw [hc] at HCK
  obtain ⟨-, -, hl, hn64, -, -, -, -⟩ := chkE_ok hc
  obtain ⟨A, c, rfl, hR⟩ := h
  have HB := Lib.hid (below_alloc w (.cells #[.int .i64 a, .int .i64 f, .int .i64 l, .slice A n c] 24))
  have hbk := Blk.new w #[.int .i64 a, .int .i64 f, .int .i64 l, .slice A n c] 24
  have HK := Lib.hid hbk
  have HC1 := Lib.hid (HCK.out _ ⟨A, c, rfl, hR.below HB.out⟩)
  have d0 := hbk.cell (k := 0) rfl
  have d1 := hbk.cell (k := 1) rfl
  have d2 := hbk.cell (k := 2) rfl
  have d3 := hbk.cell (k := 3) rfl
  have hl16 : l ≤ 16 := by omega
  clear hR hbk HCK hc hl
  go_enter Try.func103, Try.ntmps103
  go_upto_region 1 with (fail)
  obtain ⟨W, hW⟩ : ∃ W, W = w.alloc (.cells #[.int .i64 a, .int .i64 f, .int .i64 l, .slice A n c] 24) := ⟨_, rfl⟩
  rw [← hW] at HB HK HC1 d0 d1 d2 d3 ⊢
  clear hW
  obtain ⟨bs, ebs⟩ : ∃ b, b = w.heap.size := ⟨_, rfl⟩
  rw [← ebs] at HK d0 d1 d2 d3 ⊢
  have hbs : bs ≤ w.heap.size := Nat.le_of_eq ebs
  clear ebs
  go_upto_region 5 with (go_at_call 73; refine HC1.out.mono ?_; rintro e w1 ⟨rfl, hb1⟩; have HB := Lib.hid (below_trans HB.out hb1); have HK := Lib.hid (HK.out.below hb1); have d3 := cell_below hb1 d3; clear hb1)
  clear d0 d1 d2 HC1
  have hsz := HB.out.size
  have hnl : n * l ≤ 1024 := Nat.le_trans (Nat.mul_le_mul hn64 hl16) (by decide)
  clear d3
  go_loopw [3, 12] (fun lv iv wr => ∃ i : Nat, i ≤ n ∧ iv = .int .i64 i ∧ PnO wr w1.heap.size lv (ptU l i 0) ∧ Below w1.heap.size w1 wr) (fun _ iv _ => n - (intOf iv).toNat)
  case atStart => exact ⟨0, Nat.zero_le _, rfl, World.ownsRow_nil _ _ _ _, Below.refl _ _⟩
  case round =>
    obtain ⟨i, hi, rfl, ho, hb⟩ := hrel
    have HO := Lib.hid ho
    have HBW := Lib.hid hb
    have d2 := (HK.out.below hb).cell (k := 2) rfl
    by_cases hlt : i < n
    · have hin : (i : Int) < (n : Int) := by omega
      clear ho hb
      go_upto_region 8 with (fail)
      clear d2
      go_loopw [3, 17] (fun lv jv wr => ∃ j : Nat, j ≤ l ∧ jv = .int .i64 j ∧ PnO wr w1.heap.size lv (ptU l i j) ∧ Below w1.heap.size w1 wr) (fun _ jv _ => l - (intOf jv).toNat)
      case atStart => exact ⟨0, Nat.zero_le _, rfl, HO.out, HBW.out⟩
      case round =>
        clear HO HBW
        obtain ⟨j, hj, rfl, ho, hb⟩ := hrel
        have HBW := Lib.hid hb
        by_cases hjl : j < l
        · have hjn : (j : Int) < (l : Int) := by omega
          have HTK := Lib.hid (ptU_step l i j)
          obtain ⟨ys, eys⟩ : ∃ ys, ys = ptU l i j := ⟨_, rfl⟩
          have hyl : ys.length ≤ 2048 := by
            rw [eys, ptU_len]
            have : i * l ≤ n * l := Nat.mul_le_mul_right l hi
            omega
          rw [← eys] at ho HTK
          have HO2 := Lib.hid ho
          unfold PnO at HO2
          have hsz2 := hb.size
          clear ho hb eys
          go_wp2_with (at_builtin; obtain ⟨i0, hi, hz0, hz1, hz2⟩ := info_parts Try.infoPoint; refine wpList_append_own_at _ rfl _ _ 29 rfl w1.heap.size 26 i0 _ 2 16 Try.underlying29 hi hz0 hz1 hz2 rfl (by decide) _ _ _ rfl (own_alloc' HO2.out _) ⟨wr.heap.size, 0, none⟩ 1 1 [.int .i64 i, .int .i64 j] rfl rfl (World.news_of_block (cs := #[.int .i64 i, .int .i64 j]) (t := 26) (fr := (0, 0)) (heap_alloc_new wr _)) (by simp [Value.oneCell']) (by unfold maxLen; omega) (by omega) (by simp; omega) ?_; intro v' w3 hown' hgrow _ _; have HOW3 := Lib.hid hown'; have HB3 := Lib.hid (below_append HBW.out rfl HO2.out hgrow); clear hown' hgrow hi hz0 hz1 hz2)
          go_roundw
          case rel =>
            refine ⟨j + 1, by omega, by go_num, ?_, HB3.out⟩
            unfold PnO
            rw [HTK.out, crL_snoc, List.length_append]
            exact HOW3.out
          case measure => simp [intOf]; omega
        · obtain rfl : j = l := by omega
          have hjn : ¬ (j : Int) < (j : Int) := by omega
          have HO := Lib.hid (show PnO _ _ _ (ptU j (i + 1) 0) by rw [← ptU_row]; exact ho)
          clear ho hb
          go_wp2_with fail
          go_roundw
          case rel => exact ⟨i + 1, by omega, by go_num, HO.out, HBW.out⟩
          case measure => simp [intOf]; omega
    · obtain rfl : i = n := by omega
      have hii : ¬ (i : Int) < (i : Int) := by omega
      rw [ptU_end] at HO
      clear ho hb
      go_wp2_with fail
      go_ret
      exact ⟨_, rfl, own_mono' HO.out hsz, HB.out.trans (HBW.out.mono hsz)⟩
end Go.Proofs.Ytahaimecchdfeaa

/-
  Walk: newCheck.
-/
namespace Go.Proofs.Ytahaimecchdfeaa
open Go.RowKit

theorem Try.infoPtMap : (Try.prog.info? 149).map (fun i => (i.zero, i.size, i.bytes)) = some (some (.map none), 1, 8) := by kernel_rfl
/-- The check, while the maps of its agents are made. -/
structure NcI (w W : World) (bc l n : Nat) (L : Nat → Nat → Nat → Int) (A : Option Addr) (c : Nat) (vP sv : Value) (g : Nat) : Prop where
  low : Below w.heap.size w W
  hb : w.heap.size ≤ bc
  box : Blk W bc 148 #[.int .i64 2, .int .i64 1, .int .i64 l, .slice A n c, vP, sv]
  pts : PnO W w.heap.size vP (ptL n l)
  same : ∃ rows, W.ownsRow w.heap.size 149 1 sv g rows ∧ ∀ a, a < g → ∃ mb D nn, rows[a]? = some (.map (some mb)) ∧ PtM W w.heap.size mb nn D (locI L (ptL n l) a) ∧ nn ≤ 512
theorem NcI.below {w W W1 : World} {bc l n : Nat} {L : Nat → Nat → Nat → Int} {A : Option Addr} {c : Nat} {vP sv : Value} {g : Nat} (h : NcI w W bc l n L A c vP sv g) (hb : Below W.heap.size W W1) : NcI w W1 bc l n L A c vP sv g := by
  obtain ⟨rows, ho, hr⟩ := h.same
  exact ⟨below_trans h.low hb, h.hb, h.box.below hb, h.pts.below hb, rows, own_keeps ho (Keeps.of_below hb _), fun a ha => by
    obtain ⟨mb, D, nn, e, hp, hn⟩ := hr a ha
    exact ⟨mb, D, nn, e, hp.below hb, hn⟩⟩
theorem PtM.grown {W W' : World} {base b k B e sz q : Nat} {D : DataW Value} {I : Int → List (Nat × Nat)} {v : Value} {xs : List Value} (h : PtM W base b k D I) (hr : W.ownsRow B e sz v q xs) (he : 26 ≠ e) (hg : W.grownBy W' v.ownBlock) : PtM W' base b k D I :=
  h.keeps (Keeps.of_grown hg hr he) (h.own.kept hg (fun e => h.ne_own hr e.symm))
theorem PtM.set {W : World} {base b k bc T : Nat} {D : DataW Value} {I : Int → List (Nat × Nat)} {xs : Array Value} (h : PtM W base b k D I) (hb : Blk W bc T xs) (hT : 26 ≠ T) (j : Nat) (u : Value) : PtM (W.setCell ⟨bc, j, none⟩ u) base b k D I :=
  h.keeps (Keeps.of_set hb hT j u) (h.own.kept (gr_set W bc j u) (fun e => by
    have := Option.some.inj e
    subst this
    exact h.no_cells _ _ _ hb))
theorem NcI.push {w W w3 : World} {bc l n : Nat} {L : Nat → Nat → Nat → Int} {A : Option Addr} {c : Nat} {vP sv sv' : Value} {g mb nn : Nat} {D : DataW Value} {rows : List Value} {o : Obj} (h : NcI w W bc l n L A c vP sv g)
    (ho : W.ownsRow w.heap.size 149 1 sv g rows) (hr : ∀ a, a < g → ∃ mb D nn, rows[a]? = some (.map (some mb)) ∧ PtM W w.heap.size mb nn D (locI L (ptL n l) a) ∧ nn ≤ 512)
    (hp : PtM W w.heap.size mb nn D (locI L (ptL n l) g)) (hn : nn ≤ 512) (hown : w3.ownsRow w.heap.size 149 1 sv' (g + 1) (rows ++ [.map (some mb)])) (hg : (W.alloc o).grownBy w3 sv.ownBlock) :
    Blk w3 bc 148 #[.int .i64 2, .int .i64 1, .int .i64 l, .slice A n c, vP, sv] ∧ NcI w (w3.setCell ⟨bc, 5, none⟩ sv') bc l n L A c vP sv' (g + 1) ∧ Keeps W (w3.setCell ⟨bc, 5, none⟩ sv') 24 := by
  have hba := below_alloc W o
  have ho1 := own_alloc' ho o
  have hb3 : Blk w3 bc 148 #[.int .i64 2, .int .i64 1, .int .i64 l, .slice A n c, vP, sv] := (h.box.below hba).kept hg ((h.box.below hba).ne_row' ho1 (by decide))
  have hk3 : ∀ {T : TypeId}, T ≠ 149 → T ≠ 148 → Keeps W (w3.setCell ⟨bc, 5, none⟩ sv') T := fun h1 h2 => ((Keeps.of_below hba _).trans (Keeps.of_grown hg ho1 h1)).trans (Keeps.of_set hb3 h2 5 sv')
  have hlen := ho.1
  refine ⟨hb3, ⟨below_append h.low rfl ho hg |>.setCell (p := ⟨bc, 5, none⟩) h.hb sv', h.hb, hb3.set 5 sv', own_keeps h.pts (hk3 (by decide) (by decide)), rows ++ [.map (some mb)], own_keeps hown (Keeps.of_set hb3 (by decide) 5 sv'), fun a ha => ?_⟩, hk3 (by decide) (by decide)⟩
  by_cases e : a < g
  · obtain ⟨mb', D', nn', e1, hp', hn'⟩ := hr a e
    exact ⟨mb', D', nn', by rw [List.getElem?_append_left (by omega)]; exact e1, ((hp'.below hba).grown ho1 (by decide) hg).set hb3 (by decide) 5 sv', hn'⟩
  · obtain rfl : a = g := by omega
    refine ⟨mb, D, nn, ?_, ((hp.below hba).grown ho1 (by decide) hg).set hb3 (by decide) 5 sv', hn⟩
    rw [List.getElem?_append_right (by omega), show a - rows.length = 0 by omega]
    rfl
set_option maxHeartbeats 8000000 in
set_option maxRecDepth 100000 in
theorem newCheck_any (x : Value) (l n : Nat) (T : Nat → Nat) (m : Nat → Nat → Nat) (L : Nat → Nat → Nat → Int) (K : Nat → Nat) (F : Nat → Nat → Nat) (w : World) (h : SysR w x 2 1 l n T m L K F) (hc : chkE 2 1 l n T m K F = 0) :
    Calls Try.prog 77 #[x] w fun e w' => ∃ bc, e = .returned (.pointer (some ⟨bc, 0, none⟩)) ∧ ChkR w' bc l n L F ∧ Below w.heap.size w w' := by
  obtain ⟨-, -, hl, hn64, hnl, hn0, hfr, -⟩ := chkE_ok hc
  have hS := h
  obtain ⟨A, c, rfl, hR⟩ := h
  obtain ⟨g4, o4, rfl⟩ : ∃ g o, A = some ⟨g, o, none⟩ := by
    obtain ⟨g, o, _, _, e, -⟩ := hR 0 (by omega)
    exact ⟨g, o, e⟩
  have HPT := Lib.hid (fun X (hX : Below w.heap.size w X) => tPoints_any _ 2 1 l n T m L K F X (let ⟨A, c, e, hr⟩ := hS; ⟨A, c, e, hr.below hX⟩) (by omega) hc)
  have HB0 := Lib.hid (below_alloc w (.cells #[.int .i64 2, .int .i64 1, .int .i64 l, .slice (some ⟨g4, o4, none⟩) n c] 24))
  have hbk := Blk.new w #[.int .i64 2, .int .i64 1, .int .i64 l, .slice (some ⟨g4, o4, none⟩) n c] 24
  obtain ⟨W, hW⟩ : ∃ W, W = w.alloc (.cells #[.int .i64 2, .int .i64 1, .int .i64 l, .slice (some ⟨g4, o4, none⟩) n c] 24) := ⟨_, rfl⟩
  rw [← hW] at HB0 hbk
  have d0 := hbk.cell (k := 0) rfl
  have d1 := hbk.cell (k := 1) rfl
  have d2 := hbk.cell (k := 2) rfl
  have d3 := hbk.cell (k := 3) rfl
  have HK := Lib.hid hbk
  have HR := Lib.hid hR
  have HFR := Lib.hid hfr
  have HW := Lib.hid hW.symm
  have hNl : n * l ≤ 512 := by exact_mod_cast hnl
  obtain ⟨N, eN⟩ : ∃ N, N = n * l := ⟨_, rfl⟩
  have EN := Lib.hid eN
  rw [← eN] at hNl
  clear hbk hR hfr hW hS hc eN hnl
  go_enter Try.func77, Try.ntmps77
  go_upto_region 1 with (fail)
  rw [HW.out]
  obtain ⟨bs, ebs⟩ : ∃ b, b = w.heap.size := ⟨_, rfl⟩
  rw [← ebs] at d0 d1 d2 d3 HK ⊢
  clear HW ebs
  have hb0 := Below.refl W.heap.size W
  have HSOF := Lib.hid (fun (z : World) (h : Below W.heap.size W z) => (⟨h, cell_below h d0, cell_below h d1, cell_below h d2, cell_below h d3⟩ : Below W.heap.size W z ∧ z.cell? ⟨bs, 0, none⟩ = some (.int .i64 2) ∧ z.cell? ⟨bs, 1, none⟩ = some (.int .i64 1) ∧ z.cell? ⟨bs, 2, none⟩ = some (.int .i64 l) ∧ z.cell? ⟨bs, 3, none⟩ = some (.slice (some ⟨g4, o4, none⟩) n c)))
  clear d0 d1 d2 d3
  go_region_held3 (fun z => Below W.heap.size W z ∧ z.cell? ⟨bs, 0, none⟩ = some (.int .i64 2) ∧ z.cell? ⟨bs, 1, none⟩ = some (.int .i64 1) ∧ z.cell? ⟨bs, 2, none⟩ = some (.int .i64 l) ∧ z.cell? ⟨bs, 3, none⟩ = some (.slice (some ⟨g4, o4, none⟩) n c)) (first | exact HSOF.out _ (by assumption) | exact HSOF.out _ (below_drew hb0) | exact HSOF.out _ (below_trans (And.left (by assumption)) (by assumption)) | exact HSOF.out _ (below_trans (And.left (by assumption)) (below_alloc _ _)))
    (first
      | (go_at_call 103; have hzz := And.left (by assumption : Below W.heap.size W _ ∧ _); refine (HPT.out _ (below_trans HB0.out hzz)).mono ?_; rintro e w7 ⟨vP, rfl, hpo, hb1⟩; obtain ⟨Ap, cp, ep⟩ := hpo.shape; rw [ptL_len, ← EN.out] at ep; subst ep; have HPP := Lib.hid (show PnO w7 w.heap.size (.slice Ap N cp) (ptL n l) from own_mono' hpo (Nat.le_trans HB0.out.size hzz.size)); have HB7 := below_trans hzz hb1; clear hb1 hpo hzz)
      | fail)
  rename_i hz
  clear hz
  have hI0 : NcI w (w7.alloc (.cells #[.int .i64 2, .int .i64 1, .int .i64 l, .slice (some ⟨g4, o4, none⟩) n c, .slice Ap N cp, .slice none 0 0] 148)) w7.heap.size l n L (some ⟨g4, o4, none⟩) c (.slice Ap N cp) (.slice none 0 0) 0 :=
    ⟨below_trans (below_trans HB0.out HB7) (below_alloc _ _), Nat.le_trans HB0.out.size HB7.size, Blk.new w7 _ _, HPP.out.below (below_alloc _ _), [], World.ownsRow_nil _ _ _ _, fun a ha => absurd ha (Nat.not_lt_zero a)⟩
  have HBB := Lib.hid (below_trans HB7 (below_alloc w7 (.cells #[.int .i64 2, .int .i64 1, .int .i64 l, .slice (some ⟨g4, o4, none⟩) n c, .slice Ap N cp, .slice none 0 0] 148)))
  generalize w7.alloc (.cells #[.int .i64 2, .int .i64 1, .int .i64 l, .slice (some ⟨g4, o4, none⟩) n c, .slice Ap N cp, .slice none 0 0] 148) = V at hI0 HBB ⊢
  obtain ⟨bc, ebc⟩ : ∃ b, b = w7.heap.size := ⟨_, rfl⟩
  rw [← ebc] at hI0 ⊢
  have HI0 := Lib.hid hI0
  have q0 := (HK.out.below HBB.out).cell (k := 0) rfl
  have HKV := Lib.hid (HK.out.below HBB.out)
  have hmm := @run_makeMap Try.prog
  clear hI0 ebc HB7 HPP hb0 HSOF HPT HK HB0 HBB
  go_upto_region 3 with (fail)
  clear q0
  go_loopw [16] (fun gv wr => ∃ g : Nat, g ≤ 2 ∧ gv = .int .i64 g ∧ Blk wr bs 24 #[.int .i64 2, .int .i64 1, .int .i64 l, .slice (some ⟨g4, o4, none⟩) n c] ∧ ∃ sv, NcI w wr bc l n L (some ⟨g4, o4, none⟩) c (.slice Ap N cp) sv g) (fun gv _ => 2 - (intOf gv).toNat)
  case atStart => exact ⟨0, by decide, rfl, HKV.out, _, HI0.out⟩
  case round =>
    clear HI0 HKV
    obtain ⟨g, hg, rfl, hkb, sv, hs⟩ := hrel
    have HS := Lib.hid hs
    have HKB := Lib.hid hkb
    by_cases hlt : g < 2
    · have hgg : (g : Int) < 2 := by omega
      obtain ⟨wm, ewm⟩ : ∃ wm, wm = wr.alloc (.map #[] 0) := ⟨_, rfl⟩
      have hbm := below_alloc wr (.map #[] 0)
      have hpm := PtM.made wr wr.heap.size
      rw [← ewm] at hbm hpm
      have hsm : wm.heap.size = wr.heap.size + 1 := by rw [ewm]; simp
      have b4 := (hs.box.below hbm).cell (k := 4) rfl
      have HPM := Lib.hid hpm
      have HBM := Lib.hid hbm
      have HSM := Lib.hid hsm
      have EWM := Lib.hid ewm.symm
      obtain ⟨wo, ewo⟩ : ∃ wo, wo = wr := ⟨_, rfl⟩
      clear hs hkb hbm hpm hsm ewm
      go_upto_region 6 with (fail)
      rw [EWM.out]
      rw [← ewo] at HPM HBM HSM HS HKB ⊢
      obtain ⟨mb, emb⟩ : ∃ b, b = wo.heap.size := ⟨_, rfl⟩
      rw [← emb] at HPM HBM HSM ⊢
      have EMB := Lib.hid emb
      clear EWM ewo emb
      go_upto_region 7 with (fail)
      clear b4
      go_loopw [25] (fun kv wr => ∃ k : Nat, k ≤ N ∧ kv = .int .i64 k ∧ Below mb wo wr ∧ mb < wr.heap.size ∧ ∃ D, PtM wr mb mb k D (locI L ((ptL n l).take k) g)) (fun kv _ => N - (intOf kv).toNat)
      case atStart => exact ⟨0, Nat.zero_le _, by first | rfl | simp, HBM.out, by rw [HSM.out]; omega, _, HPM.out⟩
      case round =>
        clear HPM HBM HSM
        obtain ⟨k, hk, rfl, hbw, hmw, D, hpm⟩ := hrel
        have hbw2 : Below wo.heap.size wo wr := by rw [← EMB.out]; exact hbw
        have HS2 := Lib.hid (HS.out.below hbw2)
        have HKB2 := Lib.hid (HKB.out.below hbw2)
        have HBW := Lib.hid hbw
        have HPM := Lib.hid hpm
        by_cases hkl : k < N
        · have hkk : (k : Int) < (N : Int) := by omega
          have hl0 : 0 < l := by omega
          have hkn : k < n * l := by rw [← EN.out]; exact hkl
          have hpk := ptL_get (n := n) (l := l) hkn
          have hrn : k / l < n := (Nat.div_lt_iff_lt_mul hl0).2 hkn
          have htl : k % l < l := Nat.mod_lt _ hl0
          generalize k / l = r at hpk hrn
          generalize k % l = t at hpk htl
          obtain ⟨gp, cap, ev, p0, p1⟩ := pnO_at HS2.out.pts hpk
          injection ev with eA en ec
          subst eA ec
          have HTK := Lib.hid (show (ptL n l).take (k + 1) = (ptL n l).take k ++ [(r, t)] by rw [List.take_add_one, hpk]; rfl)
          have hrw := HR.out.below HS2.out.low
          obtain ⟨Ax, cx, Bx, dx, x0, -, ⟨RR, cc, hM⟩, -⟩ := runs_at hrw hrn
          obtain ⟨hf1, -, hf2⟩ := HFR.out r hrn
          have hf3 := hf2 t (by omega)
          obtain ⟨b1, o1, rfl, k2, -, hI⟩ := hM t (by omega)
          obtain ⟨b2, o2, e2, k3, q1, q2⟩ := hI g (by omega)
          rw [e2] at k2
          have HOK := Lib.hid (show okX (L r t g) from ⟨q1, q2⟩)
          have s3 := HKB2.out.cell (k := 3) rfl
          obtain ⟨y, ey⟩ : ∃ y, y = L r t g := ⟨_, rfl⟩
          have HY := Lib.hid ey
          obtain ⟨nT, enT⟩ : ∃ q, q = T r := ⟨_, rfl⟩
          obtain ⟨nM, enM⟩ : ∃ q, q = m r t := ⟨_, rfl⟩
          rw [← ey] at k3 HOK
          rw [← enT] at x0 hf1
          rw [← enM] at k2 hf3
          have ht1 : (t : Int) < (nT : Int) := by omega
          have hg1 : (g : Int) < (nM : Int) := by omega
          have hr1 : (r : Int) < (n : Int) := by omega
          clear hf2 hM hI e2 q1 q2 hrw hpk hbw2 hpm ey enT enM hbw en
          go_upto_region 9 with (fail)
          have hba := below_alloc wr (.cells #[.int .i64 r, .int .i64 t] 26)
          have hpb := Blk.new wr #[.int .i64 r, .int .i64 t] 26
          obtain ⟨pb, epb⟩ : ∃ b, b = wr.heap.size := ⟨_, rfl⟩
          obtain ⟨V2, eV2⟩ : ∃ V2, V2 = wr.alloc (.cells #[.int .i64 r, .int .i64 t] 26) := ⟨_, rfl⟩
          rw [← eV2] at hba hpb ⊢
          rw [← epb] at hpb ⊢
          have s3 := cell_below hba s3
          have x0 := cell_below hba x0
          have k2 := cell_below hba k2
          have k3 := cell_below hba k3
          have p0 := hpb.cell (k := 0) rfl
          have p1 := hpb.cell (k := 1) rfl
          have HPB := Lib.hid hpb
          have HS3 := Lib.hid (HS2.out.below hba)
          have HKB3 := Lib.hid (HKB2.out.below hba)
          have HBW3 := Lib.hid (HBW.out.trans (hba.mono (by omega)))
          have HPM3 := Lib.hid (HPM.out.below hba)
          have hm3 : mb < V2.heap.size := Nat.lt_of_lt_of_le hmw hba.size
          clear hba hpb eV2 epb HS2 HKB2 HBW HPM hmw
          go_quiet (fail)
          have hb4 : Below V2.heap.size V2 (V2.drewN nq) := below_drewN (Below.refl _ _) nq
          generalize V2.drewN nq = V4 at hb4 ⊢
          have p0 := (HPB.out.below hb4).cell (k := 0) rfl
          have p1 := (HPB.out.below hb4).cell (k := 1) rfl
          have hpm4 := HPM3.out.below hb4
          obtain ⟨v0, hrun, hp0, hv0⟩ := hpm4.look (x := y) HOK.out
          have hil : (locI L ((ptL n l).take k) g y).length ≤ 512 := by
            unfold locI
            refine Nat.le_trans (List.length_filter_le _ _) ?_
            rw [List.length_take]
            omega
          have HLS := Lib.hid (fun x' => locI_snoc L ((ptL n l).take k) (r, t) g x')
          have hbw4 := HBW3.out.trans (hb4.mono (by omega))
          have hm4 : mb < V4.heap.size := Nat.lt_of_lt_of_le hm3 hb4.size
          obtain ⟨I, eI⟩ : ∃ I, I = locI L ((ptL n l).take k) g := ⟨_, rfl⟩
          rw [← eI] at hp0 hpm4 hil HLS
          obtain ⟨A0, c0', rfl⟩ := hp0.shape
          have HP0 := Lib.hid (show V4.ownsRow mb 26 2 (.slice A0 (I y).length c0') (I y).length (crL (I y)) from hp0)
          have HV0 := Lib.hid hv0
          have HPM4 := Lib.hid hpm4
          have HBW4 := Lib.hid hbw4
          clear hb4 hp0 hv0 hpm4 hbw4 eI HPB HS3 HKB3 HBW3 HPM3 hm3 s3 x0 k2 k3
          go_wp2_with (at_builtin; obtain ⟨i0, hi, hz0, hz1, hz2⟩ := info_parts Try.infoPoint; refine wpList_append_own_at _ rfl _ _ 29 rfl mb 26 i0 _ 2 16 Try.underlying29 hi hz0 hz1 hz2 rfl (by decide) _ _ _ rfl (own_alloc' HP0.out _) ⟨V4.heap.size, 0, none⟩ 1 1 [.int .i64 r, .int .i64 t] rfl rfl (World.news_of_block (cs := #[.int .i64 r, .int .i64 t]) (t := 26) (fr := (0, 0)) (heap_alloc_new V4 _)) (by simp [Value.oneCell']) (by unfold maxLen; omega) (by omega) (by simp; omega) ?_; intro v' w3 hown' hgrow _ hloc; obtain ⟨w5, D5, hr5, hp5, hg5⟩ := HPM4.out.push (p := (r, t)) HOK.out (by omega) HP0.out HV0.out hown' hgrow hloc; have hb5 := ((HBW4.out.trans ((below_alloc V4 (.cells #[.int .i64 r, .int .i64 t] 26)).mono (Nat.le_of_lt hm4))).grown hgrow (by simp; omega) (fun q hq => (HP0.out.lt q hq).1)); have hs5 := hb5.size; have HP5 := Lib.hid hp5; have HB5 := Lib.hid (hb5.grown hg5 (Nat.le_trans (Nat.le_of_lt hm4) (Nat.le_trans (below_alloc V4 (.cells #[.int .i64 r, .int .i64 t] 26)).size hgrow.size)) (fun q hq => by have := Option.some.inj hq; omega)); have HM5 := Lib.hid (Nat.lt_of_lt_of_le hm4 (Nat.le_trans (below_alloc V4 (.cells #[.int .i64 r, .int .i64 t] 26)).size (Nat.le_trans hgrow.size hg5.size))); clear hown' hgrow hloc hi hz0 hz1 hz2 hp5 hg5 hb5 hs5)
          go_roundw
          case rel =>
            refine ⟨k + 1, by omega, by go_num, HB5.out, HM5.out, _, HP5.out.congr fun x' => ?_⟩
            rw [HTK.out, HLS.out x', HY.out]
          case measure => simp [intOf]; omega
        · obtain rfl : k = N := by omega
          have hkk : ¬ (k : Int) < (k : Int) := by omega
          have HPX := Lib.hid (show PtM wr w.heap.size mb k D (locI L (ptL n l) g) by
            have := hpm.mono (base' := w.heap.size) (by rw [EMB.out]; exact HS.out.low.size)
            rw [List.take_of_length_le (by rw [ptL_len, ← EN.out]; exact Nat.le_refl _)] at this
            exact this)
          obtain ⟨rows, ho, hrr⟩ := HS2.out.same
          have HOR := Lib.hid ho
          have HRR := Lib.hid hrr
          have q5 := HS2.out.box.cell (k := 5) rfl
          obtain ⟨As, cs, rfl⟩ : ∃ As cs, sv = .slice As g cs := by
            obtain ⟨As, cs, e, -⟩ := own_form' ho
            exact ⟨As, cs, e⟩
          have hsz := HS2.out.low.size
          clear hpm hbw hbw2 ho hrr
          go_wp2_with (at_builtin; obtain ⟨i0, hi, hz0, hz1, hz2⟩ := info_parts Try.infoPtMap; refine wpList_append_own_at _ rfl _ _ 146 rfl w.heap.size 149 i0 _ 1 8 Try.underlying146 hi hz0 hz1 hz2 rfl (by decide) _ _ _ rfl (own_alloc' HOR.out _) ⟨wr.heap.size, 0, none⟩ 1 1 [.map (some mb)] rfl rfl (World.news_of_block (cs := #[.map (some mb)]) (t := 149) (fr := (0, 0)) (heap_alloc_new wr _)) (by simp [Value.oneCell']) (by unfold maxLen; omega) (by omega) (by simp; omega) ?_; intro v' w3 hown' hgrow _ _; obtain ⟨A2, c2, rfl, -⟩ := own_form' hown'; obtain ⟨hb3, hn3, hk3⟩ := HS2.out.push HOR.out HRR.out HPX.out (by omega) hown' hgrow; have z5 := hb3.cell (k := 5) rfl; have f5 := hb3.frozen (k := 5); have HN3 := Lib.hid hn3; have HKW := Lib.hid (hk3 _ _ HKB2.out); clear hown' hgrow hi hz0 hz1 hz2 hb3 hn3 hk3)
          go_roundw
          case rel => exact ⟨g + 1, by omega, by go_num, HKW.out, _, HN3.out⟩
          case measure => simp [intOf]; omega
    · obtain rfl : g = 2 := by omega
      obtain ⟨rows, ho, hrr⟩ := hs.same
      have hpo := hs.pts
      have hRX := HR.out.below hs.low
      have hck : ChkR wr bc l n L F := by
        have hn0' : 0 < n * l := Nat.mul_pos (by omega) (by omega)
        obtain ⟨b, cap, ev, -, -⟩ := pnO_at hpo (ptL_get hn0')
        injection ev with eA en ec
        subst eA ec
        obtain ⟨As, cs, rfl, hA⟩ := own_form' ho
        obtain ⟨gs, rfl, -, -, -⟩ := hA 0 (by decide)
        refine ⟨hs.box.cell (k := 0) rfl, hs.box.cell (k := 2) rfl, ⟨g4, o4, c, T, m, K, hs.box.cell (k := 3) rfl, hRX, fun r t hr ht => ?_⟩, ⟨b, cp, ?_, ?_⟩, ⟨gs, cs, hs.box.cell (k := 5) rfl, fun a ha => ?_⟩⟩
        · obtain ⟨h1, h2, h3⟩ := HFR.out r hr
          have := h3 t (by omega)
          omega
        · rw [← EN.out]; exact hs.box.cell (k := 4) rfl
        · rw [← EN.out]; exact own_mono' hpo (Nat.zero_le _)
        · obtain ⟨mb, D, nn, e1, hp, hn⟩ := hrr a ha
          obtain ⟨g', eg, -, -, h1⟩ := hA a (by omega)
          injection eg with eg
          injection eg with eg
          subst eg
          exact ⟨mb, D, nn, h1.trans e1, hp.mono (Nat.zero_le _), hn⟩
      have HCK := Lib.hid hck
      have hgg : ¬ ((2 : Nat) : Int) < 2 := by omega
      clear hs hkb ho hrr hpo hRX hck
      go_wp2_with fail
      go_ret
      exact ⟨bc, rfl, HCK.out, HS.out.low⟩
end Go.Proofs.Ytahaimecchdfeaa

/-
  Walks: the closures that fill is handed.
-/
namespace Go.Proofs.Ytahaimecchdfeaa
open Go.RowKit

theorem every1 (r t : Nat) (w : World) : Calls Try.prog 136 #[.agg #[.int .i64 r, .int .i64 t]] w fun e w' => e = .returned (.bool true) ∧ Below w.heap.size w w' := by
  have HB := Lib.hid (below_alloc w (.cells #[.int .i64 r, .int .i64 t] 26))
  go_enter Try.func136, Try.ntmps136
  go_wp2_with fail
  go_ret
  exact ⟨rfl, HB.out⟩
theorem common1 (r t : Nat) (w : World) : Calls Try.prog 138 #[.agg #[.int .i64 r, .int .i64 t]] w fun e w' => e = .returned (.bool true) ∧ Below w.heap.size w w' := by
  have HB := Lib.hid (below_alloc w (.cells #[.int .i64 r, .int .i64 t] 26))
  go_enter Try.func138, Try.ntmps138
  go_wp2_with fail
  go_ret
  exact ⟨rfl, HB.out⟩
set_option maxHeartbeats 8000000 in
set_option maxRecDepth 100000 in
theorem know1 (r t g b1 b2 b3 mk nn bc l n : Nat) (L : Nat → Nat → Nat → Int) (F : Nat → Nat → Nat) (m : Int → Option Bool) (b : Bool) (w : World) (hr : r < n) (ht : t < l) (hg : g < 2) (hC : ChkR w bc l n L F)
    (h1 : w.cell? ⟨b1, 0, none⟩ = some (.map (some mk))) (h2 : w.cell? ⟨b2, 0, none⟩ = some (.pointer (some ⟨bc, 0, none⟩))) (h3 : w.cell? ⟨b3, 0, none⟩ = some (.int .i64 g)) (hm : BooM w mk nn m) (hb : m (L r t g) = some b) :
    Calls Try.prog 135 #[.agg #[.int .i64 r, .int .i64 t], .pointer (some ⟨b1, 0, none⟩), .pointer (some ⟨b2, 0, none⟩), .pointer (some ⟨b3, 0, none⟩)] w fun e w' => e = .returned (.bool b) ∧ Below w.heap.size w w' := by
  have hba := below_alloc w (.cells #[.int .i64 r, .int .i64 t] 26)
  have hpb := Blk.new w #[.int .i64 r, .int .i64 t] 26
  replace h1 := cell_below hba h1
  replace h2 := cell_below hba h2
  replace h3 := cell_below hba h3
  replace hm := hm.below hba
  obtain ⟨gR, oR, cR, c3, hL⟩ := (hC.below hba).loc
  obtain ⟨k1, o1, n1, d1, x1, ht1, hL2⟩ := hL r t hr ht
  obtain ⟨k2, o2, n2, d2, x2, hg2, x3, hok⟩ := hL2 g hg
  obtain ⟨y, ey⟩ : ∃ y, y = L r t g := ⟨_, rfl⟩
  rw [← ey] at x3 hok hb
  have hr1 : (r : Int) < (n : Int) := by omega
  have ht1' : (t : Int) < (n1 : Int) := by omega
  have hg1 : (g : Int) < (n2 : Int) := by omega
  have HBA := Lib.hid hba
  obtain ⟨W, eW⟩ : ∃ W, W = w.alloc (.cells #[.int .i64 r, .int .i64 t] 26) := ⟨_, rfl⟩
  rw [← eW] at hpb h1 h2 h3 hm c3 x1 x2 x3 HBA
  have HW := Lib.hid eW.symm
  have hlk : ∀ q, (Instr.lookup 164 (.map (some mk)) (.int .i64 y) false).run Try.prog (W.drewN q) = .ok (.bool b) (W.drewN q) := fun q => (hm.below (below_drewN (Below.refl _ _) q)).look hok hb
  have p0 := hpb.cell (k := 0) rfl
  have p1 := hpb.cell (k := 1) rfl
  clear hC hm hb hL hL2 hba hpb eW ey hok
  go_enter Try.func135, Try.ntmps135
  go_upto_region 1 with (fail)
  rw [HW.out]
  obtain ⟨pb, epb⟩ : ∃ b, b = w.heap.size := ⟨_, rfl⟩
  rw [← epb] at p0 p1 ⊢
  clear epb HW
  go_quiet (fail)
  have hbq : Below w.heap.size w (W.drewN nq) := below_drewN HBA.out nq
  go_wp2_with fail
  go_ret
  exact ⟨rfl, hbq⟩
/-- The cells of a value in a table. -/
theorem TruR.at {w : World} {v : Value} {l n r t : Nat} {X : Nat → Nat → Bool} (h : TruR w v l n X) (hr : r < n) (ht : t < l) : ∃ g, v = .slice (some ⟨g, 0, none⟩) n n ∧ w.cell? ⟨g, r, none⟩ = some (.slice (some ⟨g + 1 + r, 0, none⟩) l l) ∧ w.cell? ⟨g + 1 + r, t, none⟩ = some (.bool (X r t)) := by
  obtain ⟨g, e, h1⟩ := h
  exact ⟨g, e, h1.box.cell (slcA_get hr hr), (h1.row r hr).cell (boolA_get ht)⟩
set_option maxHeartbeats 8000000 in
set_option maxRecDepth 100000 in
theorem common2 (r t b1 b2 b3 l n : Nat) (X Y Z : Nat → Nat → Bool) (xv yv zv : Value) (w : World) (hr : r < n) (ht : t < l)
    (h1 : w.cell? ⟨b1, 0, none⟩ = some xv) (h2 : w.cell? ⟨b2, 0, none⟩ = some yv) (h3 : w.cell? ⟨b3, 0, none⟩ = some zv) (hX : TruR w xv l n X) (hY : TruR w yv l n Y) (hZ : TruR w zv l n Z) :
    Calls Try.prog 139 #[.agg #[.int .i64 r, .int .i64 t], .pointer (some ⟨b1, 0, none⟩), .pointer (some ⟨b2, 0, none⟩), .pointer (some ⟨b3, 0, none⟩)] w fun e w' => e = .returned (.bool (!X r t || (Y r t && Z r t))) ∧ Below w.heap.size w w' := by
  have hba := below_alloc w (.cells #[.int .i64 r, .int .i64 t] 26)
  have hpb := Blk.new w #[.int .i64 r, .int .i64 t] 26
  replace h1 := cell_below hba h1
  replace h2 := cell_below hba h2
  replace h3 := cell_below hba h3
  obtain ⟨gx, rfl, x1, x2⟩ := (hX.below hba).at hr ht
  obtain ⟨gy, rfl, y1, y2⟩ := (hY.below hba).at hr ht
  obtain ⟨gz, rfl, z1, z2⟩ := (hZ.below hba).at hr ht
  have hr1 : (r : Int) < (n : Int) := by omega
  have ht1 : (t : Int) < (l : Int) := by omega
  have HBA := Lib.hid hba
  obtain ⟨W, eW⟩ : ∃ W, W = w.alloc (.cells #[.int .i64 r, .int .i64 t] 26) := ⟨_, rfl⟩
  rw [← eW] at hpb h1 h2 h3 x1 x2 y1 y2 z1 z2 HBA
  have HW := Lib.hid eW.symm
  have p0 := hpb.cell (k := 0) rfl
  have p1 := hpb.cell (k := 1) rfl
  generalize X r t = bx at x2 ⊢
  generalize Y r t = by_ at y2 ⊢
  generalize Z r t = bz at z2 ⊢
  clear hX hY hZ hba hpb eW
  cases bx with
  | false =>
    go_enter Try.func139, Try.ntmps139
    go_upto_region 1 with (fail)
    rw [HW.out]
    go_quiet (fail)
    have hbq : Below w.heap.size w (W.drewN nq) := below_drewN HBA.out nq
    go_wp2_with fail
    go_ret
    exact ⟨rfl, hbq⟩
  | true =>
    cases by_ with
    | false =>
      go_enter Try.func139, Try.ntmps139
      go_upto_region 1 with (fail)
      rw [HW.out]
      go_quiet (fail)
      have hbq : Below w.heap.size w (W.drewN nq) := below_drewN HBA.out nq
      go_wp2_with fail
      go_ret
      exact ⟨rfl, hbq⟩
    | true =>
      go_enter Try.func139, Try.ntmps139
      go_upto_region 1 with (fail)
      rw [HW.out]
      go_quiet (fail)
      have hbq : Below w.heap.size w (W.drewN nq) := below_drewN HBA.out nq
      go_wp2_with fail
      go_ret
      exact ⟨by simp, hbq⟩
/-- A node's truth value at a point, out of that of its operand. -/
def booV (nd : Nd) (F : Nat → Nat → Nat) (X : Nat → Nat → Bool) (r t : Nat) : Bool :=
  match nd with
  | .T => true
  | .F => decide (F r t % 2 = 1)
  | .N _ => !X r t
  | .C _ _ => false
set_option maxHeartbeats 8000000 in
set_option maxRecDepth 100000 in
theorem boolean_T (r t b1 b2 b3 b4 : Nat) (w : World) (h1 : NdC w b1 0 .T) :
    Calls Try.prog 123 #[.agg #[.int .i64 r, .int .i64 t], .pointer (some ⟨b1, 0, none⟩), .pointer (some ⟨b2, 0, none⟩), .pointer (some ⟨b3, 0, none⟩), .pointer (some ⟨b4, 0, none⟩)] w fun e w' => e = .returned (.bool true) ∧ Below w.heap.size w w' := by
  have hba := below_alloc w (.cells #[.int .i64 r, .int .i64 t] 26)
  have hpb := Blk.new w #[.int .i64 r, .int .i64 t] 26
  have n0 : (w.alloc (.cells #[.int .i64 r, .int .i64 t] 26)).cell? ⟨b1, 0, none⟩ = some (.int .i64 1) := (h1.below hba).c0
  have HBA := Lib.hid hba
  obtain ⟨W, eW⟩ : ∃ W, W = w.alloc (.cells #[.int .i64 r, .int .i64 t] 26) := ⟨_, rfl⟩
  rw [← eW] at hpb n0 HBA
  have HW := Lib.hid eW.symm
  have p0 := hpb.cell (k := 0) rfl
  have p1 := hpb.cell (k := 1) rfl
  clear h1 hba hpb eW
  go_enter Try.func123, Try.ntmps123
  go_upto_region 1 with (fail)
  rw [HW.out]
  go_quiet (fail)
  have hbq : Below w.heap.size w (W.drewN nq) := below_drewN HBA.out nq
  have n0 := cell_below (below_drewN (Below.refl W.heap.size W) nq) n0
  generalize W.drewN nq = V at hbq n0 ⊢
  go_wp2_with fail
  go_ret
  exact ⟨rfl, hbq⟩
set_option maxHeartbeats 8000000 in
set_option maxRecDepth 100000 in
theorem boolean_N (r t b1 b2 b3 b4 y l n : Nat) (X : Nat → Nat → Bool) (xv : Value) (w : World) (hr : r < n) (ht : t < l) (h1 : NdC w b1 0 (.N y)) (h3 : w.cell? ⟨b3, 0, none⟩ = some xv) (hX : TruR w xv l n X) :
    Calls Try.prog 123 #[.agg #[.int .i64 r, .int .i64 t], .pointer (some ⟨b1, 0, none⟩), .pointer (some ⟨b2, 0, none⟩), .pointer (some ⟨b3, 0, none⟩), .pointer (some ⟨b4, 0, none⟩)] w fun e w' => e = .returned (.bool (!X r t)) ∧ Below w.heap.size w w' := by
  have hba := below_alloc w (.cells #[.int .i64 r, .int .i64 t] 26)
  have hpb := Blk.new w #[.int .i64 r, .int .i64 t] 26
  have n0 : (w.alloc (.cells #[.int .i64 r, .int .i64 t] 26)).cell? ⟨b1, 0, none⟩ = some (.int .i64 4) := (h1.below hba).c0
  replace h3 := cell_below hba h3
  obtain ⟨gx, rfl, x1, x2⟩ := (hX.below hba).at hr ht
  have hr1 : (r : Int) < (n : Int) := by omega
  have ht1 : (t : Int) < (l : Int) := by omega
  have HBA := Lib.hid hba
  obtain ⟨W, eW⟩ : ∃ W, W = w.alloc (.cells #[.int .i64 r, .int .i64 t] 26) := ⟨_, rfl⟩
  rw [← eW] at hpb n0 h3 x1 x2 HBA
  have HW := Lib.hid eW.symm
  have p0 := hpb.cell (k := 0) rfl
  have p1 := hpb.cell (k := 1) rfl
  clear h1 hX hba hpb eW
  go_enter Try.func123, Try.ntmps123
  go_upto_region 1 with (fail)
  rw [HW.out]
  go_quiet (fail)
  have hbq : Below w.heap.size w (W.drewN nq) := below_drewN HBA.out nq
  have hbw := below_drewN (Below.refl W.heap.size W) nq
  have n0 := cell_below hbw n0
  have h3 := cell_below hbw h3
  have x1 := cell_below hbw x1
  have x2 := cell_below hbw x2
  generalize W.drewN nq = V at hbq n0 h3 x1 x2 ⊢
  clear hbw
  go_wp2_with fail
  go_ret
  exact ⟨rfl, hbq⟩
theorem fo_and_one (a : Nat) (ha : a < 256) : bits .and .u64 (a : Int) 1 = ((a % 2 : Nat) : Int) := by
  show IntKind.u64.wrap ((BitVec.ofInt 64 (a : Int) &&& BitVec.ofInt 64 (1 : Int)).toNat : Int) = _
  have h2 : ∀ q : Nat, q < 256 → (BitVec.ofInt 64 (q : Int)).toNat = q := fun q hq => by rw [BitVec.ofInt_natCast, BitVec.toNat_ofNat]; exact Nat.mod_eq_of_lt (by omega)
  rw [BitVec.toNat_and, h2 a ha, show (BitVec.ofInt 64 (1 : Int)).toNat = 1 from rfl, Nat.and_one_is_mod, IntKind.wrap_u64]
  omega
set_option maxHeartbeats 8000000 in
set_option maxRecDepth 100000 in
theorem boolean_F (r t b1 b2 b3 b4 bc l n : Nat) (L : Nat → Nat → Nat → Int) (F : Nat → Nat → Nat) (w : World) (hr : r < n) (ht : t < l) (h1 : NdC w b1 0 .F) (h2 : w.cell? ⟨b2, 0, none⟩ = some (.pointer (some ⟨bc, 0, none⟩))) (hC : ChkR w bc l n L F) (hF : F r t < 256) :
    Calls Try.prog 123 #[.agg #[.int .i64 r, .int .i64 t], .pointer (some ⟨b1, 0, none⟩), .pointer (some ⟨b2, 0, none⟩), .pointer (some ⟨b3, 0, none⟩), .pointer (some ⟨b4, 0, none⟩)] w fun e w' => e = .returned (.bool (decide (F r t % 2 = 1))) ∧ Below w.heap.size w w' := by
  have hba := below_alloc w (.cells #[.int .i64 r, .int .i64 t] 26)
  have hpb := Blk.new w #[.int .i64 r, .int .i64 t] 26
  have n0 : (w.alloc (.cells #[.int .i64 r, .int .i64 t] 26)).cell? ⟨b1, 0, none⟩ = some (.int .i64 3) := (h1.below hba).c0
  have n1 : (w.alloc (.cells #[.int .i64 r, .int .i64 t] 26)).cell? ⟨b1, 1, none⟩ = some (.int .i64 0) := (h1.below hba).c1
  replace h2 := cell_below hba h2
  obtain ⟨gR, oR, cR, c3, hL⟩ := (hC.below hba).fac
  obtain ⟨k1, o1, m1, d1, x1, ht1, x2⟩ := hL r t hr ht
  obtain ⟨y, ey⟩ : ∃ y, y = F r t := ⟨_, rfl⟩
  rw [← ey] at x2 hF ⊢
  have hr1 : (r : Int) < (n : Int) := by omega
  have ht1' : (t : Int) < (m1 : Int) := by omega
  have hand := fo_and_one y hF
  have HBA := Lib.hid hba
  obtain ⟨W, eW⟩ : ∃ W, W = w.alloc (.cells #[.int .i64 r, .int .i64 t] 26) := ⟨_, rfl⟩
  rw [← eW] at hpb n0 n1 h2 c3 x1 x2 HBA
  have HW := Lib.hid eW.symm
  have p0 := hpb.cell (k := 0) rfl
  have p1 := hpb.cell (k := 1) rfl
  clear h1 hC hL hba hpb eW ey
  go_enter Try.func123, Try.ntmps123
  go_upto_region 1 with (fail)
  rw [HW.out]
  go_quiet (fail)
  have hbq : Below w.heap.size w (W.drewN nq) := below_drewN HBA.out nq
  have hbw := below_drewN (Below.refl W.heap.size W) nq
  replace n0 := cell_below hbw n0
  replace n1 := cell_below hbw n1
  replace h2 := cell_below hbw h2
  replace c3 := cell_below hbw c3
  replace x1 := cell_below hbw x1
  replace x2 := cell_below hbw x2
  generalize W.drewN nq = V at hbq n0 n1 h2 c3 x1 x2 ⊢
  clear hbw nq p0 p1
  go_upto_region 6 with (fail)
  go_quiet (fail)
  have hbq2 : Below w.heap.size w (V.drewN nq) := below_drewN hbq nq
  have heq : ((y : Int) % 2 == 1) = decide (y % 2 = 1) := by
    rw [Bool.eq_iff_iff, beq_iff_eq, decide_eq_true_iff]
    omega
  go_wp2_with fail
  go_ret
  exact ⟨congrArg (fun b => Ending.returned (.bool b)) heq, hbq2⟩
end Go.Proofs.Ytahaimecchdfeaa
